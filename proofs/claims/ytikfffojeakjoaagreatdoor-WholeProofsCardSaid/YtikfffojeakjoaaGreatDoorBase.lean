/- The functions of coinagebase that say whether numbers, lists, specimens and graphs are valid. Condition: the arguments read as lists. -/
import Derived.Test.YtikfffojeakjoaaGreatDoorCmp
namespace Go.Proofs.YtikfffojeakjoaaGreatDoor
open Go.RowKit

def inB (n lo hi : Int) : Bool := decide (lo ≤ n) && decide (n ≤ hi)
def hasB (xs : List Int) (x : Int) : Bool := xs.contains x
theorem hasB_snoc {xs : List Int} {k : Nat} {y x : Int} (h : xs[k]? = some y) (h0 : hasB (xs.take k) x = false) : hasB (xs.take (k + 1)) x = (y == x) := by
  unfold hasB at *
  rw [take_snoc' h, List.contains_eq_any_beq, List.any_append, ← List.contains_eq_any_beq, h0]
  simp [Bool.beq_comm]
theorem hasB_yes {xs : List Int} {k : Nat} {y x : Int} (h : xs[k]? = some y) (h0 : (y == x) = true) : hasB xs x = true := by
  unfold hasB
  have := List.mem_of_getElem? h
  simp at h0 ⊢
  subst h0
  exact this
theorem hasB_iff (xs : List Int) (x : Int) : hasB xs x = true ↔ x ∈ xs := by simp [hasB]

set_option maxHeartbeats 400000 in
theorem Has_ok (v : Value) (xs : List Int) (x : Int) (w : World) (h : Ints w v xs) :
    Calls Tryz.prog 6 #[v, .int .i64 x] w fun e w' => e = .returned (.bool (hasB xs x)) ∧ w = w' := by
  obtain ⟨A, c, rfl, h1, h2, hc⟩ := h.cells
  go_enter Tryz.func6, Tryz.ntmps6
  go_wp2
  go_loop [5] (fun i => ∃ k : Nat, k ≤ xs.length ∧ i = .int .i64 k ∧ hasB (xs.take k) x = false) (fun i => xs.length - (intOf i).toNat)
  case atStart => exact ⟨0, Nat.zero_le _, rfl, by simp [hasB]⟩
  case round =>
    obtain ⟨k, hk, rfl, hr⟩ := hrel
    have Hr := Lib.hid hr; clear hr
    by_cases hlt : k < xs.length
    · obtain ⟨b, o, rfl, hb, hc⟩ := hc k hlt
      obtain ⟨y, hy⟩ := get_of_lt hlt
      have c1 := hc w (Below.refl _ _) k y hy
      have Hy := Lib.hid hy; clear hy hc
      go_wp2
      · go_ret
        exact ⟨ret_bool (hasB_yes Hy.out (by assumption)).symm, rfl⟩
      · go_round
        case rel => exact ⟨k + 1, by omega, by go_num, by rw [hasB_snoc Hy.out Hr.out]; assumption⟩
        case measure => simp [intOf]; omega
    · go_wp2
      go_ret
      have := Hr.out
      rw [List.take_of_length_le (by omega)] at this
      exact ⟨ret_bool this.symm, rfl⟩

/-- Strictly ascending numbers from lo to hi. -/
def ascB (xs : List Int) (lo hi : Int) : Bool := decide ((∀ x ∈ xs, lo ≤ x ∧ x ≤ hi) ∧ xs.Pairwise (· < ·))
theorem ascB_nil (lo hi : Int) : ascB [] lo hi = true := by simp [ascB]
theorem asc_snoc (xs : List Int) (lo hi x : Int) (h : ascB xs lo hi = true) : ascB (xs ++ [x]) lo hi = (decide (lo ≤ x) && decide (x ≤ hi) && (xs.getLast?.all fun y => decide (y < x))) := by
  simp only [ascB, decide_eq_true_eq] at h
  rw [Bool.eq_iff_iff]
  simp only [ascB, decide_eq_true_eq, Bool.and_eq_true, List.pairwise_append, List.mem_append, List.mem_singleton]
  constructor
  · rintro ⟨ha, hp, _, hl⟩
    refine ⟨ha x (.inr rfl), ?_⟩
    cases hx : xs.getLast? with
    | none => rfl
    | some y => simp; exact hl y (List.mem_of_getLast? hx) x rfl
  · rintro ⟨ha, hl⟩
    refine ⟨fun y hy => ?_, h.2, List.pairwise_singleton _ _, fun y hy z hz => ?_⟩
    · rcases hy with hy | rfl
      · exact h.1 y hy
      · exact ha
    · subst hz
      cases hx : xs.getLast? with
      | none => rw [List.getLast?_eq_none_iff] at hx; subst hx; cases hy
      | some u =>
        rw [hx] at hl
        simp at hl
        obtain ⟨l, rfl⟩ := List.getLast?_eq_some_iff.1 hx
        have h3 := (List.pairwise_append.1 h.2).2.2
        simp only [List.mem_append, List.mem_singleton] at hy
        rcases hy with hy | rfl
        · have := h3 y hy u (by simp); omega
        · exact hl
theorem ascB_take {xs : List Int} {lo hi : Int} (h : ascB xs lo hi = true) (k : Nat) : ascB (xs.take k) lo hi = true := by
  simp only [ascB, decide_eq_true_eq] at *
  exact ⟨fun x hx => h.1 x (List.mem_of_mem_take hx), h.2.sublist (List.take_sublist _ _)⟩
theorem last_take {α : Type} {xs : List α} {k : Nat} (hk : k < xs.length) : (xs.take (k + 1)).getLast? = xs[k]? := by
  rw [List.getLast?_take]
  simp
  rw [List.getElem?_eq_getElem hk]
  rfl
theorem asc_go {xs : List Int} {lo hi x : Int} {k : Nat} (hx : xs[k]? = some x) (h : ascB (xs.take k) lo hi = true) (h1 : lo ≤ x) (h2 : x ≤ hi) (h3 : ∀ y, 0 < k → xs[k - 1]? = some y → y < x) : ascB (xs.take (k + 1)) lo hi = true := by
  rw [take_snoc' hx, asc_snoc _ _ _ _ h]
  simp only [h1, h2, decide_true, Bool.and_self, Bool.true_and]
  cases k with
  | zero => simp
  | succ k =>
    rw [last_take (by have := lt_of_get hx; omega)]
    cases hy : xs[k]? with
    | none => rfl
    | some y => simpa using h3 y (by omega) hy
theorem asc_stop {xs : List Int} {lo hi x : Int} {k : Nat} (hx : xs[k]? = some x) (h : ascB (xs.take k) lo hi = true) (h1 : ¬ (lo ≤ x ∧ x ≤ hi ∧ ∀ y, 0 < k → xs[k - 1]? = some y → y < x)) : ascB xs lo hi = false := by
  rw [Bool.eq_false_iff]
  intro ha
  have := ascB_take ha (k + 1)
  rw [take_snoc' hx, asc_snoc _ _ _ _ h] at this
  simp only [Bool.and_eq_true, decide_eq_true_eq] at this
  refine h1 ⟨this.1.1, this.1.2, fun y hk hy => ?_⟩
  cases k with
  | zero => omega
  | succ k =>
    rw [last_take (by have := lt_of_get hx; omega)] at this
    simp only [Nat.add_sub_cancel] at hy
    rw [hy] at this
    simpa using this.2

/-- Whether a specimen is valid. -/
def specB (s : Spec) : Bool := inB s.id 1 9999 && (inB s.obv 1 999 && inB s.rev 1 999 && inB s.os 1 9 && inB s.rs 1 9) && inB s.ax 0 11 && inB s.wt 1 200000
end Go.Proofs.YtikfffojeakjoaaGreatDoor
/- The functions of coinagebase that check a corpus list and compare graphs and lists of lists. Condition: the arguments read as lists. -/
namespace Go.Proofs.YtikfffojeakjoaaGreatDoor
open Go.RowKit

/-- The error of a corpus list. -/
def checkE (l : List Spec) : Int := if 64 < l.length then 6 else if l.all specB then (if (l.map Spec.id).Nodup then 0 else 8) else 1
theorem checkE_full {l : List Spec} (h : 64 < l.length) : checkE l = 6 := by simp [checkE, h]
theorem checkE_arg {l : List Spec} {k : Nat} {s : Spec} (h : ¬ 64 < l.length) (hs : l[k]? = some s) (hb : specB s = false) : checkE l = 1 := by
  have : ¬ l.all specB = true := by
    intro ha
    have := List.all_eq_true.1 ha s (List.mem_of_getElem? hs)
    rw [hb] at this
    cases this
  simp only [checkE, if_neg h, if_neg this]
theorem checkE_dup {l : List Spec} {i k : Nat} {s t : Spec} (h : ¬ 64 < l.length) (ha : l.all specB = true) (hs : l[i]? = some s) (ht : l[k]? = some t) (hk : k < i) (he : s.id = t.id) : checkE l = 8 := by
  have : ¬ (l.map Spec.id).Nodup := by
    intro hn
    have h1 := List.pairwise_iff_getElem.1 hn k i (by simpa using lt_of_get ht) (by simpa using lt_of_get hs) hk
    obtain ⟨h2, rfl⟩ := List.getElem?_eq_some_iff.1 hs
    obtain ⟨h3, rfl⟩ := List.getElem?_eq_some_iff.1 ht
    simp at h1
    exact h1 he.symm
  simp only [checkE, if_neg h, if_pos ha, if_neg this]
theorem checkE_ok {l : List Spec} (h : ¬ 64 < l.length) (ha : l.all specB = true) (hn : (l.map Spec.id).Nodup) : checkE l = 0 := by
  simp only [checkE, if_neg h, if_pos ha, if_pos hn]
theorem all_snoc {α : Type} {p : α → Bool} {l : List α} {k : Nat} {x : α} (hx : l[k]? = some x) (h : (l.take k).all p = true) (hp : p x = true) : (l.take (k + 1)).all p = true := by
  rw [take_snoc' hx, List.all_append, h]
  simpa using hp
theorem all_end {α : Type} {p : α → Bool} {l : List α} {k : Nat} (hk : ¬ k < l.length) (h : (l.take k).all p = true) : l.all p = true := by
  rwa [List.take_of_length_le (by omega)] at h
theorem nodup_snoc {l : List Spec} {k : Nat} {s : Spec} (hs : l[k]? = some s) (h : ((l.take k).map Spec.id).Nodup) (hn : ((l.take k).map Spec.id).contains s.id = false) : ((l.take (k + 1)).map Spec.id).Nodup := by
  rw [take_snoc' hs, List.map_append, List.nodup_append]
  have hn' : s.id ∉ (l.take k).map Spec.id := by
    intro hm
    rw [List.contains_iff_mem.2 hm] at hn
    cases hn
  refine ⟨h, by simp, fun a ha b hb e => ?_⟩
  simp only [List.map_cons, List.map_nil, List.mem_singleton] at hb
  subst hb
  exact hn' (e ▸ ha)
theorem nodup_end {l : List Spec} {k : Nat} (hk : ¬ k < l.length) (h : ((l.take k).map Spec.id).Nodup) : (l.map Spec.id).Nodup := by
  rwa [List.take_of_length_le (by omega)] at h
theorem contains_snoc {l : List Spec} {k : Nat} {t : Spec} {x : Int} (ht : l[k]? = some t) (h : ((l.take k).map Spec.id).contains x = false) (hn : x ≠ t.id) : ((l.take (k + 1)).map Spec.id).contains x = false := by
  rw [take_snoc' ht]
  rw [List.map_append, List.contains_eq_any_beq, List.any_append, ← List.contains_eq_any_beq, h]
  simpa using hn

theorem ret_i64 {a b : Int} (h : a = b) : Ending.returned (.int .i64 a) = .returned (.int .i64 b) := by rw [h]

/-! ### Graphs -/
/-- Whether a graph is valid. -/
def graphB (g : Graph) : Bool :=
  decide (g.obv.length ≤ 32) && decide (g.rev.length ≤ 32) && decide (g.links.length ≤ 64) && ascB g.obv 1 999 && ascB g.rev 1 999 && ascB (g.links.map Link.id) 1 9999 &&
    g.links.all (fun x => hasB g.obv x.obv && hasB g.rev x.rev) && g.obv.all (fun n => hasB (g.links.map Link.obv) n) && g.rev.all (fun n => hasB (g.links.map Link.rev) n)
structure GraphOK (g : Graph) : Prop where
  lo : g.obv.length ≤ 32
  lr : g.rev.length ≤ 32
  ll : g.links.length ≤ 64
  ao : ascB g.obv 1 999 = true
  ar : ascB g.rev 1 999 = true
  ids : ascB (g.links.map Link.id) 1 9999 = true
  ends : g.links.all (fun x => hasB g.obv x.obv && hasB g.rev x.rev) = true
  uo : g.obv.all (fun n => hasB (g.links.map Link.obv) n) = true
  ur : g.rev.all (fun n => hasB (g.links.map Link.rev) n) = true
theorem graphB_iff (g : Graph) : graphB g = true ↔ GraphOK g := by
  simp only [graphB, Bool.and_eq_true, decide_eq_true_eq]
  exact ⟨fun ⟨⟨⟨⟨⟨⟨⟨⟨a, b⟩, c⟩, d⟩, e⟩, f⟩, g⟩, h⟩, i⟩ => ⟨a, b, c, d, e, f, g, h, i⟩, fun ⟨a, b, c, d, e, f, g, h, i⟩ => ⟨⟨⟨⟨⟨⟨⟨⟨a, b⟩, c⟩, d⟩, e⟩, f⟩, g⟩, h⟩, i⟩⟩
theorem graphB_no {g : Graph} (h : ¬ GraphOK g) : graphB g = false := by
  rw [Bool.eq_false_iff]
  exact fun e => h ((graphB_iff g).1 e)

theorem GraphAt.below {w w' : World} {v : Value} {g : Graph} (h : GraphAt w v g) (hb : Below w.heap.size w w') : GraphAt w' v g := by
  obtain ⟨v1, v2, v3, e, a, b, c⟩ := h
  exact ⟨v1, v2, v3, e, SlOf.below a hb, SlOf.below b hb, SlOf.below c hb⟩
theorem bcell {W w1 : World} (hb : Below W.heap.size W w1) : (∀ b o, b < W.heap.size → w1.cell? ⟨b, o, none⟩ = W.cell? ⟨b, o, none⟩) ∧ (∀ b o, b < W.heap.size → w1.frozen? ⟨b, o, none⟩ = W.frozen? ⟨b, o, none⟩) :=
  ⟨fun b o h => hb.cell (p := ⟨b, o, none⟩) h, fun b o h => hb.frozen (p := ⟨b, o, none⟩) h⟩

end Go.Proofs.YtikfffojeakjoaaGreatDoor
/- coinagebase.Graph answers whether a graph is valid. Condition: the argument reads as a graph. -/
namespace Go.Proofs.YtikfffojeakjoaaGreatDoor
open Go.RowKit

def linkOK (g : Graph) (x : Link) : Bool := hasB g.obv x.obv && hasB g.rev x.rev
def GInv (g : Graph) (W : World) (v3 v4 i : Value) (wr : World) : Prop := ∃ k : Nat, k ≤ g.links.length ∧ i = .int .i64 k ∧ ascB ((g.links.take k).map Link.id) 1 9999 = true ∧ (g.links.take k).all (linkOK g) = true ∧
  OwnI W.heap.size wr v3 ((g.links.take k).map Link.obv) ∧ OwnI W.heap.size wr v4 ((g.links.take k).map Link.rev) ∧ Apart v3 v4 ∧ Below W.heap.size W wr
theorem map_take_snoc {α β : Type} (f : α → β) {l : List α} {k : Nat} {x : α} (h : l[k]? = some x) : (l.take (k + 1)).map f = (l.take k).map f ++ [f x] := by rw [take_snoc' h, List.map_append]; rfl
theorem map_get {α β : Type} (f : α → β) {l : List α} {k : Nat} {x : α} (h : l[k]? = some x) : (l.map f)[k]? = some (f x) := by simp [h]
theorem asc_map_go {l : List Link} {k : Nat} {x : Link} (hx : l[k]? = some x) (h : ascB ((l.take k).map Link.id) 1 9999 = true) (h1 : inB x.id 1 9999 = true) (h3 : ∀ y, 0 < k → l[k - 1]? = some y → y.id < x.id) : ascB ((l.take (k + 1)).map Link.id) 1 9999 = true := by
  simp only [inB, Bool.and_eq_true, decide_eq_true_eq] at h1
  rw [List.map_take] at h ⊢
  refine asc_go (map_get _ hx) h h1.1 h1.2 fun y hk hy => ?_
  simp only [List.getElem?_map, Option.map_eq_some_iff] at hy
  obtain ⟨z, hz, rfl⟩ := hy
  exact h3 z hk hz
theorem asc_map_stop {l : List Link} {k : Nat} {x : Link} (hx : l[k]? = some x) (h : ascB ((l.take k).map Link.id) 1 9999 = true) (h1 : inB x.id 1 9999 = false ∨ ∃ y, 0 < k ∧ l[k - 1]? = some y ∧ x.id ≤ y.id) : ascB (l.map Link.id) 1 9999 = false := by
  rw [List.map_take] at h
  refine asc_stop (map_get _ hx) h fun ⟨a, b, c⟩ => ?_
  rcases h1 with h1 | ⟨y, hk, hy, hle⟩
  · simp [inB, a, b] at h1
  · have := c y.id hk (map_get _ hy)
    omega

end Go.Proofs.YtikfffojeakjoaaGreatDoor
