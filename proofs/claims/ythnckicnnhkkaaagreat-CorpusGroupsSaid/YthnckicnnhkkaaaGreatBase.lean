/- The functions of coinagebase that say whether numbers, lists, specimens and graphs are valid. Condition: the arguments read as lists. -/
import Derived.Test.YthnckicnnhkkaaaGreatCmp
namespace Go.Proofs.YthnckicnnhkkaaaGreat
open Go.RowKit

def inB (n lo hi : Int) : Bool := decide (lo ≤ n) && decide (n ≤ hi)
set_option maxHeartbeats 400000 in
theorem In_ok (n lo hi : Int) (w : World) : Calls Tryz.prog 184 #[.int .i64 n, .int .i64 lo, .int .i64 hi] w fun e w' => e = .returned (.bool (inB n lo hi)) ∧ w = w' := by
  by_cases h1 : lo ≤ n
  · have hd : decide (lo ≤ n) = true := by simpa using h1
    go_enter Tryz.func184, Tryz.ntmps184
    go_wp2
    go_ret
    exact ⟨ret_bool (by simp [inB, h1]), rfl⟩
  · have hd : decide (lo ≤ n) = false := by simpa using h1
    go_enter Tryz.func184, Tryz.ntmps184
    go_wp2
    go_ret
    exact ⟨ret_bool (by simp only [inB, hd, Bool.false_and]), rfl⟩
theorem Number_ok (n : Int) (w : World) : Calls Tryz.prog 183 #[.int .i64 n] w fun e w' => e = .returned (.bool (inB n 1 999)) ∧ w = w' := by
  go_enter Tryz.func183, Tryz.ntmps183
  go_wp2_with (go_at_call 184; refine (In_ok _ _ _ _).mono ?_; rintro e w' ⟨rfl, rfl⟩)
  go_ret
  exact ⟨rfl, rfl⟩
theorem Id_ok (n : Int) (w : World) : Calls Tryz.prog 185 #[.int .i64 n] w fun e w' => e = .returned (.bool (inB n 1 9999)) ∧ w = w' := by
  go_enter Tryz.func185, Tryz.ntmps185
  go_wp2_with (go_at_call 184; refine (In_ok _ _ _ _).mono ?_; rintro e w' ⟨rfl, rfl⟩)
  go_ret
  exact ⟨rfl, rfl⟩

def hasB (xs : List Int) (x : Int) : Bool := xs.contains x
theorem hasB_snoc {xs : List Int} {k : Nat} {y x : Int} (h : xs[k]? = some y) (h0 : hasB (xs.take k) x = false) : hasB (xs.take (k + 1)) x = (y == x) := by
  unfold hasB at *
  rw [take_snoc' h, List.contains_eq_any_beq, List.any_append, ← List.contains_eq_any_beq, h0]
  simp [Bool.beq_comm]
theorem hasB_yes {xs : List Int} {k : Nat} {y x : Int} (h : xs[k]? = some y) (h0 : (y == x) = true) : hasB xs x = true := by
  unfold hasB
  have := List.mem_of_getElem? h
  simp at h0 ⊢
  subst h0
  exact this
theorem hasB_iff (xs : List Int) (x : Int) : hasB xs x = true ↔ x ∈ xs := by simp [hasB]

set_option maxHeartbeats 400000 in
theorem Has_ok (v : Value) (xs : List Int) (x : Int) (w : World) (h : Ints w v xs) :
    Calls Tryz.prog 35 #[v, .int .i64 x] w fun e w' => e = .returned (.bool (hasB xs x)) ∧ w = w' := by
  obtain ⟨A, c, rfl, h1, h2, hc⟩ := h.cells
  go_enter Tryz.func35, Tryz.ntmps35
  go_wp2
  go_loop [5] (fun i => ∃ k : Nat, k ≤ xs.length ∧ i = .int .i64 k ∧ hasB (xs.take k) x = false) (fun i => xs.length - (intOf i).toNat)
  case atStart => exact ⟨0, Nat.zero_le _, rfl, by simp [hasB]⟩
  case round =>
    obtain ⟨k, hk, rfl, hr⟩ := hrel
    have Hr := Lib.hid hr; clear hr
    by_cases hlt : k < xs.length
    · obtain ⟨b, o, rfl, hb, hc⟩ := hc k hlt
      obtain ⟨y, hy⟩ := get_of_lt hlt
      have c1 := hc w (Below.refl _ _) k y hy
      have Hy := Lib.hid hy; clear hy hc
      go_wp2
      · go_ret
        exact ⟨ret_bool (hasB_yes Hy.out (by assumption)).symm, rfl⟩
      · go_round
        case rel => exact ⟨k + 1, by omega, by go_num, by rw [hasB_snoc Hy.out Hr.out]; assumption⟩
        case measure => simp [intOf]; omega
    · go_wp2
      go_ret
      have := Hr.out
      rw [List.take_of_length_le (by omega)] at this
      exact ⟨ret_bool this.symm, rfl⟩

/-- Strictly ascending numbers from lo to hi. -/
def ascB (xs : List Int) (lo hi : Int) : Bool := decide ((∀ x ∈ xs, lo ≤ x ∧ x ≤ hi) ∧ xs.Pairwise (· < ·))
theorem ascB_nil (lo hi : Int) : ascB [] lo hi = true := by simp [ascB]
theorem asc_snoc (xs : List Int) (lo hi x : Int) (h : ascB xs lo hi = true) : ascB (xs ++ [x]) lo hi = (decide (lo ≤ x) && decide (x ≤ hi) && (xs.getLast?.all fun y => decide (y < x))) := by
  simp only [ascB, decide_eq_true_eq] at h
  rw [Bool.eq_iff_iff]
  simp only [ascB, decide_eq_true_eq, Bool.and_eq_true, List.pairwise_append, List.mem_append, List.mem_singleton]
  constructor
  · rintro ⟨ha, hp, _, hl⟩
    refine ⟨ha x (.inr rfl), ?_⟩
    cases hx : xs.getLast? with
    | none => rfl
    | some y => simp; exact hl y (List.mem_of_getLast? hx) x rfl
  · rintro ⟨ha, hl⟩
    refine ⟨fun y hy => ?_, h.2, List.pairwise_singleton _ _, fun y hy z hz => ?_⟩
    · rcases hy with hy | rfl
      · exact h.1 y hy
      · exact ha
    · subst hz
      cases hx : xs.getLast? with
      | none => rw [List.getLast?_eq_none_iff] at hx; subst hx; cases hy
      | some u =>
        rw [hx] at hl
        simp at hl
        obtain ⟨l, rfl⟩ := List.getLast?_eq_some_iff.1 hx
        have h3 := (List.pairwise_append.1 h.2).2.2
        simp only [List.mem_append, List.mem_singleton] at hy
        rcases hy with hy | rfl
        · have := h3 y hy u (by simp); omega
        · exact hl
theorem ascB_take {xs : List Int} {lo hi : Int} (h : ascB xs lo hi = true) (k : Nat) : ascB (xs.take k) lo hi = true := by
  simp only [ascB, decide_eq_true_eq] at *
  exact ⟨fun x hx => h.1 x (List.mem_of_mem_take hx), h.2.sublist (List.take_sublist _ _)⟩
theorem last_take {α : Type} {xs : List α} {k : Nat} (hk : k < xs.length) : (xs.take (k + 1)).getLast? = xs[k]? := by
  rw [List.getLast?_take]
  simp
  rw [List.getElem?_eq_getElem hk]
  rfl
theorem asc_go {xs : List Int} {lo hi x : Int} {k : Nat} (hx : xs[k]? = some x) (h : ascB (xs.take k) lo hi = true) (h1 : lo ≤ x) (h2 : x ≤ hi) (h3 : ∀ y, 0 < k → xs[k - 1]? = some y → y < x) : ascB (xs.take (k + 1)) lo hi = true := by
  rw [take_snoc' hx, asc_snoc _ _ _ _ h]
  simp only [h1, h2, decide_true, Bool.and_self, Bool.true_and]
  cases k with
  | zero => simp
  | succ k =>
    rw [last_take (by have := lt_of_get hx; omega)]
    cases hy : xs[k]? with
    | none => rfl
    | some y => simpa using h3 y (by omega) hy
theorem asc_stop {xs : List Int} {lo hi x : Int} {k : Nat} (hx : xs[k]? = some x) (h : ascB (xs.take k) lo hi = true) (h1 : ¬ (lo ≤ x ∧ x ≤ hi ∧ ∀ y, 0 < k → xs[k - 1]? = some y → y < x)) : ascB xs lo hi = false := by
  rw [Bool.eq_false_iff]
  intro ha
  have := ascB_take ha (k + 1)
  rw [take_snoc' hx, asc_snoc _ _ _ _ h] at this
  simp only [Bool.and_eq_true, decide_eq_true_eq] at this
  refine h1 ⟨this.1.1, this.1.2, fun y hk hy => ?_⟩
  cases k with
  | zero => omega
  | succ k =>
    rw [last_take (by have := lt_of_get hx; omega)] at this
    simp only [Nat.add_sub_cancel] at hy
    rw [hy] at this
    simpa using this.2

/-- Whether a specimen is valid. -/
def specB (s : Spec) : Bool := inB s.id 1 9999 && (inB s.obv 1 999 && inB s.rev 1 999 && inB s.os 1 9 && inB s.rs 1 9) && inB s.ax 0 11 && inB s.wt 1 200000
set_option maxHeartbeats 1000000 in
theorem Specimen_ok (s : Spec) (w : World) : Calls Tryz.prog 139 #[.agg #[.int .i64 s.id, .int .i64 s.obv, .int .i64 s.rev, .int .i64 s.os, .int .i64 s.rs, .int .i64 s.ax, .int .i64 s.wt]] w
    fun e w' => e = .returned (.bool (specB s)) ∧ Below w.heap.size w w' := by
  go_enter Tryz.func139, Tryz.ntmps139
  go_wp2_with (first
    | (go_at_call 183; refine (Number_ok _ _).mono ?_; rintro e w' ⟨rfl, rfl⟩)
    | (go_at_call 184; refine (In_ok _ _ _ _).mono ?_; rintro e w' ⟨rfl, rfl⟩)
    | (go_at_call 185; refine (Id_ok _ _).mono ?_; rintro e w' ⟨rfl, rfl⟩))
  all_goals
    go_ret
    exact ⟨ret_bool (by simp [specB, *]), (Below.refl _ _).alloc (Nat.le_refl _) _⟩
end Go.Proofs.YthnckicnnhkkaaaGreat
/- The functions of coinagebase that check a corpus list and compare graphs and lists of lists. Condition: the arguments read as lists. -/
namespace Go.Proofs.YthnckicnnhkkaaaGreat
open Go.RowKit

/-- The error of a corpus list. -/
def checkE (l : List Spec) : Int := if 64 < l.length then 6 else if l.all specB then (if (l.map Spec.id).Nodup then 0 else 8) else 1
theorem checkE_full {l : List Spec} (h : 64 < l.length) : checkE l = 6 := by simp [checkE, h]
theorem checkE_arg {l : List Spec} {k : Nat} {s : Spec} (h : ¬ 64 < l.length) (hs : l[k]? = some s) (hb : specB s = false) : checkE l = 1 := by
  have : ¬ l.all specB = true := by
    intro ha
    have := List.all_eq_true.1 ha s (List.mem_of_getElem? hs)
    rw [hb] at this
    cases this
  simp only [checkE, if_neg h, if_neg this]
theorem checkE_dup {l : List Spec} {i k : Nat} {s t : Spec} (h : ¬ 64 < l.length) (ha : l.all specB = true) (hs : l[i]? = some s) (ht : l[k]? = some t) (hk : k < i) (he : s.id = t.id) : checkE l = 8 := by
  have : ¬ (l.map Spec.id).Nodup := by
    intro hn
    have h1 := List.pairwise_iff_getElem.1 hn k i (by simpa using lt_of_get ht) (by simpa using lt_of_get hs) hk
    obtain ⟨h2, rfl⟩ := List.getElem?_eq_some_iff.1 hs
    obtain ⟨h3, rfl⟩ := List.getElem?_eq_some_iff.1 ht
    simp at h1
    exact h1 he.symm
  simp only [checkE, if_neg h, if_pos ha, if_neg this]
theorem checkE_ok {l : List Spec} (h : ¬ 64 < l.length) (ha : l.all specB = true) (hn : (l.map Spec.id).Nodup) : checkE l = 0 := by
  simp only [checkE, if_neg h, if_pos ha, if_pos hn]
theorem all_snoc {α : Type} {p : α → Bool} {l : List α} {k : Nat} {x : α} (hx : l[k]? = some x) (h : (l.take k).all p = true) (hp : p x = true) : (l.take (k + 1)).all p = true := by
  rw [take_snoc' hx, List.all_append, h]
  simpa using hp
theorem all_end {α : Type} {p : α → Bool} {l : List α} {k : Nat} (hk : ¬ k < l.length) (h : (l.take k).all p = true) : l.all p = true := by
  rwa [List.take_of_length_le (by omega)] at h
theorem nodup_snoc {l : List Spec} {k : Nat} {s : Spec} (hs : l[k]? = some s) (h : ((l.take k).map Spec.id).Nodup) (hn : ((l.take k).map Spec.id).contains s.id = false) : ((l.take (k + 1)).map Spec.id).Nodup := by
  rw [take_snoc' hs, List.map_append, List.nodup_append]
  have hn' : s.id ∉ (l.take k).map Spec.id := by
    intro hm
    rw [List.contains_iff_mem.2 hm] at hn
    cases hn
  refine ⟨h, by simp, fun a ha b hb e => ?_⟩
  simp only [List.map_cons, List.map_nil, List.mem_singleton] at hb
  subst hb
  exact hn' (e ▸ ha)
theorem nodup_end {l : List Spec} {k : Nat} (hk : ¬ k < l.length) (h : ((l.take k).map Spec.id).Nodup) : (l.map Spec.id).Nodup := by
  rwa [List.take_of_length_le (by omega)] at h
theorem contains_snoc {l : List Spec} {k : Nat} {t : Spec} {x : Int} (ht : l[k]? = some t) (h : ((l.take k).map Spec.id).contains x = false) (hn : x ≠ t.id) : ((l.take (k + 1)).map Spec.id).contains x = false := by
  rw [take_snoc' ht]
  rw [List.map_append, List.contains_eq_any_beq, List.any_append, ← List.contains_eq_any_beq, h]
  simpa using hn

theorem ret_i64 {a b : Int} (h : a = b) : Ending.returned (.int .i64 a) = .returned (.int .i64 b) := by rw [h]

set_option maxHeartbeats 1000000 in
theorem Check_ok (v : Value) (l : List Spec) (w : World) (h : Specs w v l) :
    Calls Tryz.prog 90 #[v] w fun e w' => e = .returned (.int .i64 (checkE l)) ∧ Below w.heap.size w w' := by
  obtain ⟨A, c, rfl, h1, h2, hc⟩ := h.cells
  by_cases hf : 64 < l.length
  · have hd : decide ((64 : Int) < (l.length : Int)) = true := by simp; omega
    go_enter Tryz.func90, Tryz.ntmps90
    go_wp2
    go_ret
    exact ⟨ret_i64 (checkE_full hf).symm, Below.refl _ _⟩
  · have hd : decide ((64 : Int) < (l.length : Int)) = false := by simp; omega
    go_enter Tryz.func90, Tryz.ntmps90
    go_wp2
    go_loopw [3] (fun i wr => ∃ k : Nat, k ≤ l.length ∧ i = .int .i64 k ∧ (l.take k).all specB = true ∧ Below w.heap.size w wr) (fun i _ => l.length - (intOf i).toNat)
    case atStart => exact ⟨0, Nat.zero_le _, rfl, by simp, Below.refl _ _⟩
    case round =>
      obtain ⟨k, hk, rfl, hr, hb⟩ := hrel
      have Hr := Lib.hid hr; clear hr
      by_cases hlt : k < l.length
      · obtain ⟨b, o, rfl, _, hc⟩ := hc k hlt
        obtain ⟨s, hs⟩ := get_of_lt hlt
        obtain ⟨c0, c1, c2, c3, c4, c5, c6⟩ := hc wr hb k s hs
        have Hs := Lib.hid hs; clear hs hc
        cases hv : specB s
        · go_wp2_with (go_at_call 139; refine (Specimen_ok s _).mono ?_; rintro e w1 ⟨rfl, hb1⟩)
          go_ret
          exact ⟨ret_i64 (checkE_arg hf Hs.out hv).symm, below_trans hb (hb1.mono (Nat.le_refl _))⟩
        · go_wp2_with (go_at_call 139; refine (Specimen_ok s _).mono ?_; rintro e w1 ⟨rfl, hb1⟩)
          refine ⟨?rel, ?measure⟩
          case rel => exact ⟨k + 1, by omega, by go_num, all_snoc Hs.out Hr.out hv, below_trans hb hb1⟩
          case measure => simp [intOf]; omega
      · have Ha := Lib.hid (all_end hlt Hr.out)
        clear Hr
        go_wp2
        go_loopw [4, 5] (fun i _ wr => ∃ k : Nat, k ≤ l.length ∧ i = .int .i64 k ∧ ((l.take k).map Spec.id).Nodup ∧ Below w.heap.size w wr) (fun i _ _ => l.length - (intOf i).toNat)
        case atStart => exact ⟨0, Nat.zero_le _, rfl, by simp, hb⟩
        case round =>
          clear hb hlt hk
          obtain ⟨i, hk, rfl, hr, hb⟩ := hrel
          have Hr := Lib.hid hr; clear hr
          by_cases hlt : i < l.length
          · obtain ⟨b, o, rfl, _, hc⟩ := hc i hlt
            obtain ⟨s, hs⟩ := get_of_lt hlt
            have Hs := Lib.hid hs
            obtain ⟨wo, rfl⟩ : ∃ wo : World, wo = wr := ⟨_, rfl⟩
            clear hs
            go_wp2
            go_loopw [5] (fun j wr => ∃ k : Nat, k ≤ i ∧ j = .int .i64 k ∧ ((l.take k).map Spec.id).contains s.id = false ∧ Below w.heap.size w wr) (fun j _ => i - (intOf j).toNat)
            case atStart => exact ⟨0, Nat.zero_le _, rfl, by simp, hb⟩
            case round =>
              clear hb
              obtain ⟨m, hk', rfl, hr, hb⟩ := hrel
              have Hc := Lib.hid hr; clear hr
              by_cases hki : m < i
              · obtain ⟨t, ht⟩ := get_of_lt (show m < l.length by omega)
                obtain ⟨c0, _⟩ := hc wr hb i s Hs.out
                obtain ⟨d0, _⟩ := hc wr hb m t ht
                have Ht := Lib.hid ht; clear ht hc
                have hl1 : (i : Int) < (l.length : Int) := by omega
                have hl2 : (m : Int) < (l.length : Int) := by omega
                have hl3 : (0 : Int) ≤ (i : Int) := by omega
                have hl4 : (0 : Int) ≤ (m : Int) := by omega
                by_cases he : s.id = t.id
                · have hd2 : (s.id == t.id) = true := by simp [he]
                  have He := Lib.hid he; clear he
                  go_wp2
                  go_quiet (fail)
                  go_wp2
                  go_ret
                  exact ⟨ret_i64 (checkE_dup hf Ha.out Hs.out Ht.out hki He.out).symm, hb.trans (below_drewN (Below.refl _ _) _)⟩
                · have hd2 : (s.id == t.id) = false := by simp [he]
                  go_wp2
                  go_quiet (fail)
                  go_wp2
                  refine ⟨?rel, ?measure⟩
                  case rel => exact ⟨m + 1, by omega, by go_num, contains_snoc Ht.out Hc.out he, hb.trans (below_drewN (Below.refl _ _) _)⟩
                  case measure => simp [intOf]; omega
              · have hke : m = i := by omega
                have Hc' : Hid (((l.take i).map Spec.id).contains s.id = false) := by rw [← hke]; exact Hc.out
                clear Hc hke
                go_wp2
                refine ⟨?rel, ?measure⟩
                case rel => exact ⟨i + 1, by omega, by go_num, nodup_snoc Hs.out Hr.out Hc'.out, hb⟩
                case measure => simp [intOf]; omega
          · go_wp2
            go_ret
            exact ⟨ret_i64 (checkE_ok hf Ha.out (nodup_end hlt Hr.out)).symm, hb⟩

/-! ### Graphs -/
/-- Whether a graph is valid. -/
def graphB (g : Graph) : Bool :=
  decide (g.obv.length ≤ 32) && decide (g.rev.length ≤ 32) && decide (g.links.length ≤ 64) && ascB g.obv 1 999 && ascB g.rev 1 999 && ascB (g.links.map Link.id) 1 9999 &&
    g.links.all (fun x => hasB g.obv x.obv && hasB g.rev x.rev) && g.obv.all (fun n => hasB (g.links.map Link.obv) n) && g.rev.all (fun n => hasB (g.links.map Link.rev) n)
structure GraphOK (g : Graph) : Prop where
  lo : g.obv.length ≤ 32
  lr : g.rev.length ≤ 32
  ll : g.links.length ≤ 64
  ao : ascB g.obv 1 999 = true
  ar : ascB g.rev 1 999 = true
  ids : ascB (g.links.map Link.id) 1 9999 = true
  ends : g.links.all (fun x => hasB g.obv x.obv && hasB g.rev x.rev) = true
  uo : g.obv.all (fun n => hasB (g.links.map Link.obv) n) = true
  ur : g.rev.all (fun n => hasB (g.links.map Link.rev) n) = true
theorem graphB_iff (g : Graph) : graphB g = true ↔ GraphOK g := by
  simp only [graphB, Bool.and_eq_true, decide_eq_true_eq]
  exact ⟨fun ⟨⟨⟨⟨⟨⟨⟨⟨a, b⟩, c⟩, d⟩, e⟩, f⟩, g⟩, h⟩, i⟩ => ⟨a, b, c, d, e, f, g, h, i⟩, fun ⟨a, b, c, d, e, f, g, h, i⟩ => ⟨⟨⟨⟨⟨⟨⟨⟨a, b⟩, c⟩, d⟩, e⟩, f⟩, g⟩, h⟩, i⟩⟩
theorem GraphAt.below {w w' : World} {v : Value} {g : Graph} (h : GraphAt w v g) (hb : Below w.heap.size w w') : GraphAt w' v g := by
  obtain ⟨v1, v2, v3, e, a, b, c⟩ := h
  exact ⟨v1, v2, v3, e, SlOf.below a hb, SlOf.below b hb, SlOf.below c hb⟩
end Go.Proofs.YthnckicnnhkkaaaGreat
/- coinagebase.Graph answers whether a graph is valid. Condition: the argument reads as a graph. -/
namespace Go.Proofs.YthnckicnnhkkaaaGreat
open Go.RowKit

def linkOK (g : Graph) (x : Link) : Bool := hasB g.obv x.obv && hasB g.rev x.rev
theorem map_take_snoc {α β : Type} (f : α → β) {l : List α} {k : Nat} {x : α} (h : l[k]? = some x) : (l.take (k + 1)).map f = (l.take k).map f ++ [f x] := by rw [take_snoc' h, List.map_append]; rfl
theorem map_get {α β : Type} (f : α → β) {l : List α} {k : Nat} {x : α} (h : l[k]? = some x) : (l.map f)[k]? = some (f x) := by simp [h]
theorem asc_map_go {l : List Link} {k : Nat} {x : Link} (hx : l[k]? = some x) (h : ascB ((l.take k).map Link.id) 1 9999 = true) (h1 : inB x.id 1 9999 = true) (h3 : ∀ y, 0 < k → l[k - 1]? = some y → y.id < x.id) : ascB ((l.take (k + 1)).map Link.id) 1 9999 = true := by
  simp only [inB, Bool.and_eq_true, decide_eq_true_eq] at h1
  rw [List.map_take] at h ⊢
  refine asc_go (map_get _ hx) h h1.1 h1.2 fun y hk hy => ?_
  simp only [List.getElem?_map, Option.map_eq_some_iff] at hy
  obtain ⟨z, hz, rfl⟩ := hy
  exact h3 z hk hz
theorem asc_map_stop {l : List Link} {k : Nat} {x : Link} (hx : l[k]? = some x) (h : ascB ((l.take k).map Link.id) 1 9999 = true) (h1 : inB x.id 1 9999 = false ∨ ∃ y, 0 < k ∧ l[k - 1]? = some y ∧ x.id ≤ y.id) : ascB (l.map Link.id) 1 9999 = false := by
  rw [List.map_take] at h
  refine asc_stop (map_get _ hx) h fun ⟨a, b, c⟩ => ?_
  rcases h1 with h1 | ⟨y, hk, hy, hle⟩
  · simp [inB, a, b] at h1
  · have := c y.id hk (map_get _ hy)
    omega

end Go.Proofs.YthnckicnnhkkaaaGreat
/- More words for memory: a variable in a block of its own, a slice of slices. No condition. -/
namespace Go.Proofs.YthnckicnnhkkaaaGreat
open Go.RowKit

/-- A variable in a block of its own. -/
theorem boxed (w : World) (cs : Array Value) (t : TypeId) : ∃ W, w.alloc (.cells cs t) = W ∧ Hid (W.heap.size = w.heap.size + 1) ∧ Below w.heap.size w W ∧ w.heap.size < W.heap.size ∧ ∀ i v, cs[i]? = some v → W.cell? ⟨w.heap.size, i, none⟩ = some v :=
  ⟨_, rfl, World.size_alloc _ _, (Below.refl _ _).alloc (Nat.le_refl _) _, by simp, fun i v h => by simp [h]⟩

/-- A slice of slices of numbers. -/
def Rows (w : World) (v : Value) (xss : List (List Int)) : Prop :=
  ∃ A c vs, v = .slice A xss.length c ∧ xss.length ≤ c ∧ c ≤ maxLen ∧ Sl w 1 A xss.length vs ∧ ∀ (i : Nat) (u : Value) (xs : List Int), vs[i]? = some u → xss[i]? = some xs → Ints w u xs
theorem Rows.below {w w' : World} {v : Value} {xss : List (List Int)} (h : Rows w v xss) (hb : Below w.heap.size w w') : Rows w' v xss := by
  obtain ⟨A, c, vs, e, h1, h2, h3, h4⟩ := h
  exact ⟨A, c, vs, e, h1, h2, h3.below hb, fun i u xs hu hx => (h4 i u xs hu hx).below hb⟩
theorem Rows.cells {w : World} {v : Value} {xss : List (List Int)} (h : Rows w v xss) : ∃ A c, v = .slice A xss.length c ∧ xss.length ≤ c ∧ (c : Int) ≤ 9223372036854775807 ∧
    ∀ k, k < xss.length → ∃ b o, A = some ⟨b, o, none⟩ ∧ b < w.heap.size ∧ ∀ i xs, xss[i]? = some xs → ∃ A' c', Ints w (.slice A' xs.length c') xs ∧ (c' : Int) ≤ 9223372036854775807 ∧ xs.length ≤ c' ∧ ∀ w', Below w.heap.size w w' → w'.cell? ⟨b, o + i, none⟩ = some (.slice A' xs.length c') := by
  obtain ⟨A, c, vs, e, h1, h2, h3, h4⟩ := h
  refine ⟨A, c, e, h1, by simp only [maxLen] at h2; omega, fun k hk => ?_⟩
  obtain ⟨b, o, e, hb, hc⟩ := h3.2 (by omega)
  refine ⟨b, o, e, hb, fun i xs hx => ?_⟩
  have hi : i < vs.length := by have := (List.getElem?_eq_some_iff.1 hx).1; have := h3.1; omega
  have hv : vs[i]? = some vs[i] := List.getElem?_eq_getElem hi
  have hI := h4 i _ xs hv hx
  obtain ⟨A', c', e', q1, q2, q3⟩ := hI
  refine ⟨A', c', ⟨A', c', rfl, q1, q2, q3⟩, by simp only [maxLen] at q2; omega, q1, fun w' hw' => ?_⟩
  have := cell_later hw' (hc i _ hv)
  rwa [e'] at this


theorem SlOf.sl {α : Type} {enc : α → List Value} {k n c : Nat} {w : World} {A : Option Addr} {xs : List α} (h : SlOf enc k w (.slice A n c) xs) : Sl w k A xs.length (xs.flatMap enc) := by
  obtain ⟨A', c', e, _, _, h3⟩ := h
  injection e with e1 _ _
  subst e1
  exact h3

/-- The slice lies in no block below B. -/
def Fresh (B : Nat) (v : Value) : Prop := ∀ g, v.ownBlock = some g → B ≤ g
theorem Fresh.mono {B B' : Nat} {v : Value} (h : Fresh B v) (hB : B' ≤ B) : Fresh B' v := fun g hg => Nat.le_trans hB (h g hg)
theorem Own.fresh {α : Type} {enc : α → List Value} {k : Nat} {e : TypeId} {B : Nat} {w : World} {v : Value} {xs : List α} (h : Own enc k e B w v xs) : Fresh B v := fun g hg => (h.lt g hg).1
theorem SlOf.setCell {α : Type} {enc : α → List Value} {k : Nat} {w : World} {v : Value} {xs : List α} (h : SlOf enc k w v xs) {p : Addr} (hp : v.ownBlock ≠ some p.block) (u : Value) : SlOf enc k (w.setCell p u) v xs := by
  obtain ⟨A, c, rfl, h1, h2, h3, h4⟩ := h
  refine ⟨A, c, rfl, h1, h2, h3, fun hn => ?_⟩
  obtain ⟨b, o, rfl, hb, hc⟩ := h4 hn
  refine ⟨b, o, rfl, by simpa using hb, fun j y hy => ?_⟩
  rw [World.cell?_setCell_other _ _ _ _ (fun e => hp (by rw [e]; rfl))]
  exact hc j y hy
theorem Fresh.ne {B g : Nat} {v : Value} (h : Fresh B v) (hg : g < B) : v.ownBlock ≠ some g := fun e => by have := h g e; omega

/-! ### append onto a slice of the call's own, whatever the source -/
section
variable {P : Program} {w : World} {α : Type} {enc : α → List Value} {size : Nat} {e : TypeId} {B : Nat} {v : Value} {xs : List α}

theorem run_append_nothing (t ty : TypeId) (i : TypeInfo) (ht : P.underlying t = some (.slice e)) (hi : P.info? e = some i) {n : Nat} {ys : List Value} (hown : w.ownsRow B e size v n ys) (A : Option Addr) (c : Nat) :
    (Builtin.append_ #[t, t] ty #[v, .slice A 0 c]).run P w = .ok v w := by
  rcases hown.2 with ⟨rfl, rfl⟩ | ⟨g, cap, cur, rfl, _, _, hnc, _⟩
  · cases A <;> simp [Builtin.append_, run_underlying ht, sizeOf, typeInfo, hi, Builtin.lenOf, Builtin.firstCells, loadCells, loadCellsFrom]
  · cases A <;> simp [Builtin.append_, run_underlying ht, sizeOf, typeInfo, hi, Builtin.lenOf, Builtin.firstCells, hnc, storeCells, loadCells, loadCellsFrom]

theorem run_append_sl (t ty : TypeId) (i : TypeInfo) (z : Value) (bytes : Nat) (ht : P.underlying t = some (.slice e)) (hi : P.info? e = some i) (hz : i.zero = some z)
    (hsize : i.size = size) (hby : i.bytes = bytes) (hzs : z.cells.size = size) (hsz : 0 < size) (h1 : ∀ x, ∀ u ∈ enc x, u.oneCell' = true)
    (hown : Own enc size e B w v xs) (A : Option Addr) (c : Nat) (ys : List α) (hr : Sl w size A ys.length (ys.flatMap enc))
    (hn : (xs.length + ys.length) * bytes ≤ 140737488355328) (hn' : xs.length + ys.length ≤ 140737488355328) (hB : B ≤ w.heap.size) :
    ∃ v' w', (Builtin.append_ #[t, t] ty #[v, .slice A ys.length c]).run P w = .ok v' w' ∧ Own enc size e B w' v' (xs ++ ys) ∧ w.grownBy w' v.ownBlock ∧ (v'.ownBlock = v.ownBlock ∨ v'.ownBlock = some w.heap.size) := by
  rcases Nat.eq_zero_or_pos ys.length with h0 | h0
  · have e0 : ys = [] := List.eq_nil_of_length_eq_zero h0
    subst e0
    exact ⟨v, w, run_append_nothing t ty i ht hi hown A c, by simpa using hown, World.grownBy.refl w _, .inl rfl⟩
  · obtain ⟨b, o, rfl, _, hc⟩ := hr.2 h0
    obtain ⟨v', w', hrun, h2, h3, _, h5⟩ := run_append_own_at (P := P) w B t ty e i z size bytes ht hi hz hsize hby hzs hsz v xs.length (xs.flatMap enc) hown ⟨b, o, none⟩ ys.length c (ys.flatMap enc) hr.1
      (fun j u hu => by rw [Addr.add_lit]; exact hc j u hu) (fun u hu => by obtain ⟨x, _, hx⟩ := List.mem_flatMap.1 hu; exact h1 x u hx) (by simp only [maxLen]; omega) hn hB
    exact ⟨v', w', hrun, by unfold Own; rw [List.flatMap_append, List.length_append]; exact h2, h3, h5⟩

theorem wp_append_sl {o : Oper} {a : Act} {K : Act → World → Prop} {Q : Exit → Act → World → Prop} (s x : Operand) (t : TypeId)
    (ho : o.op = .call { callee := .builtin .append, args := #[s, x], argTypes := #[t, t] })
    (i : TypeInfo) (z : Value) (bytes : Nat) (ht : P.underlying t = some (.slice e)) (hi : P.info? e = some i) (hz : i.zero = some z)
    (hsize : i.size = size) (hby : i.bytes = bytes) (hzs : z.cells.size = size) (hsz : 0 < size) (h1 : ∀ x, ∀ u ∈ enc x, u.oneCell' = true)
    (hs : a.eval s = v) (hown : Own enc size e B w v xs) (A : Option Addr) (c n : Nat) (ys : List α) (hx : a.eval x = .slice A n c) (hl : n = ys.length) (hr : Sl w size A ys.length (ys.flatMap enc))
    (hn : (xs.length + ys.length) * bytes ≤ 140737488355328) (hn' : xs.length + ys.length ≤ 140737488355328) (hB : B ≤ w.heap.size)
    (h : ∀ v' w', Own enc size e B w' v' (xs ++ ys) → w.grownBy w' v.ownBlock → (v'.ownBlock = v.ownBlock ∨ v'.ownBlock = some w.heap.size) → K (a.put o.dst v') w') : o.wp P a w K Q := by
  subst hl
  obtain ⟨v', w', hrun, h2, h3, h4⟩ := run_append_sl (P := P) t o.type i z bytes ht hi hz hsize hby hzs hsz h1 hown A c ys hr hn hn' hB
  unfold Oper.wp execOp
  simp only [ho, resolve, invoke, builtin, Sem.run_bind, Sem.run_pure, Result.andThen_ok, List.map_toArray, List.map_cons, List.map_nil, hs, hx, hrun]
  exact h v' w' h2 h3 h4
theorem wpList_append_sl {ops : Array Oper} {rest : List Oper} {o : Oper} {a : Act} {Q : Exit → Act → World → Prop} (hgd : o.guard = none) (s x : Operand) (t : TypeId)
    (ho : o.op = .call { callee := .builtin .append, args := #[s, x], argTypes := #[t, t] })
    (i : TypeInfo) (z : Value) (bytes : Nat) (ht : P.underlying t = some (.slice e)) (hi : P.info? e = some i) (hz : i.zero = some z)
    (hsize : i.size = size) (hby : i.bytes = bytes) (hzs : z.cells.size = size) (hsz : 0 < size) (h1 : ∀ x, ∀ u ∈ enc x, u.oneCell' = true)
    (hs : a.eval s = v) (hown : Own enc size e B w v xs) (A : Option Addr) (c n : Nat) (ys : List α) (hx : a.eval x = .slice A n c) (hl : n = ys.length) (hr : Sl w size A ys.length (ys.flatMap enc))
    (hn : (xs.length + ys.length) * bytes ≤ 140737488355328) (hn' : xs.length + ys.length ≤ 140737488355328) (hB : B ≤ w.heap.size)
    (h : ∀ v' w', Own enc size e B w' v' (xs ++ ys) → w.grownBy w' v.ownBlock → (v'.ownBlock = v.ownBlock ∨ v'.ownBlock = some w.heap.size) → wpList P ops Q rest (a.put o.dst v') w') : wpList P ops Q (o :: rest) a w :=
  wpList_plain hgd fun _ hK => wp_append_sl s x t ho i z bytes ht hi hz hsize hby hzs hsz h1 hs hown A c n ys hx hl hr hn hn' hB fun v' w' h2 h3 h4 => hK _ _ (h v' w' h2 h3 h4)
theorem step_append_sl {ops : Array Oper} {o : Oper} {a : Act} {K : Act → World → Prop} {Q : Exit → Act → World → Prop} {E : Prop} (hgd : o.guard = none) (s x : Operand) (t : TypeId)
    (ho : o.op = .call { callee := .builtin .append, args := #[s, x], argTypes := #[t, t] })
    (i : TypeInfo) (z : Value) (bytes : Nat) (ht : P.underlying t = some (.slice e)) (hi : P.info? e = some i) (hz : i.zero = some z)
    (hsize : i.size = size) (hby : i.bytes = bytes) (hzs : z.cells.size = size) (hsz : 0 < size) (h1 : ∀ x, ∀ u ∈ enc x, u.oneCell' = true)
    (hs : a.eval s = v) (hown : Own enc size e B w v xs) (A : Option Addr) (c n : Nat) (ys : List α) (hx : a.eval x = .slice A n c) (hl : n = ys.length) (hr : Sl w size A ys.length (ys.flatMap enc))
    (hn : (xs.length + ys.length) * bytes ≤ 140737488355328) (hn' : xs.length + ys.length ≤ 140737488355328) (hB : B ≤ w.heap.size)
    (h : ∀ v' w', Own enc size e B w' v' (xs ++ ys) → w.grownBy w' v.ownBlock → (v'.ownBlock = v.ownBlock ∨ v'.ownBlock = some w.heap.size) → K (a.put o.dst v') w') :
    if Region.wanted o (yielded ops a.tmps) = true then Oper.wp P o a w K Q else E := by
  rw [if_pos (by simp [Region.wanted, hgd])]
  exact wp_append_sl s x t ho i z bytes ht hi hz hsize hby hzs hsz h1 hs hown A c n ys hx hl hr hn hn' hB h
end

theorem Own.drew {α : Type} {enc : α → List Value} {k : Nat} {e : TypeId} {B : Nat} {w : World} {v : Value} {xs : List α} (h : Own enc k e B w v xs) : Own enc k e B w.drew v xs := h
/-- A slice of the call's own, empty, in a block of no cells. -/
theorem own_empty {α : Type} {enc : α → List Value} {k : Nat} {e : TypeId} {B g : Nat} {W : World} (h : W.heap[g]? = some (.cells #[] e (0, 0))) (hB : B ≤ g) : Own enc k e B W (.slice (some ⟨g, 0, none⟩) 0 0) ([] : List α) :=
  ⟨by simp, .inr ⟨g, 0, #[], rfl, hB, h, Nat.le_refl _, by simp [maxLen], by simp, by simp⟩⟩
/-- One element in a block of its own. -/
theorem sl_one {α : Type} {enc : α → List Value} {k : Nat} {e : TypeId} {g : Nat} {W : World} {x : α} (hk : (enc x).length = k) (h : W.heap[g]? = some (.cells (enc x).toArray e (0, 0))) : Sl W k (some ⟨g, 0, none⟩) [x].length ([x].flatMap enc) := by
  refine ⟨by simp [hk], fun _ => ⟨g, 0, rfl, (Array.getElem?_eq_some_iff.1 h).1, fun j u hu => ?_⟩⟩
  rw [cell_of_row W g (0 + j) _ e (0, 0) h]
  simpa using hu
/-- The first elements of a slice, and those from a place on. -/
theorem Sl.take {w : World} {k n : Nat} {A : Option Addr} {xs : List Value} (h : Sl w k A n xs) {m : Nat} (hm : m ≤ n) : Sl w k A m (xs.take (m * k)) := by
  refine ⟨?_, fun hp => ?_⟩
  · rw [List.length_take, h.1]
    exact Nat.min_eq_left (Nat.mul_le_mul_right k hm)
  · obtain ⟨b, o, e, hb, hc⟩ := h.2 (by omega)
    refine ⟨b, o, e, hb, fun j u hu => hc j u ?_⟩
    rw [List.getElem?_take] at hu
    split at hu
    · exact hu
    · cases hu
theorem flat_take {α : Type} (enc : α → List Value) (k : Nat) (hk : ∀ x, (enc x).length = k) : ∀ (xs : List α) (m : Nat), (xs.take m).flatMap enc = (xs.flatMap enc).take (m * k)
  | [], m => by simp
  | x :: xs, 0 => by simp
  | x :: xs, m + 1 => by
    rw [List.take_succ_cons, List.flatMap_cons, List.flatMap_cons, flat_take enc k hk xs m, Nat.add_mul, Nat.add_comm, Nat.one_mul, ← hk x, List.take_length_add_append]
theorem flat_drop {α : Type} (enc : α → List Value) (k : Nat) (hk : ∀ x, (enc x).length = k) : ∀ (xs : List α) (m : Nat), (xs.drop m).flatMap enc = (xs.flatMap enc).drop (m * k)
  | [], m => by simp
  | x :: xs, 0 => by simp
  | x :: xs, m + 1 => by
    rw [List.drop_succ_cons, List.flatMap_cons, flat_drop enc k hk xs m, Nat.add_mul, Nat.add_comm, Nat.one_mul, ← hk x, List.drop_length_add_append]
theorem Sl.drop {w : World} {k n : Nat} {b o : Nat} {xs : List Value} (h : Sl w k (some ⟨b, o, none⟩) n xs) {m : Nat} (hm : m ≤ n) : Sl w k (some ⟨b, o + m * k, none⟩) (n - m) (xs.drop (m * k)) := by
  refine ⟨by rw [List.length_drop, h.1, Nat.sub_mul], fun hp => ?_⟩
  obtain ⟨b', o', e, hb, hc⟩ := h.2 (by omega)
  simp only [Option.some.injEq, Addr.mk.injEq] at e
  obtain ⟨rfl, rfl, _⟩ := e
  refine ⟨b, o + m * k, rfl, hb, fun j u hu => ?_⟩
  rw [List.getElem?_drop] at hu
  have := hc _ u hu
  rwa [Nat.add_assoc]
theorem nodup_len {α : Type} [DecidableEq α] : ∀ {l c : List α}, l.Nodup → (∀ x ∈ l, x ∈ c) → l.length ≤ c.length
  | [], c, _, _ => by simp
  | x :: l, c, hn, hs => by
    rw [List.nodup_cons] at hn
    have hx := hs x (by simp)
    have := nodup_len (c := c.erase x) hn.2 (fun y hy => (List.mem_erase_of_ne (fun e => hn.1 (by rw [← e]; exact hy))).2 (hs y (List.mem_cons_of_mem _ hy)))
    rw [List.length_erase_of_mem hx] at this
    have := List.length_pos_of_mem hx
    simp only [List.length_cons]
    omega
end Go.Proofs.YthnckicnnhkkaaaGreat
/- coinagebase.Graphs and Lists compare graphs and lists of lists. Condition: the arguments read as such. -/
namespace Go.Proofs.YthnckicnnhkkaaaGreat
open Go.RowKit

end Go.Proofs.YthnckicnnhkkaaaGreat
