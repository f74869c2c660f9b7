/- The growth of a list of specimens, step by step; History. Condition: the argument reads as a list of specimens. -/
import Derived.Test.YtikfffojeakjoaaGreatDoorGroB
import Derived.Test.YtikfffojeakjoaaGreatDoorJoinQ
import Derived.Test.YtikfffojeakjoaaGreatDoorLinkD
import Derived.Test.YtikfffojeakjoaaGreatDoorFresh
import Derived.Test.YtikfffojeakjoaaGreatDoorDelL
import Derived.Test.YtikfffojeakjoaaGreatDoorIter
namespace Go.Proofs.YtikfffojeakjoaaGreatDoor
open Go.RowKit Go.Maps

theorem enterG_more (s : Spec) (g : Gr) : (enterG s g).named ≤ g.named + 2 ∧ (enterG s g).count ≤ g.count + 2 ∧ (enterG s g).m.length ≤ g.m.length + 2 := by
  have h1 := @know_named (dA s) g
  have h2 := @know_named (dB s) (knowG (dA s) g)
  unfold enterG
  have e : bothG s g = knowG (dB s) (knowG (dA s) g) := rfl
  split
  · rw [e]; omega
  · have hl : (turnM (bothG s g).m (fromG s g) (toG s g)).length = (bothG s g).m.length := List.length_map _
    simp only [hl]
    rw [e]; omega
theorem growL_more (l : List Spec) : (growL l).named ≤ 2 * l.length ∧ (growL l).count ≤ 2 * l.length ∧ (growL l).m.length ≤ 2 * l.length := by
  have : ∀ k, k ≤ l.length → (growL (l.take k)).named ≤ 2 * k ∧ (growL (l.take k)).count ≤ 2 * k ∧ (growL (l.take k)).m.length ≤ 2 * k := by
    intro k
    induction k with
    | zero => intro _; exact ⟨Nat.le_refl _, Nat.le_refl _, Nat.le_refl _⟩
    | succ k ih =>
      intro hk
      obtain ⟨s, hs⟩ := get_of_lt (show k < l.length by omega)
      rw [growL_take hs]
      have h1 := ih (by omega)
      have h2 := enterG_more s (growL (l.take k))
      omega
  have := this l.length (Nat.le_refl _)
  rwa [List.take_length] at this
theorem NInv.pos {E : List (Die × Die)} {g : Gr} (h : NInv E g) (s : Spec) (hne : fromG s g ≠ toG s g) : 1 ≤ (bothG s g).count := by
  have hb := h.both s
  obtain ⟨t, ht⟩ := hb.some (d := dA s) (by simp)
  obtain ⟨f, hf⟩ := hb.some (d := dB s) (by simp)
  have eF : fromG s g = f := by rw [fromG, hf]; rfl
  have eT : toG s g = t := by rw [toG, ht]; rfl
  have hfm : f ∈ (bothG s g).m.map Prod.snd := List.mem_map.2 ⟨_, lookM_some hf, rfl⟩
  have htm : t ∈ (bothG s g).m.map Prod.snd := List.mem_map.2 ⟨_, lookM_some ht, rfl⟩
  rw [eF, eT] at hne
  have := dcount_merge (n := (bothG s g).named) hfm htm hne hb.vals
  rw [hb.cnt]
  omega
theorem specB_wf {s : Spec} (h : specB s = true) : wfD (dA s) ∧ wfD (dB s) ∧ (1 ≤ s.id ∧ s.id ≤ 9999) := by
  simp only [specB, inB, Bool.and_eq_true, decide_eq_true_eq] at h
  obtain ⟨⟨⟨⟨h1, h2⟩, ⟨⟨⟨h3, h4⟩, h5, h6⟩, _⟩, _⟩, _⟩, _⟩ := h
  have k1 : wfI s.obv := wf_small (by omega) (by omega)
  have k2 : wfI s.rev := wf_small (by omega) (by omega)
  exact ⟨⟨wfN (n := 0) (by omega), k1⟩, ⟨wfN (n := 1) (by omega), k2⟩, h1, h2⟩
theorem ofE_spec {l : List Spec} (h : ofE l = 0) {k : Nat} {s : Spec} (hs : l[k]? = some s) : specB s = true ∧ l.length ≤ 64 := by
  have := checkE_zero (ofE_zero h).1
  exact ⟨List.all_eq_true.1 this.2.1 s (List.mem_of_getElem? hs), this.1⟩

/-- The numbers of components. -/
def histT (l : List Spec) (k : Nat) : List Int := (List.range k).map fun j => ((growL (l.take (j + 1))).count : Int)
theorem histT_snoc (l : List Spec) (k : Nat) : histT l (k + 1) = histT l k ++ [((growL (l.take (k + 1))).count : Int)] := by
  rw [histT, List.range_succ, List.map_append]; rfl
def histR (l : List Spec) : List Int := if ofE l = 0 then histT l l.length else []

end Go.Proofs.YtikfffojeakjoaaGreatDoor
/- chosen, Joiners, Forest, First. Condition: the argument reads as a list of specimens. -/
namespace Go.Proofs.YtikfffojeakjoaaGreatDoor
open Go.RowKit Go.Maps

def pickJ (x y : Bool) : Bool := x && y
def pickF (x _ : Bool) : Bool := x
/-- The numbers of the specimens for which pick is true. -/
def choT (pick : Bool → Bool → Bool) (l : List Spec) (k : Nat) : List Int := (List.range k).flatMap fun j => match l[j]? with
  | some s => if pick (apartG s (growL (l.take j))) (thereG s (growL (l.take j))) then [s.id] else []
  | none => []
theorem choT_snoc (pick : Bool → Bool → Bool) {l : List Spec} {k : Nat} {s : Spec} (h : l[k]? = some s) : choT pick l (k + 1) = choT pick l k ++ if pick (apartG s (growL (l.take k))) (thereG s (growL (l.take k))) then [s.id] else [] := by
  rw [choT, List.range_succ, List.flatMap_append]
  simp [choT, h]
theorem choT_len (pick : Bool → Bool → Bool) (l : List Spec) : ∀ k, (choT pick l k).length ≤ k := by
  intro k
  induction k with
  | zero => simp [choT]
  | succ k ih =>
    cases h : l[k]? with
    | none =>
      have e : choT pick l (k + 1) = choT pick l k := by
        rw [choT, List.range_succ, List.flatMap_append]
        simp [choT, h]
      rw [e]; omega
    | some s =>
      rw [choT_snoc pick h, List.length_append]
      split <;> simp <;> omega
def choR (pick : Bool → Bool → Bool) (l : List Spec) : List Int := if ofE l = 0 then choT pick l l.length else []

end Go.Proofs.YtikfffojeakjoaaGreatDoor
/- First. Condition: the argument reads as a list of specimens, the dies' numbers are numbers. -/
namespace Go.Proofs.YtikfffojeakjoaaGreatDoor
open Go.RowKit Go.Maps

theorem find_at {f : Nat → Bool} {n k : Nat} (hk : k < n) (h : f k = true) (hb : ∀ j, j < k → f j = false) : (List.range n).find? f = some k := by
  rw [List.find?_range_eq_some]
  exact ⟨h, List.mem_range.2 hk, fun j hj => by rw [hb j hj]; rfl⟩
theorem find_no {f : Nat → Bool} {n : Nat} (h : ∀ j, j < n → f j = false) : (List.range n).find? f = none := by
  rw [List.find?_eq_none]
  intro j hj
  rw [h j (List.mem_range.1 hj)]
  simp
/-- After how many specimens two dies are joined, less one. -/
noncomputable def firstK (l : List Spec) (a b : Die) : Option Nat := (List.range l.length).find? fun k => joinB (edgesS (l.take (k + 1))) a b
noncomputable def firstR (l : List Spec) (a b : Die) : Int × Int := if ofE l = 0 then match firstK l a b with
  | some k => (((l[k]?).map Spec.id).getD 0, 0)
  | none => (0, 7)
  else (0, ofE l)

end Go.Proofs.YtikfffojeakjoaaGreatDoor
/- walk. Condition: the argument reads as a list of specimens. -/
namespace Go.Proofs.YtikfffojeakjoaaGreatDoor
open Go.RowKit Go.Maps

theorem next_no {t : List Spec} {da db : Die} {last : Int} {k : Nat} {x : Spec} (hN : ∀ p, Walk t da p db → (∀ s, p.head? = some s → s.id ≠ last) → ∀ s, p.head? = some s → ∀ j, j < k → t[j]? ≠ some s) (hx : t[k]? = some x)
    (h : ∀ p, Walk t da p db → (∀ s, p.head? = some s → s.id ≠ last) → p.head? = some x → False) : ∀ p, Walk t da p db → (∀ s, p.head? = some s → s.id ≠ last) → ∀ s, p.head? = some s → ∀ j, j < k + 1 → t[j]? ≠ some s := fun p hp hh s hs j hj => by
  rcases Nat.lt_or_ge j k with hlt | hge
  · exact hN p hp hh s hs j hlt
  · rw [show j = k by omega, hx]
    intro e
    cases e
    exact h p hp hh hs
theorem walk_first {t : List Spec} {a b : Die} {x : Spec} {p : List Spec} (h : Walk t a p b) (hs : p.head? = some x) : EndS x a ∧ ∃ q, Walk t (otherS x a) q b ∧ (∀ s, q.head? = some s → s.id ≠ x.id) := by
  cases h with
  | nil => cases hs
  | cons h1 h2 h3 h4 =>
    cases hs
    exact ⟨h2, _, h3, h4⟩

end Go.Proofs.YtikfffojeakjoaaGreatDoor
/- slices.Index and Contains at numbers; Clone, IndexFunc and DeleteFunc at specimens. No condition but a bound of the length. -/
namespace Go.Proofs.YtikfffojeakjoaaGreatDoor
open Go.RowKit

theorem firstI_has (xs : List Int) (x : Int) : decide (0 ≤ firstI (fun y => x == y) xs) = decide (x ∈ xs) := by
  by_cases hall : xs.all (fun y => !(x == y)) = true
  · rw [firstI_miss hall]
    have : x ∉ xs := fun hm => by
      have := List.all_eq_true.1 hall x hm
      simp at this
    simp [this]
  · obtain ⟨i, y, h1, h2, h3⟩ := first_hit hall
    rw [firstI_hit h1 h2 h3]
    have : x = y := by simpa using h3
    subst this
    simp [List.mem_of_getElem? h1]
def zeroS : Value := .agg #[.int .i64 0, .int .i64 0, .int .i64 0, .int .i64 0, .int .i64 0, .int .i64 0, .int .i64 0]
theorem zeroS_run (w : World) : (zeroValue 27).run Tryz.prog w = .ok zeroS w := by unfold zeroS; kernel_rfl
end Go.Proofs.YtikfffojeakjoaaGreatDoor
/- Bottleneck. Condition: the argument reads as a list of specimens, the dies' numbers are numbers. -/
namespace Go.Proofs.YtikfffojeakjoaaGreatDoor
open Go.RowKit Go.Maps

theorem choT_forL (l : List Spec) : ∀ k, k ≤ l.length → choT pickF l k = (forL (l.take k)).map Spec.id := by
  intro k
  induction k with
  | zero => intro _; rfl
  | succ k ih =>
    intro hk
    obtain ⟨s, hs⟩ := get_of_lt (show k < l.length by omega)
    have hap := ((ninv_list (l.take k)).enter s).2.1
    rw [choT_snoc pickF hs, ih (by omega), take_snoc' hs, forL_snoc, List.map_append]
    congr 1
    by_cases hj : joinB (edgesS (l.take k)) (dA s) (dB s) = true
    · have : apartG s (growL (l.take k)) = false := by
        cases ha : apartG s (growL (l.take k))
        · rfl
        · exact absurd (joinB_iff.1 hj) (hap.1 ha)
      simp [pickF, this, hj]
    · have : apartG s (growL (l.take k)) = true := hap.2 fun h => hj (joinB_iff.2 h)
      simp [pickF, this, hj]
theorem filter_sub {k l : List Spec} (hs : k.Sublist l) (hd : (l.map Spec.id).Nodup) : l.filter (fun s => decide (s.id ∈ k.map Spec.id)) = k := by
  induction hs with
  | slnil => rfl
  | @cons k l a hs ih =>
    rw [List.map_cons, List.nodup_cons] at hd
    have hn : a.id ∉ k.map Spec.id := fun hm => hd.1 ((hs.map Spec.id).subset hm)
    rw [List.filter_cons, if_neg (by simpa using hn)]
    exact ih hd.2
  | @cons_cons k l a hs ih =>
    rw [List.map_cons, List.nodup_cons] at hd
    rw [List.filter_cons, if_pos (by simp)]
    congr 1
    conv => rhs; rw [← ih hd.2]
    refine List.filter_congr fun s hm => ?_
    have hne : s.id ≠ a.id := fun e => hd.1 (by rw [← e]; exact List.mem_map_of_mem (f := Spec.id) hm)
    rw [decide_eq_decide, List.map_cons, List.mem_cons]
    exact ⟨fun h => h.resolve_left hne, .inr⟩
/-- What First says of a list that joins two dies. -/
theorem first_con {l : List Spec} {a b : Die} (h : (firstR l a b).2 = 0) : ofE l = 0 ∧ Con (edgesS l) a b := by
  unfold firstR at h
  by_cases hE : ofE l = 0
  · refine ⟨hE, ?_⟩
    rw [if_pos hE] at h
    cases hk : firstK l a b with
    | none => rw [hk] at h; cases h
    | some k =>
      have h1 := List.find?_some hk
      have := (joinB_iff.1 h1).2.2
      refine this.mono fun e he => ?_
      obtain ⟨s, hs, rfl⟩ := List.mem_map.1 he
      exact List.mem_map.2 ⟨s, List.mem_of_mem_take hs, rfl⟩
  · rw [if_neg hE] at h
    exact absurd h hE
theorem first_err {l : List Spec} {a b : Die} : (firstR l a b).2 = 0 ∨ ((firstR l a b).2 ≠ 0 ∧ (firstR l a b).1 = 0) := by
  unfold firstR
  by_cases hE : ofE l = 0
  · rw [if_pos hE]
    cases firstK l a b with
    | none => exact .inr ⟨by simp, rfl⟩
    | some k => exact .inl rfl
  · rw [if_neg hE]
    exact .inr ⟨hE, rfl⟩
theorem forest_walk {l : List Spec} {a b : Die} (hd : (l.map Spec.id).Nodup) (h : Con (edgesS l) a b) : ∃ p, Walk (forL l) a p b := by
  obtain ⟨h1, h2, _⟩ := forL_facts l
  have hn : ((forL l).map Spec.id).Nodup := hd.sublist (h1.map Spec.id)
  have := walk_exists (t := forL l) (forL l).length hn (Nat.le_refl _) (by rw [List.take_length]; exact (h2 a b).2 h)
  rwa [List.take_length] at this

end Go.Proofs.YtikfffojeakjoaaGreatDoor
