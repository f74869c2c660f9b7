/- Plain: what the effective list says of the specimens. No program in sight, no condition. -/
import Derived.Test.YthnckicnnhkkaaaGreatGooP
namespace Go.Proofs.YthnckicnnhkkaaaGreat
open Go.RowKit

theorem rec_first {c : Int → Int} {l : List Spec} {x : Int} (h : ∃ t ∈ l, c t.id = c x) : ∃ t ∈ l, c t.id = c x ∧ recI c l x = t.id := by
  unfold recI
  cases hf : l.find? (fun t => decide (c t.id = c x)) with
  | none =>
    obtain ⟨t, ht, he⟩ := h
    exact absurd he (by simpa using List.find?_eq_none.1 hf t ht)
  | some t => exact ⟨t, List.mem_of_find?_eq_some hf, by simpa using List.find?_some hf, rfl⟩
theorem eff_none {l : List Spec} : effL [] l = l := by
  have e1 : (fun s : Spec => renS [] s) = id := rfl
  unfold effL
  rw [show renS [] = id from e1, List.map_id]
  refine List.filter_eq_self.2 fun s hs => ?_
  obtain ⟨t, ht, h1, h2⟩ := rec_first (c := nameK [] 4) (l := l) (x := s.id) ⟨s, hs, rfl⟩
  have h3 : t.id = s.id := h1
  rw [h2, h3]
  simp
theorem eff_ne {L : List Dec} {l : List Spec} (h : effL L l = []) : l = [] := by
  cases l with
  | nil => rfl
  | cons s l =>
    exfalso
    have : s ∈ recL (nameK L 4) (s :: l) := List.mem_filter.2 ⟨by simp, by simp [recI]⟩
    have h2 := List.mem_map_of_mem (f := renS L) this
    unfold effL at h
    rw [h] at h2
    cases h2
theorem eff_mem {L : List Dec} {l : List Spec} {a : Spec} (h : a ∈ effL L l) : ∃ s ∈ l, a = renS L s ∧ recI (nameK L 4) l s.id = s.id := by
  obtain ⟨s, h1, rfl⟩ := List.mem_map.1 h
  obtain ⟨h2, h3⟩ := List.mem_filter.1 h1
  exact ⟨s, h2, rfl, by simpa using h3⟩
/-- What the law asks of two effective specimens and two specimens of their Ids. -/
theorem eff_same {L : List Dec} {l : List Spec} {a b x y : Spec} (hs : SrtS l) (ha : a ∈ effL L l) (hb : b ∈ effL L l) (hx : x ∈ l) (hy : y ∈ l) (e1 : x.id = a.id) (e2 : y.id = b.id) :
    (a.obv == b.obv) = decide (nameK L 1 y.obv = nameK L 1 x.obv) ∧ (a.rev == b.rev) = decide (nameK L 2 y.rev = nameK L 2 x.rev) := by
  obtain ⟨s, h1, rfl, _⟩ := eff_mem ha
  obtain ⟨t, k1, rfl, _⟩ := eff_mem hb
  have hxs : x = s := inj_id hs hx h1 e1
  have hyt : y = t := inj_id hs hy k1 e2
  subst hxs; subst hyt
  constructor
  · show (nameK L 1 x.obv == nameK L 1 y.obv) = _
    rw [Bool.eq_iff_iff, beq_iff_eq, decide_eq_true_iff]; exact eq_comm
  · show (nameK L 2 x.rev == nameK L 2 y.rev) = _
    rw [Bool.eq_iff_iff, beq_iff_eq, decide_eq_true_iff]; exact eq_comm
theorem eff_coin {L : List Dec} {l : List Spec} {a b : Spec} (ha : a ∈ effL L l) (hb : b ∈ effL L l) (hne : a.id ≠ b.id) : decide (nameK L 4 b.id = nameK L 4 a.id) = false := by
  obtain ⟨s, _, rfl, h1⟩ := eff_mem ha
  obtain ⟨t, _, rfl, h2⟩ := eff_mem hb
  rw [decide_eq_false_iff_not]
  intro e
  have h3 : recI (nameK L 4) l t.id = recI (nameK L 4) l s.id := recI_congr e
  rw [h1, h2] at h3
  exact hne h3.symm
end Go.Proofs.YthnckicnnhkkaaaGreat
