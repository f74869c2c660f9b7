/- The arguments of a law, read with the bounds of their numbers. No condition. -/
import Derived.Test.YtnaoiochfdipiaaOpen
import Derived.Test.YtnaoiochfdipiaaMapK
namespace Go.Proofs.Ytnaoiochfdipiaa
open Go.RowKit Go.ChangeShapes Go.WideShapes Go.Deep

section
variable {H : Type} {enc : TypeId × Value → H} {P : Program} {w : World} {base : Nat} {spare : Nat → Bool} {held : Bool}
theorem slOf_ints_wf {t e : TypeId} {fuel : Nat} {v : Value} {x : DataW H × List MemPlace} (ht : P.underlying t = some (.slice e)) (he : P.underlying e = some (.int .i64)) (hc : P.cellsOf e = 1)
    (h : DataW.trod enc P w base spare held fuel t [v] = some x) : ∃ xs : List Int, Ints w v xs ∧ ∀ x ∈ xs, wfI x := by
  rcases open_ints ht he hc h with ⟨hcs, _⟩ | ⟨a, len, cap, zs, hcs, _, hl, hm, hz, _, hcell, hwf⟩
  · cases hcs
    exact ⟨[], ⟨none, 0, rfl, Nat.le_refl _, by simp [maxLen], Sl.nil _ _ _⟩, by simp⟩
  · cases hcs
    have hlz : len ≤ zs.length := by rw [hz]; split <;> omega
    refine ⟨_, slOf_cells lenI (by omega) (fun i => zs.getD i 0) hl hm fun i hi j hj => ?_, fun x hx => ?_⟩
    · have : j = 0 := by omega
      subst this
      have := hcell i (by omega)
      simpa [encI] using this
    · obtain ⟨i, hi, rfl⟩ := List.mem_map.1 hx
      have hi' : i < zs.length := by have := List.mem_range.1 hi; omega
      rw [List.getD_eq_getElem?_getD, List.getElem?_eq_getElem hi']
      exact hwf _ (List.getElem_mem hi')
end
section
variable {H : Type} {enc : TypeId × Value → H} {w : World} {base : Nat} {spare : Nat → Bool} {held : Bool} {fuel : Nat} {v : Value} {x : DataW H × List MemPlace}
theorem reads_ints_wf (h : DataW.trod enc Try.prog w base spare held fuel 22 [v] = some x) : ∃ xs, Ints w v xs ∧ ∀ x ∈ xs, wfI x :=
  slOf_ints_wf Try.underlying22 Try.underlying3 (by kernel_rfl) h
end
section
variable {H : Type} {enc : TypeId × Value → H} {w : World} {base : Nat} {spare : Nat → Bool} {held : Bool} {r : Reach} {b0 : Nat} {v : Value} {d : DataW H} {p : List MemPlace}
set_option maxRecDepth 100000 in
theorem opens_ints_wf (hv : Value.okWide Try.prog w r b0 22 v) (h : DataW.Trod enc Try.prog w base spare held 22 v d p) : ∃ xs, Ints w v xs ∧ ∀ x ∈ xs, wfI x := by
  obtain ⟨a, l, c, rfl⟩ := okWide_slice Try.underlying22 hv
  obtain ⟨fuel, hf⟩ := h
  exact reads_ints_wf (by simpa [Value.cells] using hf)
set_option maxRecDepth 100000 in
theorem opens_graph_wf (hv : Value.okWide Try.prog w r b0 25 v) (h : DataW.Trod enc Try.prog w base spare held 25 v d p) : ∃ g, GraphAt w v g ∧ (∀ x ∈ g.obv, wfI x) ∧ ∀ x ∈ g.rev, wfI x := by
  obtain ⟨v1, v2, v3, y1, y2, y3, n, rfl, _, _, h1, h2, h3⟩ := Go.Joins.open_agg3 Try.underlying25 (by kernel_rfl) (by kernel_rfl) hv h
  obtain ⟨o, ho, wo⟩ := reads_ints_wf h1
  obtain ⟨q, hq, wq⟩ := reads_ints_wf h2
  obtain ⟨l, hl⟩ := reads_links h3
  exact ⟨⟨o, q, l⟩, ⟨v1, v2, v3, rfl, ho, hq, hl⟩, wo, wq⟩
end
end Go.Proofs.Ytnaoiochfdipiaa
