/- The arguments of a law, read with the bounds of their numbers. No condition. -/
import Derived.Test.YtcpobcfncmcakaaGreatOpen
import Derived.Test.YtcpobcfncmcakaaGreatMapK
namespace Go.Proofs.YtcpobcfncmcakaaGreat
open Go.RowKit Go.ChangeShapes Go.WideShapes Go.Deep

section
variable {H : Type} {enc : TypeId × Value → H} {P : Program} {w : World} {base : Nat} {spare : Nat → Bool} {held : Bool}
theorem slOf_ints_wf {t e : TypeId} {fuel : Nat} {v : Value} {x : DataW H × List MemPlace} (ht : P.underlying t = some (.slice e)) (he : P.underlying e = some (.int .i64)) (hc : P.cellsOf e = 1)
    (h : DataW.trod enc P w base spare held fuel t [v] = some x) : ∃ xs : List Int, Ints w v xs ∧ ∀ x ∈ xs, wfI x := by
  rcases open_ints ht he hc h with ⟨hcs, _⟩ | ⟨a, len, cap, zs, hcs, _, hl, hm, hz, _, hcell, hwf⟩
  · cases hcs
    exact ⟨[], ⟨none, 0, rfl, Nat.le_refl _, by simp [maxLen], Sl.nil _ _ _⟩, by simp⟩
  · cases hcs
    have hlz : len ≤ zs.length := by rw [hz]; split <;> omega
    refine ⟨_, slOf_cells lenI (by omega) (fun i => zs.getD i 0) hl hm fun i hi j hj => ?_, fun x hx => ?_⟩
    · have : j = 0 := by omega
      subst this
      have := hcell i (by omega)
      simpa [encI] using this
    · obtain ⟨i, hi, rfl⟩ := List.mem_map.1 hx
      have hi' : i < zs.length := by have := List.mem_range.1 hi; omega
      rw [List.getD_eq_getElem?_getD, List.getElem?_eq_getElem hi']
      exact hwf _ (List.getElem_mem hi')
end
section
variable {H : Type} {enc : TypeId × Value → H} {w : World} {base : Nat} {spare : Nat → Bool} {held : Bool} {fuel : Nat} {v : Value} {x : DataW H × List MemPlace}
theorem reads_ints_wf (h : DataW.trod enc Tryz.prog w base spare held fuel 30 [v] = some x) : ∃ xs, Ints w v xs ∧ ∀ x ∈ xs, wfI x :=
  slOf_ints_wf Tryz.underlying30 Tryz.underlying3 (by kernel_rfl) h
end
section
variable {H : Type} {enc : TypeId × Value → H} {w : World} {base : Nat} {spare : Nat → Bool} {held : Bool} {r : Reach} {b0 : Nat} {v : Value} {d : DataW H} {p : List MemPlace}
set_option maxRecDepth 100000 in
theorem opens_ints_wf (hv : Value.okWide Tryz.prog w r b0 30 v) (h : DataW.Trod enc Tryz.prog w base spare held 30 v d p) : ∃ xs, Ints w v xs ∧ ∀ x ∈ xs, wfI x := by
  obtain ⟨a, l, c, rfl⟩ := okWide_slice Tryz.underlying30 hv
  obtain ⟨fuel, hf⟩ := h
  exact reads_ints_wf (by simpa [Value.cells] using hf)
set_option maxRecDepth 100000 in
theorem opens_graph_wf (hv : Value.okWide Tryz.prog w r b0 55 v) (h : DataW.Trod enc Tryz.prog w base spare held 55 v d p) : ∃ g, GraphAt w v g ∧ (∀ x ∈ g.obv, wfI x) ∧ ∀ x ∈ g.rev, wfI x := by
  obtain ⟨v1, v2, v3, y1, y2, y3, n, rfl, _, _, h1, h2, h3⟩ := Go.Joins.open_agg3 Tryz.underlying55 (by kernel_rfl) (by kernel_rfl) hv h
  obtain ⟨o, ho, wo⟩ := reads_ints_wf h1
  obtain ⟨q, hq, wq⟩ := reads_ints_wf h2
  obtain ⟨l, hl⟩ := reads_links h3
  exact ⟨⟨o, q, l⟩, ⟨v1, v2, v3, rfl, ho, hq, hl⟩, wo, wq⟩
end
end Go.Proofs.YtcpobcfncmcakaaGreat
/- Slices of structs of numbers as a law's arguments, with the bounds of their numbers. No condition. -/
namespace Go.Proofs.YtcpobcfncmcakaaGreat
open Go.RowKit Go.ChangeShapes Go.WideShapes Go.Deep

section
variable {H : Type} {enc : TypeId × Value → H} {P : Program} {w : World} {base : Nat} {spare : Nat → Bool} {held : Bool}
theorem slOf_fields_wf {α : Type} {encA : α → List Value} {k : Nat} (hk : ∀ x, (encA x).length = k) (k0 : 0 < k) {t e : TypeId} {fs : Array Field} {fuel : Nat} {v : Value} {x : DataW H × List MemPlace} (ht : P.underlying t = some (.slice e)) (he : P.underlying e = some (.struct fs))
    (hone : oneCellFields P fs = true) (hC : P.cellsOf e = fs.size) (hs : fs.size = k) (hint : fs.all (fun f => match P.underlying f.type with | some (.int .i64) => true | _ => false) = true) (mk : (Nat → Int) → α) (hmk : ∀ g j, j < k → (encA (mk g))[j]? = some (.int .i64 (g j)))
    (h : DataW.trod enc P w base spare held fuel t [v] = some x) : ∃ xs : List α, SlOf encA k w v xs ∧ ∀ x ∈ xs, ∃ g : Nat → Int, x = mk g ∧ ∀ j < k, wfI (g j) := by
  rcases open_slice_fields ht he hone hC h with h0 | ⟨a, len, cap, hcs, hcap, hm, hf⟩
  · cases h0
    exact ⟨[], ⟨none, 0, rfl, Nat.le_refl _, by simp [maxLen], Sl.nil _ _ _⟩, by simp⟩
  · cases hcs
    have hex : ∀ i j, ∃ n : Int, i < len → j < k → w.cell? (a.add (i * k + j)) = some (.int .i64 n) ∧ wfI n := fun i j => by
      by_cases hi : i < len
      · by_cases hj : j < k
        · have hjf : fs[j]? = some (fs[j]'(by omega)) := Array.getElem?_eq_getElem (by omega)
          obtain ⟨u, y, n, hc, hy⟩ := hf i hi j _ hjf
          have hi64 : P.underlying (fs[j]'(by omega)).type = some (.int .i64) := by
            have := Array.all_eq_true.1 hint j (by omega)
            split at this
            · assumption
            · cases this
          obtain ⟨z, hz, _, hwf⟩ := DataW.trod_int hi64 hy
          simp at hz
          subst hz
          exact ⟨z, fun _ _ => ⟨by rw [hs] at hc; exact hc, hwf⟩⟩
        · exact ⟨0, fun _ h => absurd h hj⟩
      · exact ⟨0, fun h => absurd h hi⟩
    refine ⟨_, slOf_cells hk k0 (fun i => mk fun j => Classical.choose (hex i j)) hcap hm fun i hi j hj => ?_, fun x hx => ?_⟩
    · rw [hmk _ j hj]
      exact (Classical.choose_spec (hex i j) hi hj).1
    · obtain ⟨i, hi, rfl⟩ := List.mem_map.1 hx
      exact ⟨_, rfl, fun j hj => (Classical.choose_spec (hex i j) (List.mem_range.1 hi) hj).2⟩
end
section
variable {H : Type} {enc : TypeId × Value → H} {w : World} {base : Nat} {spare : Nat → Bool} {held : Bool} {fuel : Nat} {v : Value} {x : DataW H × List MemPlace}
theorem reads_dies_wf (h : DataW.trod enc Tryz.prog w base spare held fuel 97 [v] = some x) : ∃ xs, Dies w v xs ∧ ∀ x ∈ xs, wfI x.side ∧ wfI x.num := by
  obtain ⟨xs, h1, h2⟩ := slOf_fields_wf lenD (by omega) Tryz.underlying97 Tryz.underlying24 (by kernel_rfl) (by kernel_rfl) rfl (by kernel_rfl) (fun g => (⟨g 0, g 1⟩ : Die))
    (fun g j hj => by match j, hj with | 0, _ => rfl | 1, _ => rfl) h
  exact ⟨xs, h1, fun x hx => by obtain ⟨g, rfl, hg⟩ := h2 x hx; exact ⟨hg 0 (by omega), hg 1 (by omega)⟩⟩
end
section
variable {H : Type} {enc : TypeId × Value → H} {w : World} {base : Nat} {spare : Nat → Bool} {held : Bool} {r : Reach} {b0 : Nat} {v : Value} {d : DataW H} {p : List MemPlace}
set_option maxRecDepth 100000 in
theorem opens_dies_wf (hv : Value.okWide Tryz.prog w r b0 97 v) (h : DataW.Trod enc Tryz.prog w base spare held 97 v d p) : ∃ xs, Dies w v xs ∧ ∀ x ∈ xs, wfI x.side ∧ wfI x.num := by
  obtain ⟨a, l, c, rfl⟩ := okWide_slice Tryz.underlying97 hv
  obtain ⟨fuel, hf⟩ := h
  exact reads_dies_wf (by simpa [Value.cells] using hf)
end
end Go.Proofs.YtcpobcfncmcakaaGreat
