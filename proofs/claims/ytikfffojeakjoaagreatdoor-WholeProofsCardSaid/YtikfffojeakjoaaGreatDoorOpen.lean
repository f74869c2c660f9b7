/- The arguments of a law, read as lists and graphs. No condition. -/
import Derived.Test.YtikfffojeakjoaaGreatDoorLib
import Derived.Deep.Slices
import Derived.Deep.Fields
import Derived.ChangeSame
import Derived.Lib.SmallJoins
import Derived.ProofKit
import Derived.Carry
import Derived.Test.YtikfffojeakjoaaGreatDoorMapK
namespace Go.Proofs.YtikfffojeakjoaaGreatDoor
open Go.RowKit Go.ChangeShapes Go.WideShapes Go.Deep

theorem Try.own : ownKnob Tryz.prog.godebug = none := by kernel_rfl
theorem Try.laidOut : laidOutB Tryz.prog = true := by kernel_rfl

section
variable {H : Type} {enc : TypeId × Value → H} {P : Program} {w : World} {base : Nat} {spare : Nat → Bool} {held : Bool}
theorem open_slice_fields {t e : TypeId} {fs : Array Field} {fuel : Nat} {cs : List Value} {x : DataW H × List MemPlace} (ht : P.underlying t = some (.slice e)) (he : P.underlying e = some (.struct fs))
    (hone : oneCellFields P fs = true) (hC : P.cellsOf e = fs.size) (h : DataW.trod enc P w base spare held fuel t cs = some x) :
    (cs = [.slice none 0 0]) ∨
    ∃ (a : Addr) (len cap : Nat), cs = [.slice (some a) len cap] ∧ len ≤ cap ∧ cap ≤ maxLen ∧
      ∀ i, i < len → ∀ (j : Nat) (f : Field), fs[j]? = some f → ∃ (v : Value) (y : DataW H × List MemPlace) (n : Nat), w.cell? (a.add (i * fs.size + j)) = some v ∧ DataW.trod enc P w base spare held n f.type [v] = some y := by
  rcases open_slice ht h with h0 | ⟨a, len, cap, m, n, D, Pl, hcs, hb, hl, hm, hmm, hx, hi⟩
  · exact .inl h0.1
  · refine .inr ⟨a, len, cap, hcs, hl, hm, fun i him => ?_⟩
    obtain ⟨cs', hc, ht'⟩ := hi i (by rw [hmm]; split <;> omega)
    rw [hC] at hc
    obtain ⟨ys, n', hn', hy, hlen, hyl, hf⟩ := DataW.trod_struct he ht'
    obtain ⟨_, hcl, hat⟩ := World.cells?_some hc
    intro j f hj
    obtain ⟨ho, hk⟩ := hone_of hone j f hj
    have hjl : j < fs.size := (Array.getElem?_eq_some_iff.1 hj).1
    have hcell := hat j hjl
    have hv : cs'[j]? = some (cs'[j]'(by omega)) := List.getElem?_eq_getElem (by omega)
    have h1 := hf j f hj
    rw [ho, hk] at h1
    have hone' : (cs'.drop j).take 1 = [cs'[j]'(by omega)] := by
      rw [List.drop_eq_getElem_cons (by omega)]
      rfl
    rw [hone'] at h1
    have hys : ys[j]? = some (ys[j]'(by omega)) := List.getElem?_eq_getElem (by omega)
    refine ⟨_, _, n', ?_, h1.trans hys⟩
    rw [← Go.Deep.add_add, hcell, hv]

theorem slOf_cells {α : Type} {enc : α → List Value} {k : Nat} (hk : ∀ x, (enc x).length = k) (k0 : 0 < k) {a : Addr} {len cap : Nat} (f : Nat → α) (hcap : len ≤ cap) (hm : cap ≤ maxLen)
    (hcell : ∀ i, i < len → ∀ j, j < k → w.cell? (a.add (i * k + j)) = (enc (f i))[j]?) : SlOf enc k w (.slice (some a) len cap) ((List.range len).map f) := by
  have hl : ((List.range len).map f).length = len := by simp
  refine ⟨some a, cap, by rw [hl], by rw [hl]; exact hcap, hm, by rw [hl, flat_len enc k hk, hl], fun hn => ?_⟩
  rw [hl] at hn
  have h0 := hcell 0 hn 0 k0
  have e0 : (enc (f 0))[0]? = some ((enc (f 0))[0]'(by rw [hk]; exact k0)) := List.getElem?_eq_getElem _
  rw [e0] at h0
  have hs := World.cell?_spot h0
  obtain ⟨b, off, spot⟩ := a
  have hsp : spot = none := by simpa [Addr.add] using hs
  subst hsp
  refine ⟨b, off, rfl, by simpa [Addr.add_lit] using World.block_lt_of_cell? w _ h0, fun t u hu => ?_⟩
  have ht : t < len * k := by
    have := (List.getElem?_eq_some_iff.1 hu).1
    rwa [flat_len enc k hk, hl] at this
  have hq : t / k < len := by rwa [Nat.div_lt_iff_lt_mul k0]
  have hr : t % k < k := Nat.mod_lt _ k0
  have h1 := flat_get enc k hk ((List.range len).map f) (t / k) (t % k) hr
  rw [Nat.div_add_mod'] at h1
  rw [hu, List.getElem?_map, List.getElem?_range hq] at h1
  have h2 := hcell (t / k) hq (t % k) hr
  rw [Nat.div_add_mod'] at h2
  rw [Addr.add_lit] at h2
  rw [h2]
  simpa using h1.symm

theorem slOf_fields {α : Type} {encA : α → List Value} {k : Nat} (hk : ∀ x, (encA x).length = k) (k0 : 0 < k) {t e : TypeId} {fs : Array Field} {fuel : Nat} {v : Value} {x : DataW H × List MemPlace} (ht : P.underlying t = some (.slice e)) (he : P.underlying e = some (.struct fs))
    (hone : oneCellFields P fs = true) (hC : P.cellsOf e = fs.size) (hs : fs.size = k) (hint : fs.all (fun f => match P.underlying f.type with | some (.int .i64) => true | _ => false) = true) (mk : (Nat → Int) → α) (hmk : ∀ g j, j < k → (encA (mk g))[j]? = some (.int .i64 (g j)))
    (h : DataW.trod enc P w base spare held fuel t [v] = some x) : ∃ xs : List α, SlOf encA k w v xs := by
  rcases open_slice_fields ht he hone hC h with h0 | ⟨a, len, cap, hcs, hcap, hm, hf⟩
  · cases h0
    exact ⟨[], none, 0, rfl, Nat.le_refl _, by simp [maxLen], Sl.nil _ _ _⟩
  · cases hcs
    have hex : ∀ i j, ∃ n : Int, i < len → j < k → w.cell? (a.add (i * k + j)) = some (.int .i64 n) := fun i j => by
      by_cases hi : i < len
      · by_cases hj : j < k
        · have hjf : fs[j]? = some (fs[j]'(by omega)) := Array.getElem?_eq_getElem (by omega)
          obtain ⟨u, y, n, hc, hy⟩ := hf i hi j _ hjf
          have hi64 : P.underlying (fs[j]'(by omega)).type = some (.int .i64) := by
            have := Array.all_eq_true.1 hint j (by omega)
            split at this
            · assumption
            · cases this
          obtain ⟨z, hz, _, _⟩ := DataW.trod_int hi64 hy
          simp at hz
          subst hz
          exact ⟨z, fun _ _ => by rw [hs] at hc; exact hc⟩
        · exact ⟨0, fun _ h => absurd h hj⟩
      · exact ⟨0, fun h => absurd h hi⟩
    refine ⟨_, slOf_cells hk k0 (fun i => mk fun j => Classical.choose (hex i j)) hcap hm fun i hi j hj => ?_⟩
    rw [hmk _ j hj]
    exact Classical.choose_spec (hex i j) hi hj
theorem slOf_ints {t e : TypeId} {fuel : Nat} {v : Value} {x : DataW H × List MemPlace} (ht : P.underlying t = some (.slice e)) (he : P.underlying e = some (.int .i64)) (hc : P.cellsOf e = 1)
    (h : DataW.trod enc P w base spare held fuel t [v] = some x) : ∃ xs : List Int, Ints w v xs := by
  rcases open_ints ht he hc h with ⟨hcs, _⟩ | ⟨a, len, cap, zs, hcs, _, hl, hm, hz, _, hcell, _⟩
  · cases hcs
    exact ⟨[], none, 0, rfl, Nat.le_refl _, by simp [maxLen], Sl.nil _ _ _⟩
  · cases hcs
    refine ⟨_, slOf_cells lenI (by omega) (fun i => zs.getD i 0) hl hm fun i hi j hj => ?_⟩
    have : j = 0 := by omega
    subst this
    have := hcell i (by rw [hz]; split <;> omega)
    simpa [encI] using this
end

section
variable {H : Type} {enc : TypeId × Value → H} {w : World} {base : Nat} {spare : Nat → Bool} {held : Bool} {fuel : Nat} {v : Value} {x : DataW H × List MemPlace}
theorem reads_specs (h : DataW.trod enc Tryz.prog w base spare held fuel 22 [v] = some x) : ∃ xs, Specs w v xs :=
  slOf_fields lenS (by omega) Tryz.underlying22 Tryz.underlying27 (by kernel_rfl) (by kernel_rfl) rfl (by kernel_rfl) (fun g => (⟨g 0, g 1, g 2, g 3, g 4, g 5, g 6⟩ : Spec))
    (fun g j hj => by match j, hj with | 0, _ => rfl | 1, _ => rfl | 2, _ => rfl | 3, _ => rfl | 4, _ => rfl | 5, _ => rfl | 6, _ => rfl) h
theorem reads_links (h : DataW.trod enc Tryz.prog w base spare held fuel 66 [v] = some x) : ∃ xs, Links w v xs :=
  slOf_fields lenL (by omega) Tryz.underlying66 Tryz.underlying73 (by kernel_rfl) (by kernel_rfl) rfl (by kernel_rfl) (fun g => (⟨g 0, g 1, g 2⟩ : Link))
    (fun g j hj => by match j, hj with | 0, _ => rfl | 1, _ => rfl | 2, _ => rfl) h
theorem reads_ints (h : DataW.trod enc Tryz.prog w base spare held fuel 28 [v] = some x) : ∃ xs, Ints w v xs :=
  slOf_ints Tryz.underlying28 Tryz.underlying3 (by kernel_rfl) h
end
section
variable {H : Type} {enc : TypeId × Value → H} {w : World} {base : Nat} {spare : Nat → Bool} {held : Bool} {r : Reach} {b0 : Nat} {v : Value} {d : DataW H} {p : List MemPlace}
set_option maxRecDepth 100000 in
theorem opens_specs (hv : Value.okWide Tryz.prog w r b0 22 v) (h : DataW.Trod enc Tryz.prog w base spare held 22 v d p) : ∃ xs, Specs w v xs := by
  obtain ⟨a, l, c, rfl⟩ := okWide_slice Tryz.underlying22 hv
  obtain ⟨fuel, hf⟩ := h
  exact reads_specs (by simpa [Value.cells] using hf)
set_option maxRecDepth 100000 in
theorem opens_ints (hv : Value.okWide Tryz.prog w r b0 28 v) (h : DataW.Trod enc Tryz.prog w base spare held 28 v d p) : ∃ xs, Ints w v xs := by
  obtain ⟨a, l, c, rfl⟩ := okWide_slice Tryz.underlying28 hv
  obtain ⟨fuel, hf⟩ := h
  exact reads_ints (by simpa [Value.cells] using hf)
set_option maxRecDepth 100000 in
theorem opens_graph (hv : Value.okWide Tryz.prog w r b0 68 v) (h : DataW.Trod enc Tryz.prog w base spare held 68 v d p) : ∃ g, GraphAt w v g := by
  obtain ⟨v1, v2, v3, y1, y2, y3, n, rfl, _, _, h1, h2, h3⟩ := Go.Joins.open_agg3 Tryz.underlying68 (by kernel_rfl) (by kernel_rfl) hv h
  obtain ⟨o, ho⟩ := reads_ints h1
  obtain ⟨q, hq⟩ := reads_ints h2
  obtain ⟨l, hl⟩ := reads_links h3
  exact ⟨⟨o, q, l⟩, v1, v2, v3, rfl, ho, hq, hl⟩
set_option maxRecDepth 100000 in
theorem opens_die (hv : Value.okWide Tryz.prog w r b0 43 v) (h : DataW.Trod enc Tryz.prog w base spare held 43 v d p) : ∃ x : Die, v = .agg #[.int .i64 x.side, .int .i64 x.num] ∧ (Lit.int .i64 x.side).wf = true ∧ (Lit.int .i64 x.num).wf = true := by
  obtain ⟨v1, v2, y1, y2, n, rfl, _, _, h1, h2⟩ := Go.Joins.open_agg2 Tryz.underlying43 (by kernel_rfl) (by kernel_rfl) hv h
  obtain ⟨a, e1, _, w1⟩ := DataW.trod_int Tryz.underlying3 h1
  obtain ⟨b, e2, _, w2⟩ := DataW.trod_int Tryz.underlying3 h2
  simp at e1 e2
  subst e1; subst e2
  exact ⟨⟨a, b⟩, rfl, w1, w2⟩
end
end Go.Proofs.YtikfffojeakjoaaGreatDoor
/- The arguments of a law, read with the bounds of their numbers. No condition. -/
namespace Go.Proofs.YtikfffojeakjoaaGreatDoor
open Go.RowKit Go.ChangeShapes Go.WideShapes Go.Deep

section
variable {H : Type} {enc : TypeId × Value → H} {P : Program} {w : World} {base : Nat} {spare : Nat → Bool} {held : Bool}
theorem slOf_ints_wf {t e : TypeId} {fuel : Nat} {v : Value} {x : DataW H × List MemPlace} (ht : P.underlying t = some (.slice e)) (he : P.underlying e = some (.int .i64)) (hc : P.cellsOf e = 1)
    (h : DataW.trod enc P w base spare held fuel t [v] = some x) : ∃ xs : List Int, Ints w v xs ∧ ∀ x ∈ xs, wfI x := by
  rcases open_ints ht he hc h with ⟨hcs, _⟩ | ⟨a, len, cap, zs, hcs, _, hl, hm, hz, _, hcell, hwf⟩
  · cases hcs
    exact ⟨[], ⟨none, 0, rfl, Nat.le_refl _, by simp [maxLen], Sl.nil _ _ _⟩, by simp⟩
  · cases hcs
    have hlz : len ≤ zs.length := by rw [hz]; split <;> omega
    refine ⟨_, slOf_cells lenI (by omega) (fun i => zs.getD i 0) hl hm fun i hi j hj => ?_, fun x hx => ?_⟩
    · have : j = 0 := by omega
      subst this
      have := hcell i (by omega)
      simpa [encI] using this
    · obtain ⟨i, hi, rfl⟩ := List.mem_map.1 hx
      have hi' : i < zs.length := by have := List.mem_range.1 hi; omega
      rw [List.getD_eq_getElem?_getD, List.getElem?_eq_getElem hi']
      exact hwf _ (List.getElem_mem hi')
end
section
variable {H : Type} {enc : TypeId × Value → H} {w : World} {base : Nat} {spare : Nat → Bool} {held : Bool} {fuel : Nat} {v : Value} {x : DataW H × List MemPlace}
theorem reads_ints_wf (h : DataW.trod enc Tryz.prog w base spare held fuel 28 [v] = some x) : ∃ xs, Ints w v xs ∧ ∀ x ∈ xs, wfI x :=
  slOf_ints_wf Tryz.underlying28 Tryz.underlying3 (by kernel_rfl) h
end
section
variable {H : Type} {enc : TypeId × Value → H} {w : World} {base : Nat} {spare : Nat → Bool} {held : Bool} {r : Reach} {b0 : Nat} {v : Value} {d : DataW H} {p : List MemPlace}
set_option maxRecDepth 100000 in
theorem opens_ints_wf (hv : Value.okWide Tryz.prog w r b0 28 v) (h : DataW.Trod enc Tryz.prog w base spare held 28 v d p) : ∃ xs, Ints w v xs ∧ ∀ x ∈ xs, wfI x := by
  obtain ⟨a, l, c, rfl⟩ := okWide_slice Tryz.underlying28 hv
  obtain ⟨fuel, hf⟩ := h
  exact reads_ints_wf (by simpa [Value.cells] using hf)
set_option maxRecDepth 100000 in
theorem opens_graph_wf (hv : Value.okWide Tryz.prog w r b0 68 v) (h : DataW.Trod enc Tryz.prog w base spare held 68 v d p) : ∃ g, GraphAt w v g ∧ (∀ x ∈ g.obv, wfI x) ∧ ∀ x ∈ g.rev, wfI x := by
  obtain ⟨v1, v2, v3, y1, y2, y3, n, rfl, _, _, h1, h2, h3⟩ := Go.Joins.open_agg3 Tryz.underlying68 (by kernel_rfl) (by kernel_rfl) hv h
  obtain ⟨o, ho, wo⟩ := reads_ints_wf h1
  obtain ⟨q, hq, wq⟩ := reads_ints_wf h2
  obtain ⟨l, hl⟩ := reads_links h3
  exact ⟨⟨o, q, l⟩, ⟨v1, v2, v3, rfl, ho, hq, hl⟩, wo, wq⟩
end
end Go.Proofs.YtikfffojeakjoaaGreatDoor
/- Slices of structs of numbers as a law's arguments, with the bounds of their numbers. No condition. -/
namespace Go.Proofs.YtikfffojeakjoaaGreatDoor
open Go.RowKit Go.ChangeShapes Go.WideShapes Go.Deep

section
variable {H : Type} {enc : TypeId × Value → H} {P : Program} {w : World} {base : Nat} {spare : Nat → Bool} {held : Bool}
theorem slOf_fields_wf {α : Type} {encA : α → List Value} {k : Nat} (hk : ∀ x, (encA x).length = k) (k0 : 0 < k) {t e : TypeId} {fs : Array Field} {fuel : Nat} {v : Value} {x : DataW H × List MemPlace} (ht : P.underlying t = some (.slice e)) (he : P.underlying e = some (.struct fs))
    (hone : oneCellFields P fs = true) (hC : P.cellsOf e = fs.size) (hs : fs.size = k) (hint : fs.all (fun f => match P.underlying f.type with | some (.int .i64) => true | _ => false) = true) (mk : (Nat → Int) → α) (hmk : ∀ g j, j < k → (encA (mk g))[j]? = some (.int .i64 (g j)))
    (h : DataW.trod enc P w base spare held fuel t [v] = some x) : ∃ xs : List α, SlOf encA k w v xs ∧ ∀ x ∈ xs, ∃ g : Nat → Int, x = mk g ∧ ∀ j < k, wfI (g j) := by
  rcases open_slice_fields ht he hone hC h with h0 | ⟨a, len, cap, hcs, hcap, hm, hf⟩
  · cases h0
    exact ⟨[], ⟨none, 0, rfl, Nat.le_refl _, by simp [maxLen], Sl.nil _ _ _⟩, by simp⟩
  · cases hcs
    have hex : ∀ i j, ∃ n : Int, i < len → j < k → w.cell? (a.add (i * k + j)) = some (.int .i64 n) ∧ wfI n := fun i j => by
      by_cases hi : i < len
      · by_cases hj : j < k
        · have hjf : fs[j]? = some (fs[j]'(by omega)) := Array.getElem?_eq_getElem (by omega)
          obtain ⟨u, y, n, hc, hy⟩ := hf i hi j _ hjf
          have hi64 : P.underlying (fs[j]'(by omega)).type = some (.int .i64) := by
            have := Array.all_eq_true.1 hint j (by omega)
            split at this
            · assumption
            · cases this
          obtain ⟨z, hz, _, hwf⟩ := DataW.trod_int hi64 hy
          simp at hz
          subst hz
          exact ⟨z, fun _ _ => ⟨by rw [hs] at hc; exact hc, hwf⟩⟩
        · exact ⟨0, fun _ h => absurd h hj⟩
      · exact ⟨0, fun h => absurd h hi⟩
    refine ⟨_, slOf_cells hk k0 (fun i => mk fun j => Classical.choose (hex i j)) hcap hm fun i hi j hj => ?_, fun x hx => ?_⟩
    · rw [hmk _ j hj]
      exact (Classical.choose_spec (hex i j) hi hj).1
    · obtain ⟨i, hi, rfl⟩ := List.mem_map.1 hx
      exact ⟨_, rfl, fun j hj => (Classical.choose_spec (hex i j) (List.mem_range.1 hi) hj).2⟩
end
section
variable {H : Type} {enc : TypeId × Value → H} {w : World} {base : Nat} {spare : Nat → Bool} {held : Bool} {fuel : Nat} {v : Value} {x : DataW H × List MemPlace}
theorem reads_dies_wf (h : DataW.trod enc Tryz.prog w base spare held fuel 110 [v] = some x) : ∃ xs, Dies w v xs ∧ ∀ x ∈ xs, wfI x.side ∧ wfI x.num := by
  obtain ⟨xs, h1, h2⟩ := slOf_fields_wf lenD (by omega) Tryz.underlying110 Tryz.underlying43 (by kernel_rfl) (by kernel_rfl) rfl (by kernel_rfl) (fun g => (⟨g 0, g 1⟩ : Die))
    (fun g j hj => by match j, hj with | 0, _ => rfl | 1, _ => rfl) h
  exact ⟨xs, h1, fun x hx => by obtain ⟨g, rfl, hg⟩ := h2 x hx; exact ⟨hg 0 (by omega), hg 1 (by omega)⟩⟩
theorem reads_pairs_wf (h : DataW.trod enc Tryz.prog w base spare held fuel 23 [v] = some x) : ∃ xs, Pairs w v xs ∧ ∀ x ∈ xs, wfI x.a ∧ wfI x.b := by
  obtain ⟨xs, h1, h2⟩ := slOf_fields_wf lenP (by omega) Tryz.underlying23 Tryz.underlying34 (by kernel_rfl) (by kernel_rfl) rfl (by kernel_rfl) (fun g => (⟨g 0, g 1⟩ : Pair))
    (fun g j hj => by match j, hj with | 0, _ => rfl | 1, _ => rfl) h
  exact ⟨xs, h1, fun x hx => by obtain ⟨g, rfl, hg⟩ := h2 x hx; exact ⟨hg 0 (by omega), hg 1 (by omega)⟩⟩
end
section
variable {H : Type} {enc : TypeId × Value → H} {w : World} {base : Nat} {spare : Nat → Bool} {held : Bool} {r : Reach} {b0 : Nat} {v : Value} {d : DataW H} {p : List MemPlace}
set_option maxRecDepth 100000 in
theorem opens_dies_wf (hv : Value.okWide Tryz.prog w r b0 110 v) (h : DataW.Trod enc Tryz.prog w base spare held 110 v d p) : ∃ xs, Dies w v xs ∧ ∀ x ∈ xs, wfI x.side ∧ wfI x.num := by
  obtain ⟨a, l, c, rfl⟩ := okWide_slice Tryz.underlying110 hv
  obtain ⟨fuel, hf⟩ := h
  exact reads_dies_wf (by simpa [Value.cells] using hf)
set_option maxRecDepth 100000 in
theorem opens_pairs_wf (hv : Value.okWide Tryz.prog w r b0 23 v) (h : DataW.Trod enc Tryz.prog w base spare held 23 v d p) : ∃ xs, Pairs w v xs ∧ ∀ x ∈ xs, wfI x.a ∧ wfI x.b := by
  obtain ⟨a, l, c, rfl⟩ := okWide_slice Tryz.underlying23 hv
  obtain ⟨fuel, hf⟩ := h
  exact reads_pairs_wf (by simpa [Value.cells] using hf)
end
end Go.Proofs.YtikfffojeakjoaaGreatDoor
