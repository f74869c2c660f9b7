/- cover.Augment. Condition: the arguments read as a graph and pairs of wellformed numbers. -/
import Derived.Test.YtnaoiochfdipiaaCovG
namespace Go.Proofs.Ytnaoiochfdipiaa
open Go.RowKit Go.Shelf Go.Maps

noncomputable def augG (g : Graph) (l : List Pair) : List Pair := if isMatB g l = true then (if (moreG g l).1 = true then sortM (moreG g l).2.obv else []) else []
noncomputable def augE (g : Graph) (l : List Pair) : Int := if isMatB g l = true then (if (moreG g l).1 = true then 0 else 7) else 1
set_option maxHeartbeats 8000000 in
set_option maxRecDepth 100000 in
theorem Augment_ok (g : Graph) (hwf : WfG g) (v u : Value) (l : List Pair) (w : World) (h : GraphAt w v g) (hl : Pairs w u l) (hwl : ∀ p ∈ l, wfI p.a ∧ wfI p.b) (hlen : l.length ≤ 90) :
    Calls Try.prog 19 #[v, u] w fun e w' => ∃ z, e = .returned (.tuple #[z, .int .i64 (augE g l)]) ∧ OwnP w.heap.size w' z (augG g l) ∧ Below w.heap.size w w' := by
  have h0 := h
  obtain ⟨v1, v2, v3, rfl, ho, hr, hk⟩ := h
  obtain ⟨A1, c1, rfl, _, _, _⟩ := ho.cells
  obtain ⟨A2, c2, rfl, _, _, _⟩ := hr.cells
  obtain ⟨A3, c3, rfl, _, _, _⟩ := hk.cells
  obtain ⟨A, c, rfl, _, _, _⟩ := hl.cells
  obtain ⟨W, hW, Hz, hwW, hlt0, hc0⟩ := boxed w #[.slice A1 g.obv.length c1, .slice A2 g.rev.length c2, .slice A3 g.links.length c3] 25
  have a0 := hc0 0 _ rfl; have a1 := hc0 1 _ rfl; have a2 := hc0 2 _ rfl
  clear hc0 ho hr hk
  have HM := Lib.hid (IsMatching_ok g _ _ l W (h0.below hwW) (hl.below hwW) hwl)
  have HE : Hid (augE g l = if isMatB g l = true then (if (moreG g l).1 = true then 0 else 7) else 1) := Lib.hid rfl
  have HG : Hid (augG g l = if isMatB g l = true then (if (moreG g l).1 = true then sortM (moreG g l).2.obv else []) else []) := Lib.hid rfl
  have HB : Hid (isMatB g l = true → IsMatP g l) := Lib.hid fun h => isMatB_iff.1 h
  go_enter Try.func19, Try.ntmps19
  go_wp2_with fail
  clear hW
  refine HM.out.mono ?_
  rintro e w1 ⟨rfl, hb1⟩
  clear HM
  have b0 := cell_later hb1 a0; have b1 := cell_later hb1 a1; have b2 := cell_later hb1 a2
  have hw1 := below_trans hwW hb1
  clear a0 a1 a2
  cases hm : isMatB g l
  · rw [hm, if_neg (by simp)] at HE HG
    go_wp2_with fail
    go_ret2
    exact ⟨_, ret_mat HE.out.symm, by rw [HG.out]; exact own_nil _ _ _ _ _, hw1⟩
  rw [hm, if_pos rfl] at HE HG
  have hg := (HB.out hm).1
  have Hmat := Lib.hid (HB.out hm).2
  have Hg := Lib.hid hg
  have hol := ofS_len l
  clear hm hg HB
  go_wp2_with fail
  refine (of_ok _ l w1 (hl.below hw1) hwl).mono ?_
  rintro e w2 ⟨bo, br, rfl, hS, _, _, hb2⟩
  have hw2 := below_trans hw1 hb2
  have c0 := cell_later hb2 b0; have c1' := cell_later hb2 b1; have c2' := cell_later hb2 b2
  clear b0 b1 b2
  obtain ⟨w3, hW3, Hz3, hb3, hlt3, hc3⟩ := boxed w2 #[.map (some bo), .map (some br)] 62
  have hw3 := below_trans hw2 hb3
  have d0 := cell_later hb3 c0; have d1 := cell_later hb3 c1'; have d2 := cell_later hb3 c2'
  have n0 := hc3 0 _ rfl; have n1 := hc3 1 _ rfl
  have hS3 := hS.below hb3
  clear hc3 c0 c1' c2'
  have HC := Lib.hid (more_ok g Hg.out hwf (.agg #[.slice A1 g.obv.length c1, .slice A2 g.rev.length c2, .slice A3 g.links.length c3]) bo br (ofS l) w3 (h0.below hw3) hS3 (by omega) (by omega))
  have hno := hS3.nocell
  have HS := Lib.hid (ofS_good Hg.out Hmat.out)
  change Hid (Calls _ _ _ _ fun e w' => e = .returned (.bool (moreG g l).1) ∧ StAt w' bo br (moreG g l).2 ∧ Touch w3 w' [bo, br]) at HC
  have HML := Lib.hid (fun (b : (moreG g l).1 = true) => moreL_true Hg.out HS.out (show moreL (nbr g) (g.rev.length + 1) g.obv (ofS l) = (true, (moreG g l).2) from by rw [← b]; rfl))
  obtain ⟨bb, s2, hq⟩ : ∃ bb s2, moreG g l = (bb, s2) := ⟨_, _, rfl⟩
  rw [hq] at HC HE HG HML
  have hbo : w.heap.size ≤ bo ∧ w.heap.size ≤ br := ⟨by have := hw1.size; omega, by have := hw1.size; omega⟩
  clear hq
  go_wp2_with fail
  clear hW3
  refine HC.out.mono ?_
  rintro e w4 ⟨rfl, hS4, hT⟩
  clear HC
  have m0 := cell_touch hT hno n0; have m1 := cell_touch hT hno n1
  have hw4 : Below w.heap.size w w4 := hw3.trans (hT.below (by simp; exact hbo) hw3.size)
  clear d0 d1 d2 n0 n1
  have HT := Lib.hid hT
  clear hT hno
  cases bb
  · rw [if_neg (by simp)] at HE HG
    go_wp2_with fail
    go_ret2
    exact ⟨_, ret_mat HE.out.symm, by rw [HG.out]; exact own_nil _ _ _ _ _, hw4⟩
  rw [if_pos rfl] at HE HG
  obtain ⟨hG2, _, _, _⟩ := HML.out rfl
  have hl1 := hG2.len; have hl2 := hG2.lenR Hg.out
  have HN := Lib.hid (sortM_of hG2.nodO)
  clear hG2 HML
  go_wp2_with fail
  refine (list_ok bo br s2 w4 hS4 (by omega)).mono ?_
  rintro e w5 ⟨z, ys, rfl, hu, hy, hb5⟩
  have HL := Lib.hid (hy.unique HN.out)
  clear hy
  go_wp2_with fail
  go_ret2
  exact ⟨_, ret_mat HE.out.symm, by rw [HG.out]; simp only; rw [← HL.out]; exact hu.base hw4.size, below_trans hw4 hb5⟩
end Go.Proofs.Ytnaoiochfdipiaa
