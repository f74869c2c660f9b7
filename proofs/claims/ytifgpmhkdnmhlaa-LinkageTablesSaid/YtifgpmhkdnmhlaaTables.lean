/- For every graph and every die, LinkageTables returns true, and the arguments read as they did. No condition. -/
import Derived.Test.YtifgpmhkdnmhlaaRows
import Derived.Test.YtifgpmhkdnmhlaaAwake
import Derived.Test.YtifgpmhkdnmhlaaOpen
import Derived.Test.YtifgpmhkdnmhlaaReadA
import Derived.Test.YtifgpmhkdnmhlaaPairC
import Derived.Test.YtifgpmhkdnmhlaaRefF
namespace Go.Proofs.Ytifgpmhkdnmhlaa
open Go.RowKit Go.Shelf Go.ChangeShapes Go.WideShapes Go.ChangeAt

set_option maxHeartbeats 4000000 in
set_option maxRecDepth 100000 in
theorem tables_walk (v : Value) (g : Graph) (s n : Int) (w : World) (h : GraphAt w v g) :
    Calls Try.prog 10 #[v, .agg #[.int .i64 s, .int .i64 n]] w fun e w' => e = .returned (.bool true) ∧ Below w.heap.size w w' := by
  have h0 := h
  obtain ⟨v1, v2, v3, rfl, ho, hr, hl⟩ := h
  obtain ⟨A1, c1, rfl, _, _, _⟩ := ho.cells
  obtain ⟨A2, c2, rfl, _, _, _⟩ := hr.cells
  obtain ⟨A3, c3, rfl, _, _, _⟩ := hl.cells
  obtain ⟨W0, hW0, Hz0, hwW0, hlt0, hc0⟩ := boxed w #[.slice A1 g.obv.length c1, .slice A2 g.rev.length c2, .slice A3 g.links.length c3] 27
  obtain ⟨W, hW, Hz, hWW, hlt, hc1⟩ := boxed W0 #[.int .i64 s, .int .i64 n] 39
  have hwW := below_trans hwW0 hWW
  have a0 := cell_later hWW (hc0 0 _ rfl); have a1 := cell_later hWW (hc0 1 _ rfl); have a2 := cell_later hWW (hc0 2 _ rfl)
  have b0 := hc1 0 _ rfl; have b1 := hc1 1 _ rfl
  clear hc0 hc1 ho hr hl
  rw [Hz0.out] at b0 b1
  have hW' : (w.alloc (.cells #[.slice A1 g.obv.length c1, .slice A2 g.rev.length c2, .slice A3 g.links.length c3] 27)).alloc (.cells #[.int .i64 s, .int .i64 n] 39) = W := by rw [hW0, hW]
  clear hW0 hW
  go_enter Try.func10, Try.ntmps10
  go_wp2_with fail
  refine (awake_ok _).mono ?_
  rintro e w1 ⟨rfl, hb1⟩
  clear hW'
  have a0' := cell_later hb1 a0; have a1' := cell_later hb1 a1; have a2' := cell_later hb1 a2; have b0' := cell_later hb1 b0; have b1' := cell_later hb1 b1
  have hw1 := below_trans hwW hb1
  clear a0 a1 a2 b0 b1
  have hF := few_ok _ _ w1 (h0.below hw1)
  cases hf : fewB g
  · rw [hf] at hF
    have HF := Lib.hid hF; clear hF hf
    go_wp2_with fail
    refine HF.out.mono ?_
    rintro e w2 ⟨rfl, hb2⟩
    go_wp2_with fail
    refine (awake_ok _).mono ?_
    rintro e w3 ⟨rfl, hb3⟩
    go_wp2_with fail
    go_ret
    exact ⟨rfl, below_trans hw1 (below_trans hb2 hb3)⟩
  rw [hf] at hF
  have HF := Lib.hid hF; have Hf := Lib.hid hf; clear hF hf
  go_wp2_with fail
  refine HF.out.mono ?_
  rintro e w2 ⟨rfl, hb2⟩
  have a0 := cell_later hb2 a0'; have a1 := cell_later hb2 a1'; have a2 := cell_later hb2 a2'; have b0 := cell_later hb2 b0'; have b1 := cell_later hb2 b1'
  have hw2 := below_trans hw1 hb2
  clear a0' a1' a2' b0' b1'
  go_wp2_with fail
  refine (Matrix_ok _ _ _ (h0.below hw2)).mono ?_
  rintro e w3 ⟨m, rfl, hm, hb3⟩
  have hw3 := below_trans hw2 hb3
  replace a0 := cell_later hb3 a0; replace a1 := cell_later hb3 a1; replace a2 := cell_later hb3 a2; replace b0 := cell_later hb3 b0; replace b1 := cell_later hb3 b1
  go_wp2_with fail
  refine (Pairs_ok _ _ _ (h0.below hw3)).mono ?_
  rintro e w4 ⟨p, rfl, hp, hb4⟩
  have hw4 := below_trans hw3 hb4
  replace hm := hm.below hb4
  replace a0 := cell_later hb4 a0; replace a1 := cell_later hb4 a1; replace a2 := cell_later hb4 a2; replace b0 := cell_later hb4 b0; replace b1 := cell_later hb4 b1
  go_wp2_with fail
  refine (Partners_ok _ _ s n _ (h0.below hw4)).mono ?_
  rintro e w5 ⟨l, rfl, hl, hb5⟩
  have hw5 := below_trans hw4 hb5
  replace hm := hm.below hb5; replace hp := hp.below hb5
  replace a0 := cell_later hb5 a0; replace a1 := cell_later hb5 a1; replace a2 := cell_later hb5 a2; replace b0 := cell_later hb5 b0; replace b1 := cell_later hb5 b1
  go_wp2_with fail
  refine (Matrix_ok13 _ _ _ (h0.below hw5)).mono ?_
  rintro e w6 ⟨m', rfl, hm', hb6⟩
  have hw6 := below_trans hw5 hb6
  replace hm := hm.below hb6; replace hp := hp.below hb6; replace hl := hl.below hb6
  replace a0 := cell_later hb6 a0; replace a1 := cell_later hb6 a1; replace a2 := cell_later hb6 a2; replace b0 := cell_later hb6 b0; replace b1 := cell_later hb6 b1
  go_wp2_with fail
  refine (Pairs_ok13 _ _ _ (h0.below hw6)).mono ?_
  rintro e w7 ⟨p', rfl, hp', hb7⟩
  have hw7 := below_trans hw6 hb7
  replace hm := hm.below hb7; replace hp := hp.below hb7; replace hl := hl.below hb7; replace hm' := hm'.below hb7
  replace a0 := cell_later hb7 a0; replace a1 := cell_later hb7 a1; replace a2 := cell_later hb7 a2; replace b0 := cell_later hb7 b0; replace b1 := cell_later hb7 b1
  go_wp2_with fail
  refine (Partners_ok13 _ _ s n _ (h0.below hw7)).mono ?_
  rintro e w8 ⟨l', rfl, hl', hb8⟩
  have hw8 := below_trans hw7 hb8
  replace hm := hm.below hb8; replace hp := hp.below hb8; replace hl := hl.below hb8; replace hm' := hm'.below hb8; replace hp' := hp'.below hb8
  clear a0 a1 a2 b0 b1
  have hL := Lists_ok _ _ _ _ _ hm hm'
  simp only [decide_true] at hL
  have HL := Lib.hid hL; clear hL
  have hvv : (validE g == validE g) = true := by simp
  have hpp : (partE g ⟨s, n⟩ == partE g ⟨s, n⟩) = true := by simp
  go_wp2_with fail
  refine HL.out.mono ?_
  rintro e w9 ⟨rfl, hb9⟩
  have hP := basePairs_ok _ _ _ _ _ (hp.below hb9) (hp'.below hb9)
  simp only [decide_true] at hP
  have HP := Lib.hid hP; clear hP
  go_wp2_with fail
  refine HP.out.mono ?_
  rintro e w10 ⟨rfl, hb10⟩
  have hI := baseInts_ok _ _ _ _ _ ((hl.below hb9).below hb10) ((hl'.below hb9).below hb10)
  simp only [decide_true] at hI
  have HI := Lib.hid hI; clear hI
  go_wp2_with fail
  refine HI.out.mono ?_
  rintro e w11 ⟨rfl, hb11⟩
  go_wp2_with fail
  go_ret
  exact ⟨rfl, below_trans (below_trans (below_trans hw8 hb9) hb10) hb11⟩
theorem tables_walk' (v : Value) (g : Graph) (d : Die) (w : World) (h : GraphAt w v g) (_ : (Lit.int .i64 d.side).wf = true) (_ : (Lit.int .i64 d.num).wf = true) :
    Calls Try.prog 10 #[v, .agg #[.int .i64 d.side, .int .i64 d.num]] w fun e w' => e = .returned (.bool true) ∧ Below w.heap.size w w' := tables_walk v g d.side d.num w h

set_option maxRecDepth 100000 in
theorem tables_lifted (os : Os) (started : os.Started) (H : Type) (enc : TypeId × Value → H) :
    ReturnsInHanded {} Try.checked os 10 .any (Rows.linkageTablesSpec.pre6 enc Try.prog Try.f10 Rows.linkageTablesRow.domain false) (Rows.linkageTablesSpec.post enc Try.prog Try.f10 false true false false) := by
  refine returnsInHanded_of_change (C := Try.checked) Try.own started (by kernel_rfl) Try.func10
    (ChangeSpec.witness6 (enc := enc) (C := Try.checked) false ⟨#[], #[.agg #[.slice none 0 0, .slice none 0 0, .slice none 0 0], .agg #[.int .i64 0, .int .i64 0]], []⟩ 8 (by kernel_rfl) (by kernel_rfl) (by kernel_rfl) (by kernel_rfl)) ?_
  intro W base args ds gs before hval0 hW hcnd _
  have hval : ∀ (j : Nat) t v, Try.f10.params[j]? = some t → args[j]? = some v → Value.okWide Try.prog W .any base t v := hval0
  have hW' := hW
  obtain ⟨p, q, hA0, hV, rfl, hfz, hnd⟩ := hW
  have hA : DataW.TrodAll enc Try.prog W 0 (fun _ => true) true Try.f10.params.toList args.toList ds p := hA0
  rw [Try.params10] at hA hval
  obtain ⟨v0, v1, d0, d1, p0, p1, rfl, rfl, rfl, h0, h1⟩ := trodAll_two hA
  obtain ⟨rfl, rfl⟩ := trodVars_none hV
  have k0 := h0
  have lt0 : ∀ x ∈ p0, x.block < W.heap.size := by obtain ⟨m, hm⟩ := k0; exact DataW.trod_lt m _ _ _ hm
  obtain ⟨g0, hg0⟩ := opens_graph (hval 0 27 v0 rfl rfl) h0
  have k1 := h1
  have lt1 : ∀ x ∈ p1, x.block < W.heap.size := by obtain ⟨m, hm⟩ := k1; exact DataW.trod_lt m _ _ _ hm
  obtain ⟨x1, rfl, wa1, wb1⟩ := opens_die (hval 1 39 v1 rfl rfl) h1
  clear hA0 hval0
  refine (tables_walk' v0 g0 x1 W hg0 wa1 wb1).mono fun e W' ⟨he, bel⟩ => ?_
  subst he
  exact ⟨_, rfl, _, _, _, [], _, [], hW', trodAll_mk1 (shut_bool Try.underlying4 _), trodAll_mk2 (Below.trod Try.laidOut (by kernel_rfl) (of_decide_eq_true (by kernel_rfl)) k0 bel lt0) (Below.trod Try.laidOut (by kernel_rfl) (of_decide_eq_true (by kernel_rfl)) k1 bel lt1), rfl, bel.frame _, fun h => by cases h⟩

theorem tables_holds : Rows.LinkageTablesSaid :=
  OpenClaim.holds_of_wide 10 Try.f10 rfl rfl rfl rfl rfl rfl rfl ⟨rfl, rfl, rfl, rfl, rfl⟩ rfl rfl rfl rfl rfl (by kernel_rfl) Try.func10 (by kernel_rfl)
    (of_decide_eq_true (by kernel_rfl)) (by unfold Func.isWrapper; first | (rw [if_pos (by decide +kernel)]; kernel_rfl) | (rw [if_neg (by decide +kernel)]; exact ⟨rfl, rfl⟩))
    (fun os started H enc _ => tables_lifted os started H enc)
end Go.Proofs.Ytifgpmhkdnmhlaa
