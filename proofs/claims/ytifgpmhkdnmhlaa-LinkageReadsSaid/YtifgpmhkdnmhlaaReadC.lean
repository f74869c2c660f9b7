/- For every graph and every die, LinkageReads returns true, and the arguments read as they did. No condition. -/
import Derived.Test.YtifgpmhkdnmhlaaRows
import Derived.Test.YtifgpmhkdnmhlaaAwake
import Derived.Test.YtifgpmhkdnmhlaaOpen
import Derived.Test.YtifgpmhkdnmhlaaReadA
import Derived.Test.YtifgpmhkdnmhlaaReadB
namespace Go.Proofs.Ytifgpmhkdnmhlaa
open Go.RowKit Go.Shelf Go.ChangeShapes Go.WideShapes Go.ChangeAt

set_option maxHeartbeats 4000000 in
theorem reads_walk (v : Value) (g : Graph) (d : Die) (w : World) (h : GraphAt w v g) (_ : (Lit.int .i64 d.side).wf = true) (_ : (Lit.int .i64 d.num).wf = true) :
    Calls Try.prog 5 #[v, .agg #[.int .i64 d.side, .int .i64 d.num]] w fun e w' => e = .returned (.bool true) ∧ Below w.heap.size w w' := by
  have h0 := h
  obtain ⟨v1, v2, v3, rfl, ho, hr, hl⟩ := h
  obtain ⟨A1, c1, rfl, _, _, _⟩ := ho.cells
  obtain ⟨A2, c2, rfl, _, _, _⟩ := hr.cells
  obtain ⟨A3, c3, rfl, _, _, _⟩ := hl.cells
  obtain ⟨W0, hW0, Hz0, hwW0, hlt0, hc0⟩ := boxed w #[.slice A1 g.obv.length c1, .slice A2 g.rev.length c2, .slice A3 g.links.length c3] 27
  obtain ⟨W, hW, Hz, hWW, hlt, hc1⟩ := boxed W0 #[.int .i64 d.side, .int .i64 d.num] 39
  have hwW := below_trans hwW0 hWW
  have a0 := cell_later hWW (hc0 0 _ rfl); have a1 := cell_later hWW (hc0 1 _ rfl); have a2 := cell_later hWW (hc0 2 _ rfl)
  have b0 := hc1 0 _ rfl; have b1 := hc1 1 _ rfl
  clear hc0 hc1 ho hr hl
  rw [Hz0.out] at b0 b1
  have hW' : (w.alloc (.cells #[.slice A1 g.obv.length c1, .slice A2 g.rev.length c2, .slice A3 g.links.length c3] 27)).alloc (.cells #[.int .i64 d.side, .int .i64 d.num] 39) = W := by rw [hW0, hW]
  clear hW0 hW
  go_enter Try.func5, Try.ntmps5
  go_wp2_with fail
  refine (awake_ok _).mono ?_
  rintro e w1 ⟨rfl, hb1⟩
  clear hW'
  have a0' := cell_later hb1 a0; have a1' := cell_later hb1 a1; have a2' := cell_later hb1 a2; have b0' := cell_later hb1 b0; have b1' := cell_later hb1 b1
  have hw1 := below_trans hwW hb1
  clear a0 a1 a2 b0 b1
  have hF := few_ok _ _ w1 (h0.below hw1)
  cases hf : fewB g
  · rw [hf] at hF
    have HF := Lib.hid hF; clear hF hf
    go_wp2_with fail
    refine HF.out.mono ?_
    rintro e w2 ⟨rfl, hb2⟩
    go_wp2_with fail
    refine (awake_ok _).mono ?_
    rintro e w3 ⟨rfl, hb3⟩
    go_wp2_with fail
    go_ret
    exact ⟨rfl, below_trans hw1 (below_trans hb2 hb3)⟩
  rw [hf] at hF
  have HF := Lib.hid hF; have Hf := Lib.hid hf; clear hF hf
  go_wp2_with fail
  refine HF.out.mono ?_
  rintro e w2 ⟨rfl, hb2⟩
  have a0 := cell_later hb2 a0'; have a1 := cell_later hb2 a1'; have a2 := cell_later hb2 a2'; have b0 := cell_later hb2 b0'; have b1 := cell_later hb2 b1'
  have hw2 := below_trans hw1 hb2
  clear a0' a1' a2' b0' b1'
  go_wp2_with fail
  refine (clone_ok _ _ _ (h0.below hw2) Hf.out).mono ?_
  rintro e w3 ⟨u, rfl, hu, hb3⟩
  have hu0 := hu
  obtain ⟨x1, x2, x3, rfl, ho, hr, hl⟩ := hu
  obtain ⟨B1, e1, rfl, _, _, _⟩ := ho.cells
  obtain ⟨B2, e2, rfl, _, _, _⟩ := hr.cells
  obtain ⟨B3, e3, rfl, _, _, _⟩ := hl.cells
  clear ho hr hl
  obtain ⟨W4, hW4, Hz4, hb4, hlt4, hc4⟩ := boxed w3 #[.slice B1 g.obv.length e1, .slice B2 g.rev.length e2, .slice B3 g.links.length e3] 27
  have h34 := below_trans hb3 hb4
  have p0 := cell_later h34 a0; have p1 := cell_later h34 a1; have p2 := cell_later h34 a2; have p3 := cell_later h34 b0; have p4 := cell_later h34 b1
  have q0 := hc4 0 _ rfl; have q1 := hc4 1 _ rfl; have q2 := hc4 2 _ rfl
  clear hc4 a0 a1 a2 b0 b1
  have hw4 := below_trans hw2 h34
  have hU4 := hu0.below hb4
  go_wp2_with fail
  refine (Dies_ok _ _ _ hU4).mono ?_
  rintro e w5 ⟨z, rfl, hz, hb5⟩
  have a0 := cell_later hb5 p0; have a1 := cell_later hb5 p1; have a2 := cell_later hb5 p2; have b0 := cell_later hb5 p3; have b1 := cell_later hb5 p4
  have y0 := cell_later hb5 q0; have y1 := cell_later hb5 q1; have y2 := cell_later hb5 q2
  clear p0 p1 p2 p3 p4 q0 q1 q2 hW4
  have hw5 := below_trans hw4 hb5
  go_wp2_with fail
  refine (Dies_ok13 _ _ _ (h0.below hw5)).mono ?_
  rintro e w6 ⟨zz, rfl, hzz, hb6⟩
  have hw6 := below_trans hw5 hb6
  have p0 := Later.cell_all (cell_later hb6 a0); have p1 := Later.cell_all (cell_later hb6 a1); have p2 := Later.cell_all (cell_later hb6 a2); have p3 := Later.cell_all (cell_later hb6 b0); have p4 := Later.cell_all (cell_later hb6 b1)
  have q0 := Later.cell_all (cell_later hb6 y0); have q1 := Later.cell_all (cell_later hb6 y1); have q2 := Later.cell_all (cell_later hb6 y2)
  clear a0 a1 a2 b0 b1 y0 y1 y2
  have hg6 := h0.below hw6
  have hU6 := hU4.below (below_trans hb5 hb6)
  have hz6 := hz.below hb6
  have hV1 : ∀ x : Later w6, Calls Try.prog 17 _ x.to _ := fun x => Valid_ok _ _ x.to (hU6.below x.h)
  have hV2 : ∀ x : Later w6, Calls Try.prog 22 _ x.to _ := fun x => Valid_ok13 _ _ x.to (hg6.below x.h)
  have hD1 : ∀ x : Later w6, Calls Try.prog 24 _ x.to _ := fun x => Degree_ok _ _ d x.to (hU6.below x.h)
  have hD2 : ∀ x : Later w6, Calls Try.prog 25 _ x.to _ := fun x => Degree_ok13 _ _ d x.to (hg6.below x.h)
  have hE : ∀ x : Later w6, Calls Try.prog 23 _ x.to _ := fun x => baseDies_ok _ _ _ _ x.to (hz6.below x.h) (hzz.below x.h)
  have hG : ∀ x : Later w6, Calls Try.prog 15 _ x.to _ := fun x => Graphs_ok _ _ _ _ x.to (hU6.below x.h) (hg6.below x.h)
  simp only [decide_true] at hE hG
  have e1 : (validE g == validE g) = true := by simp
  have e2 : (degI g d == degI g d) = true := by simp
  have HV1 := Lib.hid hV1; have HV2 := Lib.hid hV2; have HD1 := Lib.hid hD1; have HD2 := Lib.hid hD2; have HE := Lib.hid hE; have HG := Lib.hid hG
  clear hV1 hV2 hD1 hD2 hE hG
  cases hg : graphB g
  all_goals
    rw [hg] at HV1 HV2
    clear hg
    go_wp2_with fail
    refine wp_region_later (by kernel_rfl) (by kernel_rfl) ?_
    repeat (go_big_quiet_step (first | (go_at_call 17; with_reducible exact calls_later (HV1.out _)) | (go_at_call 22; with_reducible exact calls_later (HV2.out _)) | (go_at_call 23; with_reducible exact calls_later (HE.out _)) | (go_at_call 24; with_reducible exact calls_later (HD1.out _)) | (go_at_call 25; with_reducible exact calls_later (HD2.out _)) | (go_at_call 15; with_reducible exact calls_later (HG.out _))))
    refine wpQuiet_nil ?_
    intro _ hw'
    obtain ⟨xq, hw''⟩ := hw'
    subst hw''
    go_wp2_with fail
    go_ret
    exact ⟨rfl, below_trans hw6 xq.h⟩

set_option maxRecDepth 100000 in
theorem reads_lifted (os : Os) (started : os.Started) (H : Type) (enc : TypeId × Value → H) :
    ReturnsInHanded {} Try.checked os 5 .any (Rows.linkageReadsSpec.pre6 enc Try.prog Try.f5 Rows.linkageReadsRow.domain false) (Rows.linkageReadsSpec.post enc Try.prog Try.f5 false true false false) := by
  refine returnsInHanded_of_change (C := Try.checked) Try.own started (by kernel_rfl) Try.func5
    (ChangeSpec.witness6 (enc := enc) (C := Try.checked) false ⟨#[], #[.agg #[.slice none 0 0, .slice none 0 0, .slice none 0 0], .agg #[.int .i64 0, .int .i64 0]], []⟩ 8 (by kernel_rfl) (by kernel_rfl) (by kernel_rfl) (by kernel_rfl)) ?_
  intro W base args ds gs before hval0 hW hcnd _
  have hval : ∀ (j : Nat) t v, Try.f5.params[j]? = some t → args[j]? = some v → Value.okWide Try.prog W .any base t v := hval0
  have hW' := hW
  obtain ⟨p, q, hA0, hV, rfl, hfz, hnd⟩ := hW
  have hA : DataW.TrodAll enc Try.prog W 0 (fun _ => true) true Try.f5.params.toList args.toList ds p := hA0
  rw [Try.params5] at hA hval
  obtain ⟨v0, v1, d0, d1, p0, p1, rfl, rfl, rfl, h0, h1⟩ := trodAll_two hA
  obtain ⟨rfl, rfl⟩ := trodVars_none hV
  have k0 := h0
  have lt0 : ∀ x ∈ p0, x.block < W.heap.size := by obtain ⟨m, hm⟩ := k0; exact DataW.trod_lt m _ _ _ hm
  obtain ⟨g0, hg0⟩ := opens_graph (hval 0 27 v0 rfl rfl) h0
  have k1 := h1
  have lt1 : ∀ x ∈ p1, x.block < W.heap.size := by obtain ⟨m, hm⟩ := k1; exact DataW.trod_lt m _ _ _ hm
  obtain ⟨x1, rfl, wa1, wb1⟩ := opens_die (hval 1 39 v1 rfl rfl) h1
  clear hA0 hval0
  refine (reads_walk v0 g0 x1 W hg0 wa1 wb1).mono fun e W' ⟨he, bel⟩ => ?_
  subst he
  exact ⟨_, rfl, _, _, _, [], _, [], hW', trodAll_mk1 (shut_bool Try.underlying4 _), trodAll_mk2 (Below.trod Try.laidOut (by kernel_rfl) (of_decide_eq_true (by kernel_rfl)) k0 bel lt0) (Below.trod Try.laidOut (by kernel_rfl) (of_decide_eq_true (by kernel_rfl)) k1 bel lt1), rfl, bel.frame _, fun h => by cases h⟩

theorem reads_holds : Rows.LinkageReadsSaid :=
  OpenClaim.holds_of_wide 5 Try.f5 rfl rfl rfl rfl rfl rfl rfl ⟨rfl, rfl, rfl, rfl, rfl⟩ rfl rfl rfl rfl rfl (by kernel_rfl) Try.func5 (by kernel_rfl)
    (of_decide_eq_true (by kernel_rfl)) (by unfold Func.isWrapper; first | (rw [if_pos (by decide +kernel)]; kernel_rfl) | (rw [if_neg (by decide +kernel)]; exact ⟨rfl, rfl⟩))
    (fun os started H enc _ => reads_lifted os started H enc)
end Go.Proofs.Ytifgpmhkdnmhlaa
