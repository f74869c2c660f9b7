/- CoverMatchings. No condition. -/
import Derived.Test.YtnaoiochfdipiaaAwk
import Derived.Test.YtnaoiochfdipiaaRefL
import Derived.Test.YtnaoiochfdipiaaOpenW
import Derived.Test.YtnaoiochfdipiaaRows
namespace Go.Proofs.Ytnaoiochfdipiaa
open Go.RowKit Go.Shelf Go.ChangeShapes Go.WideShapes Go.ChangeAt

set_option maxHeartbeats 8000000 in
set_option maxRecDepth 100000 in
theorem matc_walk (v : Value) (g : Graph) (u : Value) (l : List Pair) (w : World) (h : GraphAt w v g) (wo : ∀ x ∈ g.obv, wfI x) (wr0 : ∀ x ∈ g.rev, wfI x) (hl : Pairs w u l) (hwl : ∀ p ∈ l, wfI p.a ∧ wfI p.b) :
    Calls Try.prog 10 #[v, u] w fun e w' => e = .returned (.bool true) ∧ Below w.heap.size w w' := by
  obtain ⟨Al, cl, rfl, _, _, _⟩ := hl.cells
  have h0 := h
  obtain ⟨v1, v2, v3, rfl, ho, hr, hk⟩ := h
  obtain ⟨A1, c1, rfl, _, _, hco⟩ := ho.cells
  obtain ⟨A2, c2, rfl, _, _, hcr⟩ := hr.cells
  obtain ⟨A3, c3, rfl, _, _, hck⟩ := hk.cells
  obtain ⟨W, hW, Hz, hwW, hlt0, hc0⟩ := boxed w #[.slice A1 g.obv.length c1, .slice A2 g.rev.length c2, .slice A3 g.links.length c3] 25
  have a0 := hc0 0 _ rfl; have a1 := hc0 1 _ rfl; have a2 := hc0 2 _ rfl
  clear hc0
  go_enter Try.func10, Try.ntmps10
  go_wp2_with fail
  refine (wake_ok _).mono ?_
  rintro e w1 ⟨rfl, hb1⟩
  clear hW
  have a0' := cell_later hb1 a0; have a1' := cell_later hb1 a1; have a2' := cell_later hb1 a2
  have hw1 := below_trans hwW hb1
  clear a0 a1 a2
  have hF := few19_ok _ _ w1 (h0.below hw1)
  cases hf : few19B g
  · rw [hf] at hF
    have HF := Lib.hid hF; clear hF hf
    go_wp2_with fail
    refine HF.out.mono ?_
    rintro e w2 ⟨rfl, hb2⟩
    go_wp2_with fail
    refine (wake_ok _).mono ?_
    rintro e w3 ⟨rfl, hb3⟩
    go_wp2_with fail
    go_ret
    exact ⟨rfl, below_trans hw1 (below_trans hb2 hb3)⟩
  rw [hf] at hF
  have HF := Lib.hid hF; have Hf := Lib.hid hf; clear hF hf
  go_wp2_with fail
  refine HF.out.mono ?_
  rintro e w2 ⟨rfl, hb2⟩
  have a0 := cell_later hb2 a0'; have a1 := cell_later hb2 a1'; have a2 := cell_later hb2 a2'
  have hw2 := below_trans hw1 hb2
  clear a0' a1' a2' HF hb1 hb2 hlt0
  have hwf : WfG g := ⟨wo, wr0⟩
  by_cases hlen : l.length ≤ 40
  case neg =>
    have d1 : decide ((40 : Int) < (l.length : Int)) = true := by simp; omega
    clear hlen
    go_wp2_with fail
    refine (wake_ok _).mono ?_
    rintro e w3 ⟨rfl, hb3⟩
    go_wp2_with fail
    go_ret
    exact ⟨rfl, below_trans hw2 hb3⟩
  have d1 : decide ((40 : Int) < (l.length : Int)) = false := by simp; omega
  have HF := Lib.hid (Free_ok g hwf _ _ l w2 (h0.below hw2) (hl.below hw2) hwl)
  have HL := Lib.hid (show l.length ≤ 41 by omega)
  clear hlen
  go_wp2_with fail
  refine HF.out.mono ?_
  rintro e w3 ⟨ua, rfl, hua, hb3⟩
  have hw3 := below_trans hw2 hb3
  replace a0 := cell_later hb3 a0; replace a1 := cell_later hb3 a1; replace a2 := cell_later hb3 a2
  clear HF
  have HF := Lib.hid (Free_ok19 g _ _ l w3 (h0.below hw3) (hl.below hw3) HL.out)
  go_wp2_with fail
  refine HF.out.mono ?_
  rintro e w4 ⟨ub, rfl, hub, hb4⟩
  have hw4 := below_trans hw3 hb4
  replace a0 := cell_later hb4 a0; replace a1 := cell_later hb4 a1; replace a2 := cell_later hb4 a2
  clear HF
  have hda : Dies w4 ua (freeG g l) := hua.slOf.below hb4
  have hdb : Dies w4 ub (freeG g l) := hub.slOf
  have m0 := Later.cell_all a0; have m1 := Later.cell_all a1; have m2 := Later.cell_all a2
  have H1 := Lib.hid (fun y : Later w4 => IsMatching_ok g _ _ l y.to (h0.below (below_trans hw4 y.h)) (hl.below (below_trans hw4 y.h)) hwl)
  have H2 := Lib.hid (fun y : Later w4 => IsMatching_ok19 g _ _ l y.to (h0.below (below_trans hw4 y.h)) (hl.below (below_trans hw4 y.h)) HL.out)
  have H3 := fun y : Later w4 => baseDies_ok ua ub _ _ y.to (hda.below y.h) (hdb.below y.h)
  rw [decide_eq_true rfl] at H3
  have H3' := Lib.hid H3
  generalize isMatB g l = B at H1 H2
  generalize freeE g l = E
  clear H3 hda hdb hua hub a0 a1 a2
  go_wp2_with fail
  refine wp_region_later (by kernel_rfl) (by kernel_rfl) ?_
  repeat (go_big_quiet_step (first | (go_at_call 18; with_reducible exact calls_later (H1.out _)) | (go_at_call 20; with_reducible exact calls_later (H2.out _)) | (go_at_call 27; with_reducible exact calls_later (H3'.out _))))
  refine wpQuiet_nil ?_
  intro _ hw'
  obtain ⟨xq, hw''⟩ := hw'
  subst hw''
  have hba := xq.h
  generalize xq.to = wa at hba ⊢
  go_wp2_with fail
  go_ret
  exact ⟨by first | rfl | (simp; done), below_trans hw4 hba⟩

set_option maxRecDepth 100000 in
theorem matc_lifted (os : Os) (started : os.Started) (H : Type) (enc : TypeId × Value → H) :
    ReturnsInHanded {} Try.checked os 10 .any (Rows.coverMatchingsSpec.pre6 enc Try.prog Try.f10 Rows.coverMatchingsRow.domain false) (Rows.coverMatchingsSpec.post enc Try.prog Try.f10 false true false false) := by
  refine returnsInHanded_of_change (C := Try.checked) Try.own started (by kernel_rfl) Try.func10
    (ChangeSpec.witness6 (enc := enc) (C := Try.checked) false ⟨#[], #[.agg #[.slice none 0 0, .slice none 0 0, .slice none 0 0], .slice none 0 0], []⟩ 8 (by kernel_rfl) (by kernel_rfl) (by kernel_rfl) (by kernel_rfl)) ?_
  intro W base args ds gs before hval0 hW hcnd _
  have hval : ∀ (j : Nat) t v, Try.f10.params[j]? = some t → args[j]? = some v → Value.okWide Try.prog W .any base t v := hval0
  have hW' := hW
  obtain ⟨p, q, hA0, hV, rfl, hfz, hnd⟩ := hW
  have hA : DataW.TrodAll enc Try.prog W 0 (fun _ => true) true Try.f10.params.toList args.toList ds p := hA0
  rw [Try.params10] at hA hval
  obtain ⟨v0, v1, d0, d1, p0, p1, rfl, rfl, rfl, h0, h1⟩ := trodAll_two hA
  obtain ⟨rfl, rfl⟩ := trodVars_none hV
  have k0 := h0
  have lt0 : ∀ x ∈ p0, x.block < W.heap.size := by obtain ⟨m, hm⟩ := k0; exact DataW.trod_lt m _ _ _ hm
  obtain ⟨g0, hg0, wa0, wb0⟩ := opens_graph_wf (hval 0 25 v0 rfl rfl) h0
  have k1 := h1
  have lt1 : ∀ x ∈ p1, x.block < W.heap.size := by obtain ⟨m, hm⟩ := k1; exact DataW.trod_lt m _ _ _ hm
  obtain ⟨x1, hx1, wa1⟩ := opens_pairs_wf (hval 1 37 v1 rfl rfl) h1
  clear hA0 hval0
  refine (matc_walk v0 g0 v1 x1 W hg0 wa0 wb0 hx1 wa1).mono fun e W' ⟨he, bel⟩ => ?_
  subst he
  exact ⟨_, rfl, _, _, _, [], _, [], hW', trodAll_mk1 (shut_bool Try.underlying4 _), trodAll_mk2 (Below.trod Try.laidOut (by kernel_rfl) (of_decide_eq_true (by kernel_rfl)) k0 bel lt0) (Below.trod Try.laidOut (by kernel_rfl) (of_decide_eq_true (by kernel_rfl)) k1 bel lt1), rfl, bel.frame _, fun h => by cases h⟩

theorem matc_holds : Rows.CoverMatchingsSaid :=
  OpenClaim.holds_of_wide 10 Try.f10 rfl rfl rfl rfl rfl rfl rfl ⟨rfl, rfl, rfl, rfl, rfl⟩ rfl rfl rfl rfl rfl (by kernel_rfl) Try.func10 (by kernel_rfl)
    (of_decide_eq_true (by kernel_rfl)) (by unfold Func.isWrapper; first | (rw [if_pos (by decide +kernel)]; kernel_rfl) | (rw [if_neg (by decide +kernel)]; exact ⟨rfl, rfl⟩))
    (fun os started H enc _ => matc_lifted os started H enc)
end Go.Proofs.Ytnaoiochfdipiaa
