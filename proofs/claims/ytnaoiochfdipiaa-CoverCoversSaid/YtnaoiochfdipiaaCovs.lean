/- CoverCovers. No condition. -/
import Derived.Test.YtnaoiochfdipiaaAwk
import Derived.Test.YtnaoiochfdipiaaRefJ
import Derived.Test.YtnaoiochfdipiaaOpenX
import Derived.Test.YtnaoiochfdipiaaRows
namespace Go.Proofs.Ytnaoiochfdipiaa
open Go.RowKit Go.Shelf Go.ChangeShapes Go.WideShapes Go.ChangeAt

set_option maxHeartbeats 4000000 in
set_option maxRecDepth 100000 in
theorem covs_walk (v : Value) (g : Graph) (u : Value) (l : List Die) (w : World) (h : GraphAt w v g) (hl : Dies w u l) (_ : ∀ x ∈ l, wfI x.side ∧ wfI x.num) :
    Calls Try.prog 3 #[v, u] w fun e w' => e = .returned (.bool true) ∧ Below w.heap.size w w' := by
  obtain ⟨A, c, rfl, _, _, _⟩ := hl.cells
  have h0 := h
  obtain ⟨v1, v2, v3, rfl, ho, hr, hk⟩ := h
  obtain ⟨A1, c1, rfl, _, _, hco⟩ := ho.cells
  obtain ⟨A2, c2, rfl, _, _, hcr⟩ := hr.cells
  obtain ⟨A3, c3, rfl, _, _, hck⟩ := hk.cells
  obtain ⟨W, hW, Hz, hwW, hlt0, hc0⟩ := boxed w #[.slice A1 g.obv.length c1, .slice A2 g.rev.length c2, .slice A3 g.links.length c3] 25
  have a0 := hc0 0 _ rfl; have a1 := hc0 1 _ rfl; have a2 := hc0 2 _ rfl
  clear hc0
  go_enter Try.func3, Try.ntmps3
  go_wp2_with fail
  refine (wake_ok _).mono ?_
  rintro e w1 ⟨rfl, hb1⟩
  clear hW
  have a0' := cell_later hb1 a0; have a1' := cell_later hb1 a1; have a2' := cell_later hb1 a2
  have hw1 := below_trans hwW hb1
  clear a0 a1 a2
  have hF := few19_ok _ _ w1 (h0.below hw1)
  cases hf : few19B g
  · rw [hf] at hF
    have HF := Lib.hid hF; clear hF hf
    go_wp2_with fail
    refine HF.out.mono ?_
    rintro e w2 ⟨rfl, hb2⟩
    go_wp2_with fail
    refine (wake_ok _).mono ?_
    rintro e w3 ⟨rfl, hb3⟩
    go_wp2_with fail
    go_ret
    exact ⟨rfl, below_trans hw1 (below_trans hb2 hb3)⟩
  rw [hf] at hF
  have HF := Lib.hid hF; have Hf := Lib.hid hf; clear hF hf
  go_wp2_with fail
  refine HF.out.mono ?_
  rintro e w2 ⟨rfl, hb2⟩
  have a0 := cell_later hb2 a0'; have a1 := cell_later hb2 a1'; have a2 := cell_later hb2 a2'
  have hw2 := below_trans hw1 hb2
  clear a0' a1' a2' HF hb1 hb2 hlt0
  by_cases hlen : l.length ≤ 80
  · have d1 : decide ((80 : Int) < (l.length : Int)) = false := by simp; omega
    have m0 := Later.cell_all a0; have m1 := Later.cell_all a1; have m2 := Later.cell_all a2
    have H1 := Lib.hid (fun y : Later w2 => IsCover_ok g _ _ l y.to (h0.below (below_trans hw2 y.h)) (hl.below (below_trans hw2 y.h)))
    have H2 := Lib.hid (fun y : Later w2 => IsCover_ok19 g _ _ l y.to (h0.below (below_trans hw2 y.h)) (hl.below (below_trans hw2 y.h)))
    generalize isCovB g l = B at H1 H2
    clear hlen
    go_wp2_with fail
    refine wp_region_later (by kernel_rfl) (by kernel_rfl) ?_
    repeat (go_big_quiet_step (first | (go_at_call 13; with_reducible exact calls_later (H1.out _)) | (go_at_call 14; with_reducible exact calls_later (H2.out _))))
    refine wpQuiet_nil ?_
    intro _ hw'
    obtain ⟨xq, hw''⟩ := hw'
    subst hw''
    have hba := xq.h
    generalize xq.to = wa at hba ⊢
    go_wp2_with fail
    go_ret
    exact ⟨by first | rfl | (simp; done), below_trans hw2 hba⟩
  · have d1 : decide ((80 : Int) < (l.length : Int)) = true := by simp; omega
    clear hlen
    go_wp2_with fail
    refine (wake_ok _).mono ?_
    rintro e w3 ⟨rfl, hb3⟩
    go_wp2_with fail
    go_ret
    exact ⟨rfl, below_trans hw2 hb3⟩

set_option maxRecDepth 100000 in
theorem covs_lifted (os : Os) (started : os.Started) (H : Type) (enc : TypeId × Value → H) :
    ReturnsInHanded {} Try.checked os 3 .any (Rows.coverCoversSpec.pre6 enc Try.prog Try.f3 Rows.coverCoversRow.domain false) (Rows.coverCoversSpec.post enc Try.prog Try.f3 false true false false) := by
  refine returnsInHanded_of_change (C := Try.checked) Try.own started (by kernel_rfl) Try.func3
    (ChangeSpec.witness6 (enc := enc) (C := Try.checked) false ⟨#[], #[.agg #[.slice none 0 0, .slice none 0 0, .slice none 0 0], .slice none 0 0], []⟩ 8 (by kernel_rfl) (by kernel_rfl) (by kernel_rfl) (by kernel_rfl)) ?_
  intro W base args ds gs before hval0 hW hcnd _
  have hval : ∀ (j : Nat) t v, Try.f3.params[j]? = some t → args[j]? = some v → Value.okWide Try.prog W .any base t v := hval0
  have hW' := hW
  obtain ⟨p, q, hA0, hV, rfl, hfz, hnd⟩ := hW
  have hA : DataW.TrodAll enc Try.prog W 0 (fun _ => true) true Try.f3.params.toList args.toList ds p := hA0
  rw [Try.params3] at hA hval
  obtain ⟨v0, v1, d0, d1, p0, p1, rfl, rfl, rfl, h0, h1⟩ := trodAll_two hA
  obtain ⟨rfl, rfl⟩ := trodVars_none hV
  have k0 := h0
  have lt0 : ∀ x ∈ p0, x.block < W.heap.size := by obtain ⟨m, hm⟩ := k0; exact DataW.trod_lt m _ _ _ hm
  obtain ⟨g0, hg0⟩ := opens_graph (hval 0 25 v0 rfl rfl) h0
  have k1 := h1
  have lt1 : ∀ x ∈ p1, x.block < W.heap.size := by obtain ⟨m, hm⟩ := k1; exact DataW.trod_lt m _ _ _ hm
  obtain ⟨x1, hx1, wa1⟩ := opens_dies_wf (hval 1 26 v1 rfl rfl) h1
  clear hA0 hval0
  refine (covs_walk v0 g0 v1 x1 W hg0 hx1 wa1).mono fun e W' ⟨he, bel⟩ => ?_
  subst he
  exact ⟨_, rfl, _, _, _, [], _, [], hW', trodAll_mk1 (shut_bool Try.underlying4 _), trodAll_mk2 (Below.trod Try.laidOut (by kernel_rfl) (of_decide_eq_true (by kernel_rfl)) k0 bel lt0) (Below.trod Try.laidOut (by kernel_rfl) (of_decide_eq_true (by kernel_rfl)) k1 bel lt1), rfl, bel.frame _, fun h => by cases h⟩

theorem covs_holds : Rows.CoverCoversSaid :=
  OpenClaim.holds_of_wide 3 Try.f3 rfl rfl rfl rfl rfl rfl rfl ⟨rfl, rfl, rfl, rfl, rfl⟩ rfl rfl rfl rfl rfl (by kernel_rfl) Try.func3 (by kernel_rfl)
    (of_decide_eq_true (by kernel_rfl)) (by unfold Func.isWrapper; first | (rw [if_pos (by decide +kernel)]; kernel_rfl) | (rw [if_neg (by decide +kernel)]; exact ⟨rfl, rfl⟩))
    (fun os started H enc _ => covs_lifted os started H enc)
end Go.Proofs.Ytnaoiochfdipiaa
