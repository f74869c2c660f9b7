/- For every graph and all lists of numbers, LinkageRenames returns true, and the arguments read as they did. No condition. -/
import Derived.Test.YtifgpmhkdnmhlaaRows
import Derived.Test.YtifgpmhkdnmhlaaAwake
import Derived.Test.YtifgpmhkdnmhlaaOpenW
import Derived.Test.YtifgpmhkdnmhlaaReadA
import Derived.Test.YtifgpmhkdnmhlaaRenA
import Derived.Test.YtifgpmhkdnmhlaaRenB
namespace Go.Proofs.Ytifgpmhkdnmhlaa
open Go.RowKit Go.Shelf Go.ChangeShapes Go.WideShapes Go.ChangeAt

set_option maxHeartbeats 4000000 in
set_option maxRecDepth 100000 in
theorem ren_walk (v u z : Value) (g : Graph) (o r : List Int) (w : World) (h : GraphAt w v g) (wgo : ∀ x ∈ g.obv, wfI x) (wgr : ∀ x ∈ g.rev, wfI x) (hu : Ints w u o) (wo : ∀ x ∈ o, wfI x) (hz : Ints w z r) (wr : ∀ x ∈ r, wfI x) :
    Calls Try.prog 8 #[v, u, z] w fun e w' => e = .returned (.bool true) ∧ Below w.heap.size w w' := by
  obtain ⟨A4, c4, rfl, _, _, _⟩ := hu.cells
  obtain ⟨A5, c5, rfl, _, _, _⟩ := hz.cells
  by_cases q1 : o.length ≤ 60
  case neg =>
    have d1 : decide ((60 : Int) < (o.length : Int)) = true := by simp; omega
    have h0 := h
    obtain ⟨v1, v2, v3, rfl, ho, hr, hl⟩ := h
    obtain ⟨A1, c1, rfl, _, _, hco⟩ := ho.cells
    obtain ⟨A2, c2, rfl, _, _, hcr⟩ := hr.cells
    obtain ⟨A3, c3, rfl, _, _, _⟩ := hl.cells
    obtain ⟨W, hW, Hz, hwW, hlt0, hc0⟩ := boxed w #[.slice A1 g.obv.length c1, .slice A2 g.rev.length c2, .slice A3 g.links.length c3] 27
    have a0 := hc0 0 _ rfl; have a1 := hc0 1 _ rfl; have a2 := hc0 2 _ rfl
    clear hc0 ho hr hl
    go_enter Try.func8, Try.ntmps8
    go_wp2_with fail
    refine (awake_ok _).mono ?_
    rintro e w1 ⟨rfl, hb1⟩
    clear hW
    have a0' := cell_later hb1 a0; have a1' := cell_later hb1 a1; have a2' := cell_later hb1 a2
    have hw1 := below_trans hwW hb1
    clear a0 a1 a2
    have hF := few_ok _ _ w1 (h0.below hw1)
    cases hf : fewB g
    · rw [hf] at hF
      have HF := Lib.hid hF; clear hF hf
      go_wp2_with fail
      refine HF.out.mono ?_
      rintro e w2 ⟨rfl, hb2⟩
      go_wp2_with fail
      refine (awake_ok _).mono ?_
      rintro e w3 ⟨rfl, hb3⟩
      go_wp2_with fail
      go_ret
      exact ⟨rfl, below_trans hw1 (below_trans hb2 hb3)⟩
    rw [hf] at hF
    have HF := Lib.hid hF; have Hf := Lib.hid hf; clear hF hf
    go_wp2_with fail
    refine HF.out.mono ?_
    rintro e w2 ⟨rfl, hb2⟩
    have a0 := cell_later hb2 a0'; have a1 := cell_later hb2 a1'; have a2 := cell_later hb2 a2'
    have hw2 := below_trans hw1 hb2
    clear a0' a1' a2'
    go_wp2_with fail
    refine (awake_ok _).mono ?_
    rintro e w3 ⟨rfl, hb3⟩
    go_wp2_with fail
    go_ret
    exact ⟨rfl, below_trans hw2 hb3⟩
  have d1 : decide ((60 : Int) < (o.length : Int)) = false := by simp; omega
  by_cases q2 : r.length ≤ 60
  case neg =>
    have d2 : decide ((60 : Int) < (r.length : Int)) = true := by simp; omega
    have h0 := h
    obtain ⟨v1, v2, v3, rfl, ho, hr, hl⟩ := h
    obtain ⟨A1, c1, rfl, _, _, hco⟩ := ho.cells
    obtain ⟨A2, c2, rfl, _, _, hcr⟩ := hr.cells
    obtain ⟨A3, c3, rfl, _, _, _⟩ := hl.cells
    obtain ⟨W, hW, Hz, hwW, hlt0, hc0⟩ := boxed w #[.slice A1 g.obv.length c1, .slice A2 g.rev.length c2, .slice A3 g.links.length c3] 27
    have a0 := hc0 0 _ rfl; have a1 := hc0 1 _ rfl; have a2 := hc0 2 _ rfl
    clear hc0 ho hr hl
    go_enter Try.func8, Try.ntmps8
    go_wp2_with fail
    refine (awake_ok _).mono ?_
    rintro e w1 ⟨rfl, hb1⟩
    clear hW
    have a0' := cell_later hb1 a0; have a1' := cell_later hb1 a1; have a2' := cell_later hb1 a2
    have hw1 := below_trans hwW hb1
    clear a0 a1 a2
    have hF := few_ok _ _ w1 (h0.below hw1)
    cases hf : fewB g
    · rw [hf] at hF
      have HF := Lib.hid hF; clear hF hf
      go_wp2_with fail
      refine HF.out.mono ?_
      rintro e w2 ⟨rfl, hb2⟩
      go_wp2_with fail
      refine (awake_ok _).mono ?_
      rintro e w3 ⟨rfl, hb3⟩
      go_wp2_with fail
      go_ret
      exact ⟨rfl, below_trans hw1 (below_trans hb2 hb3)⟩
    rw [hf] at hF
    have HF := Lib.hid hF; have Hf := Lib.hid hf; clear hF hf
    go_wp2_with fail
    refine HF.out.mono ?_
    rintro e w2 ⟨rfl, hb2⟩
    have a0 := cell_later hb2 a0'; have a1 := cell_later hb2 a1'; have a2 := cell_later hb2 a2'
    have hw2 := below_trans hw1 hb2
    clear a0' a1' a2'
    go_wp2_with fail
    refine (awake_ok _).mono ?_
    rintro e w3 ⟨rfl, hb3⟩
    go_wp2_with fail
    go_ret
    exact ⟨rfl, below_trans hw2 hb3⟩
  have d2 : decide ((60 : Int) < (r.length : Int)) = false := by simp; omega
  have h0 := h
  obtain ⟨v1, v2, v3, rfl, ho, hr, hl⟩ := h
  obtain ⟨A1, c1, rfl, _, _, hco⟩ := ho.cells
  obtain ⟨A2, c2, rfl, _, _, hcr⟩ := hr.cells
  obtain ⟨A3, c3, rfl, _, _, _⟩ := hl.cells
  obtain ⟨W, hW, Hz, hwW, hlt0, hc0⟩ := boxed w #[.slice A1 g.obv.length c1, .slice A2 g.rev.length c2, .slice A3 g.links.length c3] 27
  have a0 := hc0 0 _ rfl; have a1 := hc0 1 _ rfl; have a2 := hc0 2 _ rfl
  clear hc0 ho hr hl
  go_enter Try.func8, Try.ntmps8
  go_wp2_with fail
  refine (awake_ok _).mono ?_
  rintro e w1 ⟨rfl, hb1⟩
  clear hW
  have a0' := cell_later hb1 a0; have a1' := cell_later hb1 a1; have a2' := cell_later hb1 a2
  have hw1 := below_trans hwW hb1
  clear a0 a1 a2
  have hF := few_ok _ _ w1 (h0.below hw1)
  cases hf : fewB g
  · rw [hf] at hF
    have HF := Lib.hid hF; clear hF hf
    go_wp2_with fail
    refine HF.out.mono ?_
    rintro e w2 ⟨rfl, hb2⟩
    go_wp2_with fail
    refine (awake_ok _).mono ?_
    rintro e w3 ⟨rfl, hb3⟩
    go_wp2_with fail
    go_ret
    exact ⟨rfl, below_trans hw1 (below_trans hb2 hb3)⟩
  rw [hf] at hF
  have HF := Lib.hid hF; have Hf := Lib.hid hf; clear hF hf
  go_wp2_with fail
  refine HF.out.mono ?_
  rintro e w2 ⟨rfl, hb2⟩
  have a0 := cell_later hb2 a0'; have a1 := cell_later hb2 a1'; have a2 := cell_later hb2 a2'
  have hw2 := below_trans hw1 hb2
  clear a0' a1' a2'
  go_wp2_with fail
  refine (Renamed_ok _ _ _ g o r _ (h0.below hw2) (hu.below hw2) (hz.below hw2) (by omega) (by omega) wgo wgr wo wr).mono ?_
  rintro e w3 ⟨y, rfl, hy, hb3⟩
  have hw3 := below_trans hw2 hb3
  replace a0 := cell_later hb3 a0; replace a1 := cell_later hb3 a1; replace a2 := cell_later hb3 a2
  have hGz : ∃ G, renG g o r = G := ⟨_, rfl⟩
  obtain ⟨G, hG⟩ := hGz
  rw [hG] at hy
  have hy' := hy
  obtain ⟨x1, x2, x3, rfl, ho', hr', hl'⟩ := hy
  obtain ⟨A1y, c1y, rfl, _, _, _⟩ := ho'.cells
  obtain ⟨A2y, c2y, rfl, _, _, _⟩ := hr'.cells
  obtain ⟨A3y, c3y, rfl, _, _, _⟩ := hl'.cells
  clear ho' hr' hl'
  obtain ⟨W4, hW4, HzW4, hbW4, hltW4, hcW4⟩ := boxed w3 #[.slice A1y (G).obv.length c1y, .slice A2y (G).rev.length c2y, .slice A3y (G).links.length c3y] 27
  have y_0 := hcW4 0 _ rfl; have y_1 := hcW4 1 _ rfl; have y_2 := hcW4 2 _ rfl
  clear hcW4
  have hw4 := below_trans hw3 hbW4
  replace a0 := cell_later hbW4 a0; replace a1 := cell_later hbW4 a1; replace a2 := cell_later hbW4 a2
  go_wp2_with fail
  refine (Renamed_ok13 _ _ _ g o r _ (h0.below hw4) (hu.below hw4) (hz.below hw4)).mono ?_
  rintro e w5 ⟨y, rfl, hz', hb5⟩
  rw [hG] at hz'
  have hw5 := below_trans hw4 hb5
  replace y_0 := cell_later hb5 y_0; replace y_1 := cell_later hb5 y_1; replace y_2 := cell_later hb5 y_2
  clear hW4 a0 a1 a2 hG
  have hz'' := hz'
  obtain ⟨x1, x2, x3, rfl, ho', hr', hl'⟩ := hz'
  obtain ⟨A1z, c1z, rfl, _, _, _⟩ := ho'.cells
  obtain ⟨A2z, c2z, rfl, _, _, _⟩ := hr'.cells
  obtain ⟨A3z, c3z, rfl, _, _, _⟩ := hl'.cells
  clear ho' hr' hl'
  obtain ⟨W6, hW6, HzW6, hbW6, hltW6, hcW6⟩ := boxed w5 #[.slice A1z (G).obv.length c1z, .slice A2z (G).rev.length c2z, .slice A3z (G).links.length c3z] 27
  have z_0 := hcW6 0 _ rfl; have z_1 := hcW6 1 _ rfl; have z_2 := hcW6 2 _ rfl
  clear hcW6
  have hw6 := below_trans hw5 hbW6
  replace y_0 := cell_later hbW6 y_0; replace y_1 := cell_later hbW6 y_1; replace y_2 := cell_later hbW6 y_2
  have he : (renE g o r == renE g o r) = true := by simp
  have hQ := Graphs_ok _ _ _ _ _ (hy'.below (below_trans hbW4 (below_trans hb5 hbW6))) (hz''.below hbW6)
  simp only [decide_true] at hQ
  have HQ := Lib.hid hQ; clear hQ hy' hz''
  go_wp2_with fail
  refine HQ.out.mono ?_
  rintro e w7 ⟨rfl, hb7⟩
  go_wp2_with fail
  go_ret
  exact ⟨rfl, below_trans hw6 hb7⟩

theorem ren_walk' (v : Value) (g : Graph) (u : Value) (o : List Int) (z : Value) (r : List Int) (w : World) (h : GraphAt w v g) (wgo : ∀ x ∈ g.obv, wfI x) (wgr : ∀ x ∈ g.rev, wfI x) (hu : Ints w u o) (wo : ∀ x ∈ o, wfI x) (hz : Ints w z r) (wr : ∀ x ∈ r, wfI x) :
    Calls Try.prog 8 #[v, u, z] w fun e w' => e = .returned (.bool true) ∧ Below w.heap.size w w' := ren_walk v u z g o r w h wgo wgr hu wo hz wr

set_option maxRecDepth 100000 in
theorem ren_lifted (os : Os) (started : os.Started) (H : Type) (enc : TypeId × Value → H) :
    ReturnsInHanded {} Try.checked os 8 .any (Rows.linkageRenamesSpec.pre6 enc Try.prog Try.f8 Rows.linkageRenamesRow.domain false) (Rows.linkageRenamesSpec.post enc Try.prog Try.f8 false true false false) := by
  refine returnsInHanded_of_change (C := Try.checked) Try.own started (by kernel_rfl) Try.func8
    (ChangeSpec.witness6 (enc := enc) (C := Try.checked) false ⟨#[], #[.agg #[.slice none 0 0, .slice none 0 0, .slice none 0 0], .slice none 0 0, .slice none 0 0], []⟩ 8 (by kernel_rfl) (by kernel_rfl) (by kernel_rfl) (by kernel_rfl)) ?_
  intro W base args ds gs before hval0 hW hcnd _
  have hval : ∀ (j : Nat) t v, Try.f8.params[j]? = some t → args[j]? = some v → Value.okWide Try.prog W .any base t v := hval0
  have hW' := hW
  obtain ⟨p, q, hA0, hV, rfl, hfz, hnd⟩ := hW
  have hA : DataW.TrodAll enc Try.prog W 0 (fun _ => true) true Try.f8.params.toList args.toList ds p := hA0
  rw [Try.params8] at hA hval
  obtain ⟨v0, v1, v2, d0, d1, d2, p0, p1, p2, rfl, rfl, rfl, h0, h1, h2⟩ := trodAll_three hA
  obtain ⟨rfl, rfl⟩ := trodVars_none hV
  have k0 := h0
  have lt0 : ∀ x ∈ p0, x.block < W.heap.size := by obtain ⟨m, hm⟩ := k0; exact DataW.trod_lt m _ _ _ hm
  obtain ⟨g0, hg0, wa0, wb0⟩ := opens_graph_wf (hval 0 27 v0 rfl rfl) h0
  have k1 := h1
  have lt1 : ∀ x ∈ p1, x.block < W.heap.size := by obtain ⟨m, hm⟩ := k1; exact DataW.trod_lt m _ _ _ hm
  obtain ⟨x1, hx1, wa1⟩ := opens_ints_wf (hval 1 24 v1 rfl rfl) h1
  have k2 := h2
  have lt2 : ∀ x ∈ p2, x.block < W.heap.size := by obtain ⟨m, hm⟩ := k2; exact DataW.trod_lt m _ _ _ hm
  obtain ⟨x2, hx2, wa2⟩ := opens_ints_wf (hval 2 24 v2 rfl rfl) h2
  clear hA0 hval0
  refine (ren_walk' v0 g0 v1 x1 v2 x2 W hg0 wa0 wb0 hx1 wa1 hx2 wa2).mono fun e W' ⟨he, bel⟩ => ?_
  subst he
  exact ⟨_, rfl, _, _, _, [], _, [], hW', trodAll_mk1 (shut_bool Try.underlying4 _), trodAll_mk3 (Below.trod Try.laidOut (by kernel_rfl) (of_decide_eq_true (by kernel_rfl)) k0 bel lt0) (Below.trod Try.laidOut (by kernel_rfl) (of_decide_eq_true (by kernel_rfl)) k1 bel lt1) (Below.trod Try.laidOut (by kernel_rfl) (of_decide_eq_true (by kernel_rfl)) k2 bel lt2), rfl, bel.frame _, fun h => by cases h⟩

theorem ren_holds : Rows.LinkageRenamesSaid :=
  OpenClaim.holds_of_wide 8 Try.f8 rfl rfl rfl rfl rfl rfl rfl ⟨rfl, rfl, rfl, rfl, rfl⟩ rfl rfl rfl rfl rfl (by kernel_rfl) Try.func8 (by kernel_rfl)
    (of_decide_eq_true (by kernel_rfl)) (by unfold Func.isWrapper; first | (rw [if_pos (by decide +kernel)]; kernel_rfl) | (rw [if_neg (by decide +kernel)]; exact ⟨rfl, rfl⟩))
    (fun os started H enc _ => ren_lifted os started H enc)
end Go.Proofs.Ytifgpmhkdnmhlaa
