/- CoverSizes. No condition. -/
import Derived.Test.YtnaoiochfdipiaaAwk
import Derived.Test.YtnaoiochfdipiaaRefS
import Derived.Test.YtnaoiochfdipiaaRefJ
import Derived.Test.YtnaoiochfdipiaaOpenW
import Derived.Test.YtnaoiochfdipiaaRows
namespace Go.Proofs.Ytnaoiochfdipiaa
open Go.RowKit Go.Shelf Go.ChangeShapes Go.WideShapes Go.ChangeAt

set_option maxHeartbeats 8000000 in
set_option maxRecDepth 100000 in
theorem sizs_walk (v : Value) (g : Graph) (w : World) (h : GraphAt w v g) (wo : ∀ x ∈ g.obv, wfI x) (wr0 : ∀ x ∈ g.rev, wfI x) :
    Calls Try.prog 7 #[v] w fun e w' => e = .returned (.bool true) ∧ Below w.heap.size w w' := by
  have h0 := h
  obtain ⟨v1, v2, v3, rfl, ho, hr, hk⟩ := h
  obtain ⟨A1, c1, rfl, _, _, hco⟩ := ho.cells
  obtain ⟨A2, c2, rfl, _, _, hcr⟩ := hr.cells
  obtain ⟨A3, c3, rfl, _, _, hck⟩ := hk.cells
  obtain ⟨W, hW, Hz, hwW, hlt0, hc0⟩ := boxed w #[.slice A1 g.obv.length c1, .slice A2 g.rev.length c2, .slice A3 g.links.length c3] 25
  have a0 := hc0 0 _ rfl; have a1 := hc0 1 _ rfl; have a2 := hc0 2 _ rfl
  clear hc0
  go_enter Try.func7, Try.ntmps7
  go_wp2_with fail
  refine (wake_ok _).mono ?_
  rintro e w1 ⟨rfl, hb1⟩
  clear hW
  have a0' := cell_later hb1 a0; have a1' := cell_later hb1 a1; have a2' := cell_later hb1 a2
  have hw1 := below_trans hwW hb1
  clear a0 a1 a2
  have hF := few19_ok _ _ w1 (h0.below hw1)
  cases hf : few19B g
  · rw [hf] at hF
    have HF := Lib.hid hF; clear hF hf
    go_wp2_with fail
    refine HF.out.mono ?_
    rintro e w2 ⟨rfl, hb2⟩
    go_wp2_with fail
    refine (wake_ok _).mono ?_
    rintro e w3 ⟨rfl, hb3⟩
    go_wp2_with fail
    go_ret
    exact ⟨rfl, below_trans hw1 (below_trans hb2 hb3)⟩
  rw [hf] at hF
  have HF := Lib.hid hF; have Hf := Lib.hid hf; clear hF hf
  go_wp2_with fail
  refine HF.out.mono ?_
  rintro e w2 ⟨rfl, hb2⟩
  have a0 := cell_later hb2 a0'; have a1 := cell_later hb2 a1'; have a2 := cell_later hb2 a2'
  have hw2 := below_trans hw1 hb2
  clear a0' a1' a2' HF hb1 hb2 hlt0
  have hwf : WfG g := ⟨wo, wr0⟩
  obtain ⟨n, hn⟩ : ∃ n, (mchG g).length = n := ⟨_, rfl⟩
  have hsz : sizeG g = (n : Int) := by rw [sizeG, hn]
  have Hn := Lib.hid hn
  have hS := fun W' (hb : Below w.heap.size w W') => Size_ok g hwf (.agg #[.slice A1 g.obv.length c1, .slice A2 g.rev.length c2, .slice A3 g.links.length c3]) W' (h0.below hb)
  have hS' := fun W' (hb : Below w.heap.size w W') => Size_ok19 g (.agg #[.slice A1 g.obv.length c1, .slice A2 g.rev.length c2, .slice A3 g.links.length c3]) W' (h0.below hb)
  rw [hsz] at hS hS'
  have HS := Lib.hid hS; have HS' := Lib.hid hS'
  clear hS hS' hn hsz
  go_wp2_with fail
  refine (HS.out w2 hw2).mono ?_
  rintro e w3 ⟨rfl, hb3⟩
  have hw3 := below_trans hw2 hb3
  replace a0 := cell_later hb3 a0; replace a1 := cell_later hb3 a1; replace a2 := cell_later hb3 a2
  clear HS
  go_wp2_with fail
  refine (HS'.out w3 hw3).mono ?_
  rintro e w4 ⟨rfl, hb4⟩
  have hw4 := below_trans hw3 hb4
  replace a0 := cell_later hb4 a0; replace a1 := cell_later hb4 a1; replace a2 := cell_later hb4 a2
  clear HS'
  go_wp2_with fail
  refine (Matching_ok g hwf _ w4 (h0.below hw4)).mono ?_
  rintro e w5 ⟨ua, rfl, hua, hb5⟩
  have hw5 := below_trans hw4 hb5
  replace a0 := cell_later hb5 a0; replace a1 := cell_later hb5 a1; replace a2 := cell_later hb5 a2
  have hua' : Pairs w5 ua (mchG g) := hua.slOf
  obtain ⟨Aa, ca, rfl, _, _, _⟩ := hua'.cells
  rw [Hn.out] at hua' ⊢
  have HA := Lib.hid hua'
  clear hua hua'
  go_wp2_with fail
  refine (Cover_ok g hwf _ w5 (h0.below hw5)).mono ?_
  rintro e w6 ⟨ub, ys, rfl, hub, hcov, hb6⟩
  have hw6 := below_trans hw5 hb6
  replace a0 := cell_later hb6 a0; replace a1 := cell_later hb6 a1; replace a2 := cell_later hb6 a2
  obtain ⟨Ab, cb, rfl, _, _, _⟩ := hub.cells
  cases hg : graphB g
  · have hv : validE g = 1 := by simp [validE, hg]
    have hy : ys = [] := hcov.1 hg
    have hn0 : n = 0 := by rw [← Hn.out, mchG, if_neg (by simp [hg])]; rfl
    subst hy; subst hn0
    rw [hv]
    clear hg hv hcov hub
    go_wp2_with fail
    go_ret
    exact ⟨rfl, hw6⟩
  have hv : validE g = 0 := by simp [validE, hg]
  obtain ⟨f1, f2, f3⟩ := koen_facts hg hcov
  have hyn : ys.length = n := by rw [← f3, Hn.out]
  have HI := IsMatching_ok19 g _ _ (mchG g) w6 (h0.below hw6) (HA.out.below hb6) (by have := mchG_len g; omega)
  rw [isMatB_yes ⟨hg, f1⟩] at HI
  have HI' := Lib.hid HI
  have E2 := Lib.hid (isCovB_yes ⟨hg, f2⟩)
  rw [hv, hyn]
  rw [hyn] at hub
  have HB := Lib.hid hub
  clear hg hv HI hub hcov f1 f2 f3 hyn
  go_wp2_with fail
  refine HI'.out.mono ?_
  rintro e w7 ⟨rfl, hb7⟩
  have hw7 := below_trans hw6 hb7
  replace a0 := cell_later hb7 a0; replace a1 := cell_later hb7 a1; replace a2 := cell_later hb7 a2
  have HC := IsCover_ok19 g _ _ ys w7 (h0.below hw7) (HB.out.below hb7)
  rw [E2.out] at HC
  have HC' := Lib.hid HC
  clear HC HI'
  go_wp2_with fail
  refine HC'.out.mono ?_
  rintro e w8 ⟨rfl, hb8⟩
  go_wp2_with fail
  go_ret
  exact ⟨rfl, below_trans hw7 hb8⟩

set_option maxRecDepth 100000 in
theorem sizs_lifted (os : Os) (started : os.Started) (H : Type) (enc : TypeId × Value → H) :
    ReturnsInHanded {} Try.checked os 7 .any (Rows.coverSizesSpec.pre6 enc Try.prog Try.f7 Rows.coverSizesRow.domain false) (Rows.coverSizesSpec.post enc Try.prog Try.f7 false true false false) := by
  refine returnsInHanded_of_change (C := Try.checked) Try.own started (by kernel_rfl) Try.func7
    (ChangeSpec.witness6 (enc := enc) (C := Try.checked) false ⟨#[], #[.agg #[.slice none 0 0, .slice none 0 0, .slice none 0 0]], []⟩ 8 (by kernel_rfl) (by kernel_rfl) (by kernel_rfl) (by kernel_rfl)) ?_
  intro W base args ds gs before hval0 hW hcnd _
  have hval : ∀ (j : Nat) t v, Try.f7.params[j]? = some t → args[j]? = some v → Value.okWide Try.prog W .any base t v := hval0
  have hW' := hW
  obtain ⟨p, q, hA0, hV, rfl, hfz, hnd⟩ := hW
  have hA : DataW.TrodAll enc Try.prog W 0 (fun _ => true) true Try.f7.params.toList args.toList ds p := hA0
  rw [Try.params7] at hA hval
  obtain ⟨v0, d0, rfl, rfl, h0⟩ := trodAll_one hA
  obtain ⟨rfl, rfl⟩ := trodVars_none hV
  have k0 := h0
  have lt0 : ∀ x ∈ p, x.block < W.heap.size := by obtain ⟨m, hm⟩ := k0; exact DataW.trod_lt m _ _ _ hm
  obtain ⟨g0, hg0, wa0, wb0⟩ := opens_graph_wf (hval 0 25 v0 rfl rfl) h0
  clear hA0 hval0
  refine (sizs_walk v0 g0 W hg0 wa0 wb0).mono fun e W' ⟨he, bel⟩ => ?_
  subst he
  exact ⟨_, rfl, _, _, _, [], _, [], hW', trodAll_mk1 (shut_bool Try.underlying4 _), trodAll_mk1 (Below.trod Try.laidOut (by kernel_rfl) (of_decide_eq_true (by kernel_rfl)) k0 bel lt0), rfl, bel.frame _, fun h => by cases h⟩

theorem sizs_holds : Rows.CoverSizesSaid :=
  OpenClaim.holds_of_wide 7 Try.f7 rfl rfl rfl rfl rfl rfl rfl ⟨rfl, rfl, rfl, rfl, rfl⟩ rfl rfl rfl rfl rfl (by kernel_rfl) Try.func7 (by kernel_rfl)
    (of_decide_eq_true (by kernel_rfl)) (by unfold Func.isWrapper; first | (rw [if_pos (by decide +kernel)]; kernel_rfl) | (rw [if_neg (by decide +kernel)]; exact ⟨rfl, rfl⟩))
    (fun os started H enc _ => sizs_lifted os started H enc)
end Go.Proofs.Ytnaoiochfdipiaa
