/- CoverKoenig. No condition. -/
import Derived.Test.YtnaoiochfdipiaaAwk
import Derived.Test.YtnaoiochfdipiaaCovK
import Derived.Test.YtnaoiochfdipiaaOpenW
import Derived.Test.YtnaoiochfdipiaaRows
namespace Go.Proofs.Ytnaoiochfdipiaa
open Go.RowKit Go.Shelf Go.ChangeShapes Go.WideShapes Go.ChangeAt

set_option maxHeartbeats 8000000 in
set_option maxRecDepth 100000 in
theorem koen_walk (v : Value) (g : Graph) (u : Value) (l : List Pair) (z : Value) (c : List Die) (w : World) (h : GraphAt w v g) (wo : ∀ x ∈ g.obv, wfI x) (wr0 : ∀ x ∈ g.rev, wfI x) (hl : Pairs w u l) (hwl : ∀ p ∈ l, wfI p.a ∧ wfI p.b) (hd : Dies w z c) (_ : ∀ x ∈ c, wfI x.side ∧ wfI x.num) :
    Calls Try.prog 9 #[v, u, z] w fun e w' => e = .returned (.bool true) ∧ Below w.heap.size w w' := by
  obtain ⟨Al, cl, rfl, _, _, _⟩ := hl.cells
  obtain ⟨Ad, cd, rfl, _, _, _⟩ := hd.cells
  have h0 := h
  obtain ⟨v1, v2, v3, rfl, ho, hr, hk⟩ := h
  obtain ⟨A1, c1, rfl, _, _, hco⟩ := ho.cells
  obtain ⟨A2, c2, rfl, _, _, hcr⟩ := hr.cells
  obtain ⟨A3, c3, rfl, _, _, hck⟩ := hk.cells
  obtain ⟨W, hW, Hz, hwW, hlt0, hc0⟩ := boxed w #[.slice A1 g.obv.length c1, .slice A2 g.rev.length c2, .slice A3 g.links.length c3] 25
  have a0 := hc0 0 _ rfl; have a1 := hc0 1 _ rfl; have a2 := hc0 2 _ rfl
  clear hc0
  go_enter Try.func9, Try.ntmps9
  go_wp2_with fail
  refine (wake_ok _).mono ?_
  rintro e w1 ⟨rfl, hb1⟩
  clear hW
  have a0' := cell_later hb1 a0; have a1' := cell_later hb1 a1; have a2' := cell_later hb1 a2
  have hw1 := below_trans hwW hb1
  clear a0 a1 a2
  have hF := few19_ok _ _ w1 (h0.below hw1)
  cases hf : few19B g
  · rw [hf] at hF
    have HF := Lib.hid hF; clear hF hf
    go_wp2_with fail
    refine HF.out.mono ?_
    rintro e w2 ⟨rfl, hb2⟩
    go_wp2_with fail
    refine (wake_ok _).mono ?_
    rintro e w3 ⟨rfl, hb3⟩
    go_wp2_with fail
    go_ret
    exact ⟨rfl, below_trans hw1 (below_trans hb2 hb3)⟩
  rw [hf] at hF
  have HF := Lib.hid hF; have Hf := Lib.hid hf; clear hF hf
  go_wp2_with fail
  refine HF.out.mono ?_
  rintro e w2 ⟨rfl, hb2⟩
  have a0 := cell_later hb2 a0'; have a1 := cell_later hb2 a1'; have a2 := cell_later hb2 a2'
  have hw2 := below_trans hw1 hb2
  clear a0' a1' a2' HF hb1 hb2 hlt0
  have hwf : WfG g := ⟨wo, wr0⟩
  by_cases hlen : l.length ≤ 40
  case neg =>
    have d1 : decide ((40 : Int) < (l.length : Int)) = true := by simp; omega
    clear hlen
    go_wp2_with fail
    refine (wake_ok _).mono ?_
    rintro e w3 ⟨rfl, hb3⟩
    go_wp2_with fail
    go_ret
    exact ⟨rfl, below_trans hw2 hb3⟩
  have d1 : decide ((40 : Int) < (l.length : Int)) = false := by simp; omega
  by_cases hlc : c.length ≤ 80
  case neg =>
    have d2 : decide ((80 : Int) < (c.length : Int)) = true := by simp; omega
    clear hlen hlc
    go_wp2_with fail
    refine (wake_ok _).mono ?_
    rintro e w3 ⟨rfl, hb3⟩
    go_wp2_with fail
    go_ret
    exact ⟨rfl, below_trans hw2 hb3⟩
  have d2 : decide ((80 : Int) < (c.length : Int)) = false := by simp; omega
  clear hlen hlc
  obtain ⟨n, hn⟩ : ∃ n, (mchG g).length = n := ⟨_, rfl⟩
  have Hn := Lib.hid hn; clear hn
  go_wp2_with fail
  refine (Matching_ok g hwf _ w2 (h0.below hw2)).mono ?_
  rintro e w3 ⟨ua, rfl, hua, hb3⟩
  have hw3 := below_trans hw2 hb3
  replace a0 := cell_later hb3 a0; replace a1 := cell_later hb3 a1; replace a2 := cell_later hb3 a2
  obtain ⟨Aa, ca, rfl, _, _, _⟩ := (show Pairs w3 ua (mchG g) from hua.slOf).cells
  have hua' : Pairs w3 (.slice Aa (mchG g).length ca) (mchG g) := hua.slOf
  rw [Hn.out] at hua' ⊢
  have HA := Lib.hid hua'
  clear hua hua'
  go_wp2_with fail
  refine (Cover_ok g hwf _ w3 (h0.below hw3)).mono ?_
  rintro e w4 ⟨ub, ys, rfl, hub, hcov, hb4⟩
  have hw4 := below_trans hw3 hb4
  replace a0 := cell_later hb4 a0; replace a1 := cell_later hb4 a1; replace a2 := cell_later hb4 a2
  obtain ⟨Ab, cb, rfl, _, _, _⟩ := hub.cells
  cases hg : graphB g
  · have hv : validE g = 1 := by simp [validE, hg]
    have Hm : Hid (isMatB g l = false) := Lib.hid (isMatB_no fun hp => by have := hp.1; rw [hg] at this; cases this)
    have Hc : Hid (isCovB g c = false) := Lib.hid (isCovB_no fun hp => by have := hp.1; rw [hg] at this; cases this)
    have HM := IsMatching_ok g _ _ l w4 (h0.below hw4) (hl.below hw4) hwl
    rw [Hm.out] at HM
    have HM' := Lib.hid HM
    rw [hv]
    clear hg hv HM hub hcov
    go_wp2_with fail
    refine HM'.out.mono ?_
    rintro e w5 ⟨rfl, hb5⟩
    have hw5 := below_trans hw4 hb5
    replace a0 := cell_later hb5 a0; replace a1 := cell_later hb5 a1; replace a2 := cell_later hb5 a2
    have HC := IsCover_ok g _ _ c w5 (h0.below hw5) (hd.below hw5)
    rw [Hc.out] at HC
    have HC' := Lib.hid HC
    clear HC HM'
    go_wp2_with fail
    refine HC'.out.mono ?_
    rintro e w6 ⟨rfl, hb6⟩
    go_wp2_with fail
    go_ret
    exact ⟨rfl, below_trans hw5 hb6⟩
  have hv : validE g = 0 := by simp [validE, hg]
  obtain ⟨f1, f2, f3⟩ := koen_facts hg hcov
  have e1 : isMatB g (mchG g) = true := isMatB_yes ⟨hg, f1⟩
  have e2 : isCovB g ys = true := isCovB_yes ⟨hg, f2⟩
  have hyn : ys.length = n := by rw [← f3, Hn.out]
  have Hle : Hid (isMatB g l = true → l.length ≤ n) := Lib.hid fun e => by have := mat_le_cov (isMatB_iff.1 e).2 f2; omega
  have Hge : Hid (isCovB g c = true → n ≤ c.length) := Lib.hid fun e => by
    have h1 : IsCovP g c := by
      by_cases hp : IsCovP g c
      · exact hp
      · rw [isCovB_no hp] at e; cases e
    have := mat_le_cov f1 h1.2
    have := Hn.out
    omega
  have HM := IsMatching_ok g _ _ (mchG g) w4 (h0.below hw4) (HA.out.below hb4) (mat_wf hg hwf f1)
  rw [e1] at HM
  have HM' := Lib.hid HM
  rw [hv, hyn]
  rw [hyn] at hub
  have HB := Lib.hid hub
  have E2 := Lib.hid e2
  clear hg hv HM hub hcov f1 f2 f3 e1 e2 hyn
  go_wp2_with fail
  refine HM'.out.mono ?_
  rintro e w5 ⟨rfl, hb5⟩
  have hw5 := below_trans hw4 hb5
  replace a0 := cell_later hb5 a0; replace a1 := cell_later hb5 a1; replace a2 := cell_later hb5 a2
  have HC := IsCover_ok g _ _ ys w5 (h0.below hw5) (HB.out.below hb5)
  rw [E2.out] at HC
  have HC' := Lib.hid HC
  clear HC HM'
  go_wp2_with fail
  refine HC'.out.mono ?_
  rintro e w6 ⟨rfl, hb6⟩
  have hw6 := below_trans hw5 hb6
  replace a0 := cell_later hb6 a0; replace a1 := cell_later hb6 a1; replace a2 := cell_later hb6 a2
  have HM2 := Lib.hid (IsMatching_ok g _ _ l w6 (h0.below hw6) (hl.below hw6) hwl)
  clear HC' HA HB E2
  generalize isMatB g l = bl at HM2 Hle
  go_wp2_with fail
  refine HM2.out.mono ?_
  rintro e w7 ⟨rfl, hb7⟩
  have hw7 := below_trans hw6 hb7
  replace a0 := cell_later hb7 a0; replace a1 := cell_later hb7 a1; replace a2 := cell_later hb7 a2
  have HC2 := Lib.hid (IsCover_ok g _ _ c w7 (h0.below hw7) (hd.below hw7))
  clear HM2
  generalize isCovB g c = bc at HC2 Hge
  cases bl
  · go_wp2_with fail
    refine HC2.out.mono ?_
    rintro e w8 ⟨rfl, hb8⟩
    cases bc
    · go_wp2_with fail
      go_ret
      exact ⟨rfl, below_trans hw7 hb8⟩
    · have q1 := Hge.out rfl
      have d3 : decide (n ≤ c.length) = true := decide_eq_true q1
      go_wp2_with fail
      go_ret
      exact ⟨by first | rfl | simpa using q1, below_trans hw7 hb8⟩
  · have q0 := Hle.out rfl
    have d4 : decide (l.length ≤ n) = true := decide_eq_true q0
    go_wp2_with fail
    refine HC2.out.mono ?_
    rintro e w8 ⟨rfl, hb8⟩
    cases bc
    · go_wp2_with fail
      go_ret
      exact ⟨rfl, below_trans hw7 hb8⟩
    · have q1 := Hge.out rfl
      have d3 : decide (n ≤ c.length) = true := decide_eq_true q1
      go_wp2_with fail
      go_ret
      exact ⟨by first | rfl | simpa using q1, below_trans hw7 hb8⟩

set_option maxRecDepth 100000 in
theorem koen_lifted (os : Os) (started : os.Started) (H : Type) (enc : TypeId × Value → H) :
    ReturnsInHanded {} Try.checked os 9 .any (Rows.coverKoenigSpec.pre6 enc Try.prog Try.f9 Rows.coverKoenigRow.domain false) (Rows.coverKoenigSpec.post enc Try.prog Try.f9 false true false false) := by
  refine returnsInHanded_of_change (C := Try.checked) Try.own started (by kernel_rfl) Try.func9
    (ChangeSpec.witness6 (enc := enc) (C := Try.checked) false ⟨#[], #[.agg #[.slice none 0 0, .slice none 0 0, .slice none 0 0], .slice none 0 0, .slice none 0 0], []⟩ 8 (by kernel_rfl) (by kernel_rfl) (by kernel_rfl) (by kernel_rfl)) ?_
  intro W base args ds gs before hval0 hW hcnd _
  have hval : ∀ (j : Nat) t v, Try.f9.params[j]? = some t → args[j]? = some v → Value.okWide Try.prog W .any base t v := hval0
  have hW' := hW
  obtain ⟨p, q, hA0, hV, rfl, hfz, hnd⟩ := hW
  have hA : DataW.TrodAll enc Try.prog W 0 (fun _ => true) true Try.f9.params.toList args.toList ds p := hA0
  rw [Try.params9] at hA hval
  obtain ⟨v0, v1, v2, d0, d1, d2, p0, p1, p2, rfl, rfl, rfl, h0, h1, h2⟩ := trodAll_three hA
  obtain ⟨rfl, rfl⟩ := trodVars_none hV
  have k0 := h0
  have lt0 : ∀ x ∈ p0, x.block < W.heap.size := by obtain ⟨m, hm⟩ := k0; exact DataW.trod_lt m _ _ _ hm
  obtain ⟨g0, hg0, wa0, wb0⟩ := opens_graph_wf (hval 0 25 v0 rfl rfl) h0
  have k1 := h1
  have lt1 : ∀ x ∈ p1, x.block < W.heap.size := by obtain ⟨m, hm⟩ := k1; exact DataW.trod_lt m _ _ _ hm
  obtain ⟨x1, hx1, wa1⟩ := opens_pairs_wf (hval 1 37 v1 rfl rfl) h1
  have k2 := h2
  have lt2 : ∀ x ∈ p2, x.block < W.heap.size := by obtain ⟨m, hm⟩ := k2; exact DataW.trod_lt m _ _ _ hm
  obtain ⟨x2, hx2, wa2⟩ := opens_dies_wf (hval 2 26 v2 rfl rfl) h2
  clear hA0 hval0
  refine (koen_walk v0 g0 v1 x1 v2 x2 W hg0 wa0 wb0 hx1 wa1 hx2 wa2).mono fun e W' ⟨he, bel⟩ => ?_
  subst he
  exact ⟨_, rfl, _, _, _, [], _, [], hW', trodAll_mk1 (shut_bool Try.underlying4 _), trodAll_mk3 (Below.trod Try.laidOut (by kernel_rfl) (of_decide_eq_true (by kernel_rfl)) k0 bel lt0) (Below.trod Try.laidOut (by kernel_rfl) (of_decide_eq_true (by kernel_rfl)) k1 bel lt1) (Below.trod Try.laidOut (by kernel_rfl) (of_decide_eq_true (by kernel_rfl)) k2 bel lt2), rfl, bel.frame _, fun h => by cases h⟩

theorem koen_holds : Rows.CoverKoenigSaid :=
  OpenClaim.holds_of_wide 9 Try.f9 rfl rfl rfl rfl rfl rfl rfl ⟨rfl, rfl, rfl, rfl, rfl⟩ rfl rfl rfl rfl rfl (by kernel_rfl) Try.func9 (by kernel_rfl)
    (of_decide_eq_true (by kernel_rfl)) (by unfold Func.isWrapper; first | (rw [if_pos (by decide +kernel)]; kernel_rfl) | (rw [if_neg (by decide +kernel)]; exact ⟨rfl, rfl⟩))
    (fun os started H enc _ => koen_lifted os started H enc)
end Go.Proofs.Ytnaoiochfdipiaa
