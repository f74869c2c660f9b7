/- CoverAugments. No condition. -/
import Derived.Test.YtnaoiochfdipiaaAwk
import Derived.Test.YtnaoiochfdipiaaAugA
import Derived.Test.YtnaoiochfdipiaaCovK
import Derived.Test.YtnaoiochfdipiaaKept
import Derived.Test.YtnaoiochfdipiaaOpenW
import Derived.Test.YtnaoiochfdipiaaRows
namespace Go.Proofs.Ytnaoiochfdipiaa
open Go.RowKit Go.Shelf Go.ChangeShapes Go.WideShapes Go.ChangeAt

theorem aug_step {g : Graph} (hg : graphB g = true) {l : List Pair} (hm : IsMat g l) {n : Nat} (hO : Opt g n) :
    l.length ≤ n ∧ (l.length < n → augE g l = 0 ∧ IsMat g (augG g l) ∧ (augG g l).length = l.length + 1 ∧ KeptP l (augG g l)) ∧ (¬ l.length < n → augE g l = 7 ∧ augG g l = []) := by
  have hb : isMatB g l = true := isMatB_yes ⟨hg, hm⟩
  obtain ⟨h1, h2, h3⟩ := more_list hg hm hO
  refine ⟨h1, fun hlt => ?_, fun hge => ?_⟩
  · cases hc : (moreG g l).1
    · have := h2 hc; omega
    · obtain ⟨k1, k2⟩ := h3 hc
      obtain ⟨q1, q2, q3, q4⟩ := k2 _ (sortM_of k1.nodO)
      rw [augE, augG, if_pos hb, if_pos hb, hc, if_pos rfl, if_pos rfl]
      exact ⟨rfl, q1, q2, q4⟩
  · cases hc : (moreG g l).1
    · rw [augE, augG, if_pos hb, if_pos hb, hc, if_neg (by simp), if_neg (by simp)]
      exact ⟨rfl, rfl⟩
    · obtain ⟨k1, k2⟩ := h3 hc
      obtain ⟨q1, q2, q3, q4⟩ := k2 _ (sortM_of k1.nodO)
      omega
set_option maxHeartbeats 8000000 in
set_option maxRecDepth 100000 in
theorem augs_walk (v : Value) (g : Graph) (u : Value) (l : List Pair) (w : World) (h : GraphAt w v g) (wo : ∀ x ∈ g.obv, wfI x) (wr0 : ∀ x ∈ g.rev, wfI x) (hl : Pairs w u l) (hwl : ∀ p ∈ l, wfI p.a ∧ wfI p.b) :
    Calls Try.prog 6 #[v, u] w fun e w' => e = .returned (.bool true) ∧ Below w.heap.size w w' := by
  obtain ⟨Al, cl, rfl, _, _, _⟩ := hl.cells
  have h0 := h
  obtain ⟨v1, v2, v3, rfl, ho, hr, hk⟩ := h
  obtain ⟨A1, c1, rfl, _, _, hco⟩ := ho.cells
  obtain ⟨A2, c2, rfl, _, _, hcr⟩ := hr.cells
  obtain ⟨A3, c3, rfl, _, _, hck⟩ := hk.cells
  obtain ⟨W, hW, Hz, hwW, hlt0, hc0⟩ := boxed w #[.slice A1 g.obv.length c1, .slice A2 g.rev.length c2, .slice A3 g.links.length c3] 25
  have a0 := hc0 0 _ rfl; have a1 := hc0 1 _ rfl; have a2 := hc0 2 _ rfl
  clear hc0
  go_enter Try.func6, Try.ntmps6
  go_wp2_with fail
  refine (wake_ok _).mono ?_
  rintro e w1 ⟨rfl, hb1⟩
  clear hW
  have a0' := cell_later hb1 a0; have a1' := cell_later hb1 a1; have a2' := cell_later hb1 a2
  have hw1 := below_trans hwW hb1
  clear a0 a1 a2
  have hF := few19_ok _ _ w1 (h0.below hw1)
  cases hf : few19B g
  · rw [hf] at hF
    have HF := Lib.hid hF; clear hF hf
    go_wp2_with fail
    refine HF.out.mono ?_
    rintro e w2 ⟨rfl, hb2⟩
    go_wp2_with fail
    refine (wake_ok _).mono ?_
    rintro e w3 ⟨rfl, hb3⟩
    go_wp2_with fail
    go_ret
    exact ⟨rfl, below_trans hw1 (below_trans hb2 hb3)⟩
  rw [hf] at hF
  have HF := Lib.hid hF; have Hf := Lib.hid hf; clear hF hf
  go_wp2_with fail
  refine HF.out.mono ?_
  rintro e w2 ⟨rfl, hb2⟩
  have a0 := cell_later hb2 a0'; have a1 := cell_later hb2 a1'; have a2 := cell_later hb2 a2'
  have hw2 := below_trans hw1 hb2
  clear a0' a1' a2' HF hb1 hb2 hlt0
  have hwf : WfG g := ⟨wo, wr0⟩
  by_cases hlen : l.length ≤ 40
  case neg =>
    have d1 : decide ((40 : Int) < (l.length : Int)) = true := by simp; omega
    clear hlen
    go_wp2_with fail
    refine (wake_ok _).mono ?_
    rintro e w3 ⟨rfl, hb3⟩
    go_wp2_with fail
    go_ret
    exact ⟨rfl, below_trans hw2 hb3⟩
  have d1 : decide ((40 : Int) < (l.length : Int)) = false := by simp; omega
  have HL := Lib.hid hlen
  clear hlen
  obtain ⟨n, hn⟩ : ∃ n, (mchG g).length = n := ⟨_, rfl⟩
  have hsz : sizeG g = (n : Int) := by rw [sizeG, hn]
  have hn32 : n ≤ 32 := by rw [← hn]; exact mchG_len g
  have hS := Size_ok g hwf (.agg #[.slice A1 g.obv.length c1, .slice A2 g.rev.length c2, .slice A3 g.links.length c3]) w2 (h0.below hw2)
  rw [hsz] at hS
  have HS := Lib.hid hS; have Hn := Lib.hid hn
  clear hS hn hsz
  go_wp2_with fail
  refine HS.out.mono ?_
  rintro e w3 ⟨rfl, hb3⟩
  have hw3 := below_trans hw2 hb3
  replace a0 := cell_later hb3 a0; replace a1 := cell_later hb3 a1; replace a2 := cell_later hb3 a2
  clear HS
  by_cases hmat : isMatB g l = true
  case neg =>
    have hbf : isMatB g l = false := by simpa using hmat
    have hE : augE g l = 1 := by rw [augE, if_neg hmat]
    have HA := Augment_ok g hwf (.agg #[.slice A1 g.obv.length c1, .slice A2 g.rev.length c2, .slice A3 g.links.length c3]) (.slice Al l.length cl) l
    rw [hE] at HA
    have HA' := Lib.hid (fun w' (hb : Below w.heap.size w w') => HA w' (h0.below hb) (hl.below hb) hwl (by have := HL.out; omega))
    cases hg : graphB g
    · have hv : validE g = 1 := by simp [validE, hg]
      rw [hv]
      clear hmat hbf hE HA hg hv
      go_wp2_with fail
      refine (HA'.out w3 hw3).mono ?_
      rintro e w4 ⟨z, rfl, _, hb4⟩
      clear HA'
      go_wp2_with fail
      go_ret
      exact ⟨rfl, below_trans hw3 hb4⟩
    · have hv : validE g = 0 := by simp [validE, hg]
      have HM := IsMatching_ok g _ _ l w3 (h0.below hw3) (hl.below hw3) hwl
      rw [hbf] at HM
      have HM' := Lib.hid HM
      rw [hv]
      clear hmat hbf hE HA hg hv HM
      go_wp2_with fail
      refine HM'.out.mono ?_
      rintro e w4 ⟨rfl, hb4⟩
      have hw4 := below_trans hw3 hb4
      replace a0 := cell_later hb4 a0; replace a1 := cell_later hb4 a1; replace a2 := cell_later hb4 a2
      clear HM'
      go_wp2_with fail
      refine (HA'.out w4 hw4).mono ?_
      rintro e w5 ⟨z, rfl, _, hb5⟩
      clear HA'
      go_wp2_with fail
      go_ret
      exact ⟨rfl, below_trans hw4 hb5⟩
  have HM := IsMatching_ok g _ _ l w3 (h0.below hw3) (hl.below hw3) hwl
  rw [hmat] at HM
  have HM' := Lib.hid HM
  obtain ⟨hg, hm⟩ := isMatB_iff.1 hmat
  have hv : validE g = 0 := by simp [validE, hg]
  have hO := (mch_facts hg).2
  rw [Hn.out] at hO
  have hle := hO.le hm
  have Hg := Lib.hid hg; have HO := Lib.hid hO; have Hm := Lib.hid hm
  have d5 : decide (n < l.length) = false := decide_eq_false (by omega)
  have d6 : decide ((n : Int) < (l.length : Int)) = false := decide_eq_false (by omega)
  rw [hv]
  clear hmat HM hg hm hv hO
  go_wp2_with fail
  refine HM'.out.mono ?_
  rintro e w4 ⟨rfl, hb4⟩
  have hw4 := below_trans hw3 hb4
  replace a0 := cell_later hb4 a0; replace a1 := cell_later hb4 a1; replace a2 := cell_later hb4 a2
  clear HM'
  go_wp2_with fail
  have HB := Lib.hid hw4
  clear d1 d5 d6
  go_loopw [1] (fun u wr => ∃ (l' : List Pair) (A : Option Addr) (c : Nat), u = .slice A l'.length c ∧ Pairs wr (.slice A l'.length c) l' ∧ Hid (IsMat g l') ∧ l'.length ≤ n ∧ Below w4.heap.size w4 wr) (fun u _ => n - (match u with | .slice _ m _ => m | _ => 0))
  case atStart => exact ⟨l, Al, cl, rfl, hl.below hw4, Hm, hle, Below.refl _ _⟩
  case round =>
    clear hl hwl hle HL Hm
    obtain ⟨l', A, c, rfl, hl, Hm, hle, hb⟩ := hrel
    have hwr := below_trans HB.out hb
    have q0 := cell_later hb a0; have q1 := cell_later hb a1; have q2 := cell_later hb a2
    obtain ⟨_, s1, s2⟩ := aug_step Hg.out Hm.out HO.out
    have hwm := mat_wf Hg.out hwf Hm.out
    have HA := Augment_ok g hwf (.agg #[.slice A1 g.obv.length c1, .slice A2 g.rev.length c2, .slice A3 g.links.length c3]) (.slice A l'.length c) l' wr (h0.below hwr) hl hwm (by omega)
    by_cases hlt : l'.length < n
    · have x1 : decide (l'.length < n) = true := decide_eq_true hlt
      have x2 : decide ((l'.length : Int) < (n : Int)) = true := decide_eq_true (by omega)
      obtain ⟨t1, t2, t3, t4⟩ := s1 hlt
      rw [t1] at HA
      have HA' := Lib.hid HA
      have T2 := Lib.hid t2; have T3 := Lib.hid t3; have T4 := Lib.hid t4
      have Hl := Lib.hid hl; have HLT := Lib.hid hlt
      clear s1 s2 hwm HA t1 t2 t3 t4 hlt hl
      go_wp2_with fail
      refine HA'.out.mono ?_
      rintro e w5 ⟨z, rfl, hz, hb5⟩
      have hz' : Pairs w5 z (augG g l') := hz.slOf
      clear HA' hz
      obtain ⟨Az, cz, rfl, _, _, _⟩ := hz'.cells
      have hw5 := below_trans hwr hb5
      replace q0 := cell_later hb5 q0; replace q1 := cell_later hb5 q1; replace q2 := cell_later hb5 q2
      rw [T3.out] at hz' ⊢
      have HI := IsMatching_ok19 g _ _ (augG g l') w5 (h0.below hw5) hz' (by have := T3.out; omega)
      rw [isMatB_yes ⟨Hg.out, T2.out⟩] at HI
      have HI' := Lib.hid HI
      have Hz := Lib.hid hz'
      clear HI hz'
      go_wp2_with fail
      refine HI'.out.mono ?_
      rintro e w6 ⟨rfl, hb6⟩
      have hb56 := below_trans hb5 hb6
      clear HI'
      have HK := Lib.hid (kept_ok _ _ l' (augG g l') w6 (Hl.out.below hb56) (Hz.out.below hb6) T4.out)
      go_wp2_with fail
      refine HK.out.mono ?_
      rintro e w7 ⟨rfl, hb7⟩
      clear HK
      go_wp2_with fail
      refine ⟨?rel, ?measure⟩
      case rel => exact ⟨augG g l', Az, cz, by rw [T3.out], by rw [T3.out]; exact Hz.out.below (below_trans hb6 hb7), T2, by rw [T3.out]; have := HLT.out; omega, below_trans hb (below_trans hb56 hb7)⟩
      case measure => simp; have := HLT.out; omega
    · have x1 : decide (l'.length < n) = false := decide_eq_false hlt
      have x2 : decide ((l'.length : Int) < (n : Int)) = false := decide_eq_false (by omega)
      obtain ⟨t1, t2⟩ := s2 hlt
      rw [t1, t2] at HA
      have HA' := Lib.hid HA
      clear s1 s2 hwm HA t1 t2 hlt hl
      go_wp2_with fail
      refine HA'.out.mono ?_
      rintro e w5 ⟨z, rfl, hz, hb5⟩
      obtain ⟨Az, cz, rfl, _, _, _⟩ := (show Pairs w5 z [] from hz.slOf).cells
      clear HA' hz
      go_wp2_with fail
      go_ret
      exact ⟨rfl, below_trans hwr hb5⟩

set_option maxRecDepth 100000 in
theorem augs_lifted (os : Os) (started : os.Started) (H : Type) (enc : TypeId × Value → H) :
    ReturnsInHanded {} Try.checked os 6 .any (Rows.coverAugmentsSpec.pre6 enc Try.prog Try.f6 Rows.coverAugmentsRow.domain false) (Rows.coverAugmentsSpec.post enc Try.prog Try.f6 false true false false) := by
  refine returnsInHanded_of_change (C := Try.checked) Try.own started (by kernel_rfl) Try.func6
    (ChangeSpec.witness6 (enc := enc) (C := Try.checked) false ⟨#[], #[.agg #[.slice none 0 0, .slice none 0 0, .slice none 0 0], .slice none 0 0], []⟩ 8 (by kernel_rfl) (by kernel_rfl) (by kernel_rfl) (by kernel_rfl)) ?_
  intro W base args ds gs before hval0 hW hcnd _
  have hval : ∀ (j : Nat) t v, Try.f6.params[j]? = some t → args[j]? = some v → Value.okWide Try.prog W .any base t v := hval0
  have hW' := hW
  obtain ⟨p, q, hA0, hV, rfl, hfz, hnd⟩ := hW
  have hA : DataW.TrodAll enc Try.prog W 0 (fun _ => true) true Try.f6.params.toList args.toList ds p := hA0
  rw [Try.params6] at hA hval
  obtain ⟨v0, v1, d0, d1, p0, p1, rfl, rfl, rfl, h0, h1⟩ := trodAll_two hA
  obtain ⟨rfl, rfl⟩ := trodVars_none hV
  have k0 := h0
  have lt0 : ∀ x ∈ p0, x.block < W.heap.size := by obtain ⟨m, hm⟩ := k0; exact DataW.trod_lt m _ _ _ hm
  obtain ⟨g0, hg0, wa0, wb0⟩ := opens_graph_wf (hval 0 25 v0 rfl rfl) h0
  have k1 := h1
  have lt1 : ∀ x ∈ p1, x.block < W.heap.size := by obtain ⟨m, hm⟩ := k1; exact DataW.trod_lt m _ _ _ hm
  obtain ⟨x1, hx1, wa1⟩ := opens_pairs_wf (hval 1 37 v1 rfl rfl) h1
  clear hA0 hval0
  refine (augs_walk v0 g0 v1 x1 W hg0 wa0 wb0 hx1 wa1).mono fun e W' ⟨he, bel⟩ => ?_
  subst he
  exact ⟨_, rfl, _, _, _, [], _, [], hW', trodAll_mk1 (shut_bool Try.underlying4 _), trodAll_mk2 (Below.trod Try.laidOut (by kernel_rfl) (of_decide_eq_true (by kernel_rfl)) k0 bel lt0) (Below.trod Try.laidOut (by kernel_rfl) (of_decide_eq_true (by kernel_rfl)) k1 bel lt1), rfl, bel.frame _, fun h => by cases h⟩

theorem augs_holds : Rows.CoverAugmentsSaid :=
  OpenClaim.holds_of_wide 6 Try.f6 rfl rfl rfl rfl rfl rfl rfl ⟨rfl, rfl, rfl, rfl, rfl⟩ rfl rfl rfl rfl rfl (by kernel_rfl) Try.func6 (by kernel_rfl)
    (of_decide_eq_true (by kernel_rfl)) (by unfold Func.isWrapper; first | (rw [if_pos (by decide +kernel)]; kernel_rfl) | (rw [if_neg (by decide +kernel)]; exact ⟨rfl, rfl⟩))
    (fun os started H enc _ => augs_lifted os started H enc)
end Go.Proofs.Ytnaoiochfdipiaa
