/- Law CorpusGroups. -/
import Derived.Test.YthnckicnnhkkaaaGreatJoiP
import Derived.Test.YthnckicnnhkkaaaGreatAwkC
import Derived.Test.YthnckicnnhkkaaaGreatRows
import Derived.Test.YthnckicnnhkkaaaGreatHolGrpC
namespace Go.Proofs.YthnckicnnhkkaaaGreat
open Go.RowKit Go.Shelf Go.ChangeShapes Go.WideShapes Go.ChangeAt Go.Maps

set_option maxHeartbeats 16000000 in
set_option maxRecDepth 100000 in
theorem grpC_walk (v1 : Value) (a : List OpC) (v2 : Value) (b : List OpC) (v3 : Value) (c : List OpC) (w : World) (h1 : OpsC w v1 a) (h2 : OpsC w v2 b) (h3 : OpsC w v3 c) :
    Calls Tryz.prog 9 #[v1, v2, v3] w fun e w' => e = .returned (.bool true) ∧ Below w.heap.size w w' := by
  have H1 := Lib.hid h1; have H2 := Lib.hid h2; have H3 := Lib.hid h3
  obtain ⟨A1, k1, rfl, _⟩ := h1.at
  obtain ⟨A2, k2, rfl, _⟩ := h2.at
  obtain ⟨A3, k3, rfl, _⟩ := h3.at
  obtain ⟨x, hx⟩ : ∃ x, doAll a = x := ⟨_, rfl⟩
  obtain ⟨y, hy⟩ : ∃ x, doAll b = x := ⟨_, rfl⟩
  obtain ⟨z, hz⟩ : ∃ x, doAll c = x := ⟨_, rfl⟩
  have Gx : Hid (GoodC x) := Lib.hid (by rw [← hx]; exact good_all a)
  have Gy : Hid (GoodC y) := Lib.hid (by rw [← hy]; exact good_all b)
  have Gz : Hid (GoodC z) := Lib.hid (by rw [← hz]; exact good_all c)
  have HX := Lib.hid hx; have HY := Lib.hid hy; have HZ := Lib.hid hz
  clear h1 h2 h3 hx hy hz
  go_enter Tryz.func9, Tryz.ntmps9
  go_wp2_with fail
  refine (wake52_ok _).mono ?_
  rintro e w0 ⟨rfl, hb0⟩
  by_cases hfew1 : (20 : Int) < ((a.length : Nat) : Int)
  · go_wp2_with fail
    refine (wake52_ok _).mono ?_
    rintro e w1 ⟨rfl, hb1⟩
    go_wp2_with fail
    go_ret
    exact ⟨rfl, below_trans hb0 hb1⟩
  by_cases hfew2 : (20 : Int) < ((b.length : Nat) : Int)
  · go_wp2_with fail
    refine (wake52_ok _).mono ?_
    rintro e w1 ⟨rfl, hb1⟩
    go_wp2_with fail
    go_ret
    exact ⟨rfl, below_trans hb0 hb1⟩
  by_cases hfew3 : (20 : Int) < ((c.length : Nat) : Int)
  · go_wp2_with fail
    refine (wake52_ok _).mono ?_
    rintro e w1 ⟨rfl, hb1⟩
    go_wp2_with fail
    go_ret
    exact ⟨rfl, below_trans hb0 hb1⟩
  have hM := made_ok _ a w0 ⟨H1.out.1.below hb0, H1.out.2⟩
  rw [HX.out] at hM
  have HM := Lib.hid hM
  clear hM
  go_wp2_with fail
  refine HM.out.mono ?_
  clear HM
  rintro e w1 ⟨p1, q1, S1, T1, rfl, hc1, _, _, hS1, _, hb1⟩
  have HC1 := Lib.hid hc1
  have R1 : Hid (∀ j ∈ S1, w0.heap.size ≤ j ∧ j < w1.heap.size) := Lib.hid fun j hj => ⟨hS1 j hj, hc1.lt j hj⟩
  have hb01 := below_trans hb0 hb1
  clear hc1 hS1
  have hM := made_ok _ b w1 ⟨H2.out.1.below hb01, H2.out.2⟩
  rw [HY.out] at hM
  have HM := Lib.hid hM
  clear hM
  go_wp2_with fail
  refine HM.out.mono ?_
  clear HM
  rintro e w2 ⟨p2, q2, S2, T2, rfl, hc2, _, _, hS2, _, hb2⟩
  have HC2 := Lib.hid hc2
  have R2 : Hid (∀ j ∈ S2, w1.heap.size ≤ j ∧ j < w2.heap.size) := Lib.hid fun j hj => ⟨hS2 j hj, hc2.lt j hj⟩
  have hb02 := below_trans hb01 hb2
  clear hc2 hS2
  have hM := made_ok _ c w2 ⟨H3.out.1.below hb02, H3.out.2⟩
  rw [HZ.out] at hM
  have HM := Lib.hid hM
  clear hM
  go_wp2_with fail
  refine HM.out.mono ?_
  clear HM
  rintro e w3 ⟨p3, q3, S3, T3, rfl, hc3, _, _, hS3, _, hb3⟩
  have R3 : Hid (∀ j ∈ S3, w2.heap.size ≤ j ∧ j < w3.heap.size) := Lib.hid fun j hj => ⟨hS3 j hj, hc3.lt j hj⟩
  have HC3 := Lib.hid hc3
  have hb03 := below_trans hb02 hb3
  clear hc3 hS3
  go_wp2_with fail
  refine (CClone_ok S1 p1 _ _ _ w3 (HC1.out.below (below_trans hb2 hb3))).mono ?_
  rintro e w4 ⟨pA, SA, rfl, hA, hSA, hb4⟩
  have RA : Hid (∀ j ∈ SA, w3.heap.size ≤ j ∧ j < w4.heap.size) := Lib.hid fun j hj => ⟨hSA j hj, hA.lt j hj⟩
  have HA := Lib.hid hA
  clear hA hSA
  go_wp2_with fail
  refine (CClone_ok S2 p2 _ _ _ w4 (HC2.out.below (below_trans hb3 hb4))).mono ?_
  rintro e w5 ⟨pB, SB, rfl, hB, hSB, hb5⟩
  have RB : Hid (∀ j ∈ SB, w4.heap.size ≤ j ∧ j < w5.heap.size) := Lib.hid fun j hj => ⟨hSB j hj, hB.lt j hj⟩
  have HB := Lib.hid hB
  clear hB hSB
  go_wp2_with fail
  refine (CClone_ok S1 p1 _ _ _ w5 (HC1.out.below (below_trans hb2 (below_trans hb3 (below_trans hb4 hb5))))).mono ?_
  rintro e w6 ⟨pC, SC, rfl, hC, hSC, hb6⟩
  have RC : Hid (∀ j ∈ SC, w5.heap.size ≤ j ∧ j < w6.heap.size) := Lib.hid fun j hj => ⟨hSC j hj, hC.lt j hj⟩
  have HC := Lib.hid hC
  have HA6 := Lib.hid (HA.out.below (below_trans hb5 hb6)); have HB6 := Lib.hid (HB.out.below hb6)
  have HY6 := Lib.hid (HC2.out.below (below_trans hb3 (below_trans hb4 (below_trans hb5 hb6)))); have HZ6 := Lib.hid (HC3.out.below (below_trans hb4 (below_trans hb5 hb6)))
  have hb06 := below_trans hb03 (below_trans hb4 (below_trans hb5 hb6))
  have z0 := hb0.size; have z1 := hb1.size; have z2 := hb2.size; have z3 := hb3.size; have z4 := hb4.size; have z5 := hb5.size; have z6 := hb6.size
  have HZs : Hid (w.heap.size ≤ w0.heap.size ∧ w0.heap.size ≤ w1.heap.size ∧ w1.heap.size ≤ w2.heap.size ∧ w2.heap.size ≤ w3.heap.size ∧ w3.heap.size ≤ w4.heap.size ∧ w4.heap.size ≤ w5.heap.size ∧ w5.heap.size ≤ w6.heap.size) := Lib.hid ⟨z0, z1, z2, z3, z4, z5, z6⟩
  clear hC hSC HA HB HC1 HC2 HC3 hb0 hb1 hb2 hb3 hb4 hb5 hb6 hb01 hb02 hb03 z0 z1 z2 z3 z4 z5 z6
  have hJ := CJoin_ok SA pA _ _ _ S2 p2 _ _ _ w6 HA6.out HY6.out
  obtain ⟨E1, hE1⟩ : ∃ n, joinE x.1 x.2.1 x.2.2 y.1 y.2.1 y.2.2 = n := ⟨_, rfl⟩
  rw [hE1] at hJ
  have HJ := Lib.hid hJ; have HE1 := Lib.hid hE1
  clear hJ hE1
  go_wp2_with fail
  refine HJ.out.mono ?_
  clear HJ
  rintro e w7 ⟨rfl, SA', hA', htA, hsA⟩
  have hb07 : Below w.heap.size w w7 := ((touch_below hb06 SA).trans htA).below (fun j hj => by have := RA.out j hj; have := HZs.out; omega) (Nat.le_refl _)
  have RA' : Hid (∀ j ∈ SA', (w3.heap.size ≤ j ∧ j < w4.heap.size) ∨ (w6.heap.size ≤ j ∧ j < w7.heap.size)) := Lib.hid fun j hj => (hsA j hj).imp (RA.out j) (fun h => ⟨h, hA'.lt j hj⟩)
  have HA7 := Lib.hid hA'
  have HB7 := Lib.hid (HB6.out.off htA fun j hj hj' => by have := RA.out j hj'; have := RB.out j hj; omega)
  have HC7 := Lib.hid (HC.out.off htA fun j hj hj' => by have := RA.out j hj'; have := RC.out j hj; have := HZs.out; omega)
  have HZ7 := Lib.hid (HZ6.out.off htA fun j hj hj' => by have := RA.out j hj'; have := R3.out j hj; omega)
  have HZs7 : Hid (w6.heap.size ≤ w7.heap.size) := Lib.hid htA.size
  clear hA' htA hsA HA6 HB6 HC HZ6 HY6 hb06
  cases t1 : (E1 != 0)
  case true =>
    go_wp2_with fail
    go_ret
    exact ⟨rfl, hb07⟩
  have hJ := CJoin_ok SB pB _ _ _ S3 p3 _ _ _ w7 HB7.out HZ7.out
  obtain ⟨E2, hE2⟩ : ∃ n, joinE y.1 y.2.1 y.2.2 z.1 z.2.1 z.2.2 = n := ⟨_, rfl⟩
  rw [hE2] at hJ
  have HJ := Lib.hid hJ; have HE2 := Lib.hid hE2
  clear hJ hE2
  go_wp2_with fail
  refine HJ.out.mono ?_
  clear HJ
  rintro e w8 ⟨rfl, SB', hB', htB, hsB⟩
  have hb08 : Below w.heap.size w w8 := ((touch_below hb07 SB).trans htB).below (fun j hj => by have := RB.out j hj; have := HZs.out; omega) (Nat.le_refl _)
  have RB' : Hid (∀ j ∈ SB', (w4.heap.size ≤ j ∧ j < w5.heap.size) ∨ (w7.heap.size ≤ j)) := Lib.hid fun j hj => (hsB j hj).imp (RB.out j) id
  have HB8 := Lib.hid hB'
  have HA8 := Lib.hid (HA7.out.off htB fun j hj hj' => by have := RB.out j hj'; have := RA'.out j hj; have := HZs.out; omega)
  have HC8 := Lib.hid (HC7.out.off htB fun j hj hj' => by have := RB.out j hj'; have := RC.out j hj; omega)
  have HZ8 := Lib.hid (HZ7.out.off htB fun j hj hj' => by have := RB.out j hj'; have := R3.out j hj; have := HZs.out; omega)
  have HZs8 : Hid (w7.heap.size ≤ w8.heap.size) := Lib.hid htB.size
  clear hB' htB hsB HA7 HB7 HC7 HZ7 hb07
  cases t2 : (E2 != 0)
  case true =>
    go_wp2_with fail
    go_ret
    exact ⟨rfl, hb08⟩
  have has := join_assoc Gx.out Gy.out Gz.out (by rw [HE1.out]; simpa using t1) (by rw [HE2.out]; simpa using t2)
  obtain ⟨Aj, hAj⟩ : ∃ u, joinC x y = u := ⟨_, rfl⟩
  obtain ⟨Bj, hBj⟩ : ∃ u, joinC y z = u := ⟨_, rfl⟩
  have HA9 : Hid (CorAt w8 SA' pA Aj.1 Aj.2.1 Aj.2.2) := Lib.hid (by rw [← hAj]; exact HA8.out)
  have HB9 : Hid (CorAt w8 SB' pB Bj.1 Bj.2.1 Bj.2.2) := Lib.hid (by rw [← hBj]; exact HB8.out)
  rw [hAj, hBj] at has
  have Has := Lib.hid has
  have hJ := CJoin_ok SA' pA Aj.1 Aj.2.1 Aj.2.2 S3 p3 z.1 z.2.1 z.2.2 w8 HA9.out HZ8.out
  obtain ⟨E3, hE3⟩ : ∃ n, joinE Aj.1 Aj.2.1 Aj.2.2 z.1 z.2.1 z.2.2 = n := ⟨_, rfl⟩
  rw [hE3] at hJ
  have HJ := Lib.hid hJ; have HE3 := Lib.hid hE3
  clear hJ hE3 has hAj hBj HA8 HB8
  go_wp2_with fail
  refine HJ.out.mono ?_
  clear HJ
  rintro e w9 ⟨rfl, SA'', hA'', htA, hsA⟩
  have hb09 : Below w.heap.size w w9 := ((touch_below hb08 SA').trans htA).below (fun j hj => by have := RA'.out j hj; have := HZs.out; omega) (Nat.le_refl _)
  have HLA : Hid (∀ j ∈ SA', j < w7.heap.size) := Lib.hid fun j hj => by have := RA'.out j hj; have := HZs.out; have := HZs7.out; omega
  have RA'' : Hid (∀ j ∈ SA'', (w3.heap.size ≤ j ∧ j < w4.heap.size) ∨ w6.heap.size ≤ j) := Lib.hid fun j hj => (hsA j hj).elim (fun h => (RA'.out j h).imp id fun h => h.1) (fun h => .inr (by have := HZs7.out; have := HZs8.out; omega))
  have HC9 := Lib.hid (HC8.out.off htA fun j hj hj' => by have := RA'.out j hj'; have := RC.out j hj; have := HZs.out; omega)
  have HB10 := Lib.hid (HB9.out.off htA fun j hj hj' => by have := RA'.out j hj'; have := HLA.out j hj'; have := RB'.out j hj; have := HZs.out; omega)
  have HA10 := Lib.hid hA''
  clear hA'' htA hsA HA9 HB9 HC8 HZ8 hb08
  have hJ := CJoin_ok SC pC x.1 x.2.1 x.2.2 SB' pB Bj.1 Bj.2.1 Bj.2.2 w9 HC9.out HB10.out
  rw [← Has.out.1, HE3.out] at hJ
  have HJ := Lib.hid hJ
  clear hJ
  go_wp2_with fail
  refine HJ.out.mono ?_
  clear HJ
  rintro e w10 ⟨rfl, SC', hC', htC, hsC⟩
  have hb10 : Below w.heap.size w w10 := ((touch_below hb09 SC).trans htC).below (fun j hj => by have := RC.out j hj; have := HZs.out; omega) (Nat.le_refl _)
  have HA11 := Lib.hid (HA10.out.off htC fun j hj hj' => by have := RA''.out j hj; have := RC.out j hj'; have := HZs.out; omega)
  have HC11 := Lib.hid hC'
  clear hC' htC hsC HA10 HC9 HB10 hb09 t1 t2
  cases t3 : (E3 != 0)
  case true =>
    go_wp2_with fail
    go_ret
    exact ⟨rfl, hb10⟩
  have hJJ : joinC (Aj.1, Aj.2.1, Aj.2.2) (z.1, z.2.1, z.2.2) = joinC (x.1, x.2.1, x.2.2) (Bj.1, Bj.2.1, Bj.2.2) := Has.out.2 (by rw [HE3.out]; simpa using t3)
  rw [hJJ] at HA11
  have hS := CSame_ok _ _ _ _ _ _ _ _ w10 HA11.out.O HC11.out.O
  rw [decide_eq_true rfl, decide_eq_true rfl, decide_eq_true rfl] at hS
  have HS := Lib.hid hS
  clear hS hJJ
  go_wp2_with fail
  refine HS.out.mono ?_
  rintro e w11 ⟨rfl, hb11⟩
  go_wp2_with fail
  go_ret
  exact ⟨rfl, below_trans hb10 hb11⟩

set_option maxRecDepth 100000 in
theorem grpC_lifted (os : Os) (started : os.Started) (H : Type) (enc : TypeId × Value → H) :
    ReturnsInHanded {} Tryz.checked os 9 .any (Rows.corpusGroupsSpec.pre6 enc Tryz.prog Tryz.f9 Rows.corpusGroupsRow.domain false) (Rows.corpusGroupsSpec.post enc Tryz.prog Tryz.f9 false true false false) := by
  refine returnsInHanded_of_change (C := Tryz.checked) Try.own started (by kernel_rfl) Tryz.func9
    (ChangeSpec.witness6 (enc := enc) (C := Tryz.checked) false ⟨#[], #[.slice none 0 0, .slice none 0 0, .slice none 0 0], []⟩ 8 (by kernel_rfl) (by kernel_rfl) (by kernel_rfl) (by kernel_rfl)) ?_
  intro W base args ds gs before hval0 hW hcnd _
  have hval : ∀ (j : Nat) t v, Tryz.f9.params[j]? = some t → args[j]? = some v → Value.okWide Tryz.prog W .any base t v := hval0
  have hW' := hW
  obtain ⟨p, q, hA0, hV, rfl, hfz, hnd⟩ := hW
  have hA : DataW.TrodAll enc Tryz.prog W 0 (fun _ => true) true Tryz.f9.params.toList args.toList ds p := hA0
  rw [Tryz.params9] at hA hval
  obtain ⟨v0, v1, v2, d0, d1, d2, p0, p1, p2, rfl, rfl, rfl, h0, h1, h2⟩ := trodAll_three hA
  obtain ⟨rfl, rfl⟩ := trodVars_none hV
  have k0 := h0
  have lt0 : ∀ x ∈ p0, x.block < W.heap.size := by obtain ⟨m, hm⟩ := k0; exact DataW.trod_lt m _ _ _ hm
  obtain ⟨x0, hx0⟩ := opens_opsC (hval 0 22 v0 rfl rfl) h0
  have k1 := h1
  have lt1 : ∀ x ∈ p1, x.block < W.heap.size := by obtain ⟨m, hm⟩ := k1; exact DataW.trod_lt m _ _ _ hm
  obtain ⟨x1, hx1⟩ := opens_opsC (hval 1 22 v1 rfl rfl) h1
  have k2 := h2
  have lt2 : ∀ x ∈ p2, x.block < W.heap.size := by obtain ⟨m, hm⟩ := k2; exact DataW.trod_lt m _ _ _ hm
  obtain ⟨x2, hx2⟩ := opens_opsC (hval 2 22 v2 rfl rfl) h2
  clear hA0 hval0
  refine (grpC_walk v0 x0 v1 x1 v2 x2 W hx0 hx1 hx2).mono fun e W' ⟨he, bel⟩ => ?_
  subst he
  exact ⟨_, rfl, _, _, _, [], _, [], hW', trodAll_mk1 (shut_bool Tryz.underlying4 _), trodAll_mk3 (Below.trod Try.laidOut (by kernel_rfl) (of_decide_eq_true (by kernel_rfl)) k0 bel lt0) (Below.trod Try.laidOut (by kernel_rfl) (of_decide_eq_true (by kernel_rfl)) k1 bel lt1) (Below.trod Try.laidOut (by kernel_rfl) (of_decide_eq_true (by kernel_rfl)) k2 bel lt2), rfl, bel.frame _, fun h => by cases h⟩

theorem grpC_holds : Rows.CorpusGroupsSaid :=
  OpenClaim.holds_of_wide 9 Tryz.f9 rfl rfl rfl rfl rfl rfl rfl ⟨rfl, rfl, rfl, rfl, rfl⟩ rfl rfl rfl rfl rfl (by kernel_rfl) Tryz.func9 holGrpC_closed
    (of_decide_eq_true (by kernel_rfl)) (by unfold Func.isWrapper; first | (rw [if_pos (by decide +kernel)]; kernel_rfl) | (rw [if_neg (by decide +kernel)]; exact ⟨rfl, rfl⟩))
    (fun os started H enc _ => grpC_lifted os started H enc)
end Go.Proofs.YthnckicnnhkkaaaGreat
