/- Law CorpusMatchesReference. -/
import Derived.Test.YthnckicnnhkkaaaGreatSamA
import Derived.Test.YthnckicnnhkkaaaGreatAwkC
import Derived.Test.YthnckicnnhkkaaaGreatRows
import Derived.Test.YthnckicnnhkkaaaGreatHolMatC
namespace Go.Proofs.YthnckicnnhkkaaaGreat
open Go.RowKit Go.Shelf Go.ChangeShapes Go.WideShapes Go.ChangeAt Go.Maps

set_option maxHeartbeats 8000000 in
set_option maxRecDepth 100000 in
theorem matC_walk (v : Value) (l : List OpC) (w : World) (h : OpsC w v l) :
    Calls Tryz.prog 3 #[v] w fun e w' => e = .returned (.bool true) ∧ Below w.heap.size w w' := by
  obtain ⟨A, c, rfl, hlc, hcm, hcl⟩ := h.at
  have HCl := Lib.hid hcl; have HO := Lib.hid h.2
  clear hcl h
  go_enter Tryz.func3, Tryz.ntmps3
  go_wp2_with fail
  refine (wake52_ok _).mono ?_
  rintro e w0 ⟨rfl, hb0⟩
  by_cases hfew : (30 : Int) < ((l.length : Nat) : Int)
  · go_wp2_with fail
    refine (wake52_ok _).mono ?_
    rintro e w1 ⟨rfl, hb1⟩
    go_wp2_with fail
    go_ret
    exact ⟨rfl, below_trans hb0 hb1⟩
  have hbk := hb0
  clear hb0
  go_wp2_with fail
  refine (CNew_ok _).mono ?_
  rintro e w1 ⟨p, S0, rfl, hc1, hS0, hb1⟩
  have HC1 := Lib.hid hc1; have HS0 := Lib.hid hS0
  clear hc1 hS0
  go_wp2_with fail
  refine (RNew_ok w1).mono ?_
  rintro e w2 ⟨q, T0, rfl, hr2, hT0, hb2⟩
  have HR2 := Lib.hid hr2; have HT0 := Lib.hid hT0
  have hb12 := below_trans hb1 hb2
  clear hr2 hT0
  go_wp2_with fail
  go_loopw [5] (fun t6 wr => ∃ (k : Nat) (S T : List Nat), k ≤ l.length ∧ t6 = .int .i64 k ∧ Hid (CorAt wr S p (doAll (l.take k)).1 (doAll (l.take k)).2.1 (doAll (l.take k)).2.2 ∧ RCorAt wr T q (doAll (l.take k)).1 (doAll (l.take k)).2.1 (doAll (l.take k)).2.2 ∧ (∀ b ∈ S, b ∉ T) ∧ (∀ b ∈ S, w.heap.size ≤ b) ∧ (∀ b ∈ T, w.heap.size ≤ b)) ∧ Below w.heap.size w wr) (fun t _ => l.length - (intOf t).toNat)
  case atStart =>
    refine ⟨0, S0, T0, Nat.zero_le _, rfl, Lib.hid ⟨HC1.out.below hb2, HR2.out, fun b hb hb' => ?_, fun b hb => ?_, fun b hb => ?_⟩, below_trans hbk hb12⟩
    · have h1 := HT0.out b hb'
      have h2 := HC1.out.lt b hb
      omega
    · have h1 := HS0.out b hb
      have := hbk.size
      omega
    · have h1 := HT0.out b hb
      have := (below_trans hbk hb1).size
      omega
  case round =>
    obtain ⟨k, S, T, hk, rfl, HI, hb⟩ := hrel
    by_cases hlt : k < l.length
    · obtain ⟨x, hx⟩ := get_of_lt hlt
      obtain ⟨b, o, rfl, hcc⟩ := HCl.out _ (lt_of_get hx)
      have hwx := HO.out x (List.mem_of_getElem? hx)
      have Hst := Lib.hid (doAll_snoc hx); have HCC := Lib.hid fun w' hw => hcc w' hw k x hx
      have hl1 : (k : Int) < (l.length : Int) := by omega
      obtain ⟨hc, hr, hd, hS, hT⟩ := HI.out
      have HR := Lib.hid hr; have HD := Lib.hid hd; have HS := Lib.hid hS; have HT := Lib.hid hT
      have hz := hb.size
      have HD1 := Lib.hid fun w3 (h3 : Below wr.heap.size wr w3) => do_ok S p (doAll (l.take k)) x w3 (hc.below h3) hwx
      have HD2 := Lib.hid fun w3 h3 => RDo_ok T q (doAll (l.take k)) x w3 h3
      obtain ⟨E, hE⟩ : ∃ z, doE (doAll (l.take k)) x = z := ⟨_, rfl⟩
      rw [hE] at HD1 HD2
      clear hcc hx hwx hc hr hd hS hT HI hE
      go_wp2_with fail
      refine wp_region_S 12 (fun w' : World => Below w.heap.size w w') (by kernel_rfl) (by decide) ?_
      obtain ⟨wa, hwa⟩ : ∃ W, wr.drew = W := ⟨_, rfl⟩
      rw [hwa]
      have hda : Below wr.heap.size wr wa := by rw [← hwa]; exact (Below.refl _ _).drew
      have hHeld : (fun w' : World => Below w.heap.size w w') wa := below_trans hb hda
      have hza := hda.size
      clear hwa
      refine wpAnyS_takeD 0 (some 22) (.pointer (some ⟨p, 0, none⟩)) (by rfl) (by rfl) (by kernel_rfl) (by exact fun _ _ _ h => h) (by rfl) (fun w' hS => by go_simp) hHeld ?_
      simp only [Act.put, List.setIfInBounds_toArray, List.set_cons_succ, List.set_cons_zero]
      refine wpAnyS_takeD 1 (some 23) (.slice (some ⟨b, o, none⟩) l.length c) (by rfl) (by rfl) (by kernel_rfl) (by exact fun _ _ _ h => h) (by rfl) (fun w' hS => by go_simp) hHeld ?_
      simp only [Act.put, List.setIfInBounds_toArray, List.set_cons_succ, List.set_cons_zero]
      refine wpAnyS_takeD 2 (some 24) (.int .i64 k) (by rfl) (by rfl) (by kernel_rfl) (by exact fun _ _ _ h => h) (by rfl) (fun w' hS => by go_simp) hHeld ?_
      simp only [Act.put, List.setIfInBounds_toArray, List.set_cons_succ, List.set_cons_zero]
      refine wpAnyS_takeD 3 (some 25) (.pointer (some ⟨b, o + k * 16, none⟩)) (by rfl) (by rfl) (by kernel_rfl) (by exact fun _ _ _ h => h) (by rfl) (fun w' hS => by go_simp) hHeld ?_
      simp only [Act.put, List.setIfInBounds_toArray, List.set_cons_succ, List.set_cons_zero]
      refine wpAnyS_takeD 4 (some 26) (valOp x) (by rfl) (by rfl) (by kernel_rfl) (by exact fun _ _ _ h => h) (by rfl) (fun w' hS => by (obtain ⟨c0, c1, c2, c3, c4, c5, c6, c7, c8, c9, c10, c11, c12, c13, c14, c15⟩ := HCC.out w' hS; unfold valOp; go_simp)) hHeld ?_
      simp only [Act.put, List.setIfInBounds_toArray, List.set_cons_succ, List.set_cons_zero]
      refine wpAnyS_takeD 6 (some 28) (.pointer (some ⟨q, 0, none⟩)) (by rfl) (by rfl) (by kernel_rfl) (by exact fun _ _ _ h => h) (by rfl) (fun w' hS => by go_simp) hHeld ?_
      simp only [Act.put, List.setIfInBounds_toArray, List.set_cons_succ, List.set_cons_zero]
      refine wpAnyS_takeD 7 (some 29) (.slice (some ⟨b, o, none⟩) l.length c) (by rfl) (by rfl) (by kernel_rfl) (by exact fun _ _ _ h => h) (by rfl) (fun w' hS => by go_simp) hHeld ?_
      simp only [Act.put, List.setIfInBounds_toArray, List.set_cons_succ, List.set_cons_zero]
      refine wpAnyS_takeD 8 (some 30) (.int .i64 k) (by rfl) (by rfl) (by kernel_rfl) (by exact fun _ _ _ h => h) (by rfl) (fun w' hS => by go_simp) hHeld ?_
      simp only [Act.put, List.setIfInBounds_toArray, List.set_cons_succ, List.set_cons_zero]
      refine wpAnyS_takeD 9 (some 31) (.pointer (some ⟨b, o + k * 16, none⟩)) (by rfl) (by rfl) (by kernel_rfl) (by exact fun _ _ _ h => h) (by rfl) (fun w' hS => by go_simp) hHeld ?_
      simp only [Act.put, List.setIfInBounds_toArray, List.set_cons_succ, List.set_cons_zero]
      refine wpAnyS_takeD 10 (some 32) (valOp x) (by rfl) (by rfl) (by kernel_rfl) (by exact fun _ _ _ h => h) (by rfl) (fun w' hS => by (obtain ⟨c0, c1, c2, c3, c4, c5, c6, c7, c8, c9, c10, c11, c12, c13, c14, c15⟩ := HCC.out w' hS; unfold valOp; go_simp)) hHeld ?_
      simp only [Act.put, List.setIfInBounds_toArray, List.set_cons_succ, List.set_cons_zero]
      refine wpAnyS_one 5 (by kernel_rfl) (by rfl) (by decide) (fun K hK => ?_)
      have HK := Lib.hid hK; clear hK
      rw [if_pos (by rfl)]
      go_simp
      refine (HD1.out wa hda).mono ?_
      rintro e w3 ⟨rfl, S', hc3, ht3, hs3⟩
      have hS3 : ∀ b ∈ S', w.heap.size ≤ b := fun b hb' => by
        rcases hs3 b hb' with h | h
        · exact HS.out b h
        · omega
      have HR3 := Lib.hid ((HR.out.below hda).off ht3 fun b hbT hbS => HD.out b hbS hbT)
      have hD3 : ∀ b ∈ S', b ∉ T := fun b hb' => by
        rcases hs3 b hb' with h | h
        · exact HD.out b h
        · intro hT; have := HR.out.lt b hT; omega
      have hb3 := ((touch_below (show Below w.heap.size w wa from hHeld) S).trans ht3).below HS.out (Nat.le_refl _)
      have HC3 := Lib.hid hc3; have HS3 := Lib.hid hS3; have HD3 := Lib.hid hD3
      clear hc3 ht3 hs3 hS3 hD3 hHeld
      have hHeld : (fun w' : World => Below w.heap.size w w') w3 := hb3
      refine HK.out _ _ hHeld ?_
      clear HK
      refine wpAnyS_one 11 (by kernel_rfl) (by rfl) (by decide) (fun K hK => ?_)
      have HK := Lib.hid hK; clear hK
      rw [if_pos (by rfl)]
      go_simp
      refine (HD2.out w3 HR3.out).mono ?_
      rintro e w4 ⟨rfl, T', hr4, ht4, hs4⟩
      have hT4 : ∀ b ∈ T', w.heap.size ≤ b := fun b hb' => by
        rcases hs4 b hb' with h | h
        · exact HT.out b h
        · have := hb3.size; omega
      have HC4 := Lib.hid (HC3.out.off ht4 fun b hbS hbT => HD3.out b hbS hbT)
      have hD4 : ∀ b ∈ S', b ∉ T' := fun b hbS hbT => by
        rcases hs4 b hbT with h | h
        · exact HD3.out b hbS h
        · have := HC3.out.lt b hbS; omega
      have hb4 := ((touch_below hb3 T).trans ht4).below HT.out (Nat.le_refl _)
      have HR4 := Lib.hid hr4; have HT4 := Lib.hid hT4; have HD4 := Lib.hid hD4
      clear hr4 ht4 hs4 hT4 hD4 hHeld
      refine HK.out _ _ hb4 ?_
      clear HK
      refine (show tailOf _ _ _ _ _ _ _ _ from ⟨by kernel_rfl, ?_⟩)
      simp only [List.drop_succ_cons, List.drop_zero]
      have tE : (E != E) = false := by simp
      go_wp2_with fail
      refine ⟨?rel, ?measure⟩
      case rel => exact ⟨k + 1, S', T', by omega, by go_num, Lib.hid ⟨by rw [Hst.out]; exact HC4.out, by rw [Hst.out]; exact HR4.out, HD4.out, HS3.out, HT4.out⟩, hb4⟩
      case measure => simp [intOf]; omega
    · have he : l.take k = l := List.take_of_length_le (by omega)
      rw [he] at HI
      obtain ⟨hc, hr, hd, hS, hT⟩ := HI.out
      have HSm := Lib.hid (same_ok S T p q _ _ _ wr hc hr)
      clear he hc hr hd hS hT HI
      go_wp2_with fail
      refine HSm.out.mono ?_
      rintro e w3 ⟨rfl, hb3⟩
      go_wp2_with fail
      go_ret
      exact ⟨rfl, below_trans hb hb3⟩

set_option maxRecDepth 100000 in
theorem matC_lifted (os : Os) (started : os.Started) (H : Type) (enc : TypeId × Value → H) :
    ReturnsInHanded {} Tryz.checked os 3 .any (Rows.corpusMatchesReferenceSpec.pre6 enc Tryz.prog Tryz.f3 Rows.corpusMatchesReferenceRow.domain false) (Rows.corpusMatchesReferenceSpec.post enc Tryz.prog Tryz.f3 false true false false) := by
  refine returnsInHanded_of_change (C := Tryz.checked) Try.own started (by kernel_rfl) Tryz.func3
    (ChangeSpec.witness6 (enc := enc) (C := Tryz.checked) false ⟨#[], #[.slice none 0 0], []⟩ 8 (by kernel_rfl) (by kernel_rfl) (by kernel_rfl) (by kernel_rfl)) ?_
  intro W base args ds gs before hval0 hW hcnd _
  have hval : ∀ (j : Nat) t v, Tryz.f3.params[j]? = some t → args[j]? = some v → Value.okWide Tryz.prog W .any base t v := hval0
  have hW' := hW
  obtain ⟨p, q, hA0, hV, rfl, hfz, hnd⟩ := hW
  have hA : DataW.TrodAll enc Tryz.prog W 0 (fun _ => true) true Tryz.f3.params.toList args.toList ds p := hA0
  rw [Tryz.params3] at hA hval
  obtain ⟨v0, d0, rfl, rfl, h0⟩ := trodAll_one hA
  obtain ⟨rfl, rfl⟩ := trodVars_none hV
  have k0 := h0
  have lt0 : ∀ x ∈ p, x.block < W.heap.size := by obtain ⟨m, hm⟩ := k0; exact DataW.trod_lt m _ _ _ hm
  obtain ⟨x0, hx0⟩ := opens_opsC (hval 0 22 v0 rfl rfl) h0
  clear hA0 hval0
  refine (matC_walk v0 x0 W hx0).mono fun e W' ⟨he, bel⟩ => ?_
  subst he
  exact ⟨_, rfl, _, _, _, [], _, [], hW', trodAll_mk1 (shut_bool Tryz.underlying4 _), trodAll_mk1 (Below.trod Try.laidOut (by kernel_rfl) (of_decide_eq_true (by kernel_rfl)) k0 bel lt0), rfl, bel.frame _, fun h => by cases h⟩

theorem matC_holds : Rows.CorpusMatchesReferenceSaid :=
  OpenClaim.holds_of_wide 3 Tryz.f3 rfl rfl rfl rfl rfl rfl rfl ⟨rfl, rfl, rfl, rfl, rfl⟩ rfl rfl rfl rfl rfl (by kernel_rfl) Tryz.func3 holMatC_closed
    (of_decide_eq_true (by kernel_rfl)) (by unfold Func.isWrapper; first | (rw [if_pos (by decide +kernel)]; kernel_rfl) | (rw [if_neg (by decide +kernel)]; exact ⟨rfl, rfl⟩))
    (fun os started H enc _ => matC_lifted os started H enc)
end Go.Proofs.YthnckicnnhkkaaaGreat
