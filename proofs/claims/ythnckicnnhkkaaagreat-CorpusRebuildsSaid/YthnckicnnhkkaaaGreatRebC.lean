/- Law CorpusRebuilds. -/
import Derived.Test.YthnckicnnhkkaaaGreatGooP
import Derived.Test.YthnckicnnhkkaaaGreatAwkC
import Derived.Test.YthnckicnnhkkaaaGreatRows
import Derived.Test.YthnckicnnhkkaaaGreatHolRebC
namespace Go.Proofs.YthnckicnnhkkaaaGreat
open Go.RowKit Go.Shelf Go.ChangeShapes Go.WideShapes Go.ChangeAt Go.Maps

set_option maxHeartbeats 16000000 in
set_option maxRecDepth 100000 in
theorem rebC_walk (v : Value) (l : List OpC) (w : World) (h : OpsC w v l) :
    Calls Tryz.prog 4 #[v] w fun e w' => e = .returned (.bool true) ∧ Below w.heap.size w w' := by
  have HOp := Lib.hid h
  obtain ⟨A, c, rfl, _⟩ := h.at
  obtain ⟨X, hX⟩ : ∃ x, doAll l = x := ⟨_, rfl⟩
  have HG := Lib.hid (good_all l)
  rw [hX] at HG
  have HX := Lib.hid hX
  clear hX h
  obtain ⟨L, D, K⟩ := X
  go_enter Tryz.func4, Tryz.ntmps4
  go_wp2_with fail
  refine (wake52_ok _).mono ?_
  rintro e w0 ⟨rfl, hb0⟩
  by_cases hfew : (30 : Int) < ((l.length : Nat) : Int)
  · go_wp2_with fail
    refine (wake52_ok _).mono ?_
    rintro e w1 ⟨rfl, hb1⟩
    go_wp2_with fail
    go_ret
    exact ⟨rfl, below_trans hb0 hb1⟩
  have hbk := hb0
  clear hb0
  go_wp2_with fail
  have HM := Lib.hid (made_ok _ l _ ⟨HOp.out.1.below hbk, HOp.out.2⟩)
  rw [HX.out] at HM
  clear HOp HX
  refine HM.out.mono ?_
  rintro e w1 ⟨p, q, S, T, rfl, hc, _, _, _, _, hb1⟩
  have hw1 := below_trans hbk hb1
  have HC := Lib.hid hc; have HCl := Lib.hid hc.lt
  clear hc HM
  go_wp2_with fail
  refine (CLedger_ok _ L D K w1 HC.out.O).mono ?_
  rintro e w2 ⟨u, rfl, _, hu, hb2⟩
  obtain ⟨q1, mb, wb, rfl, hl, _⟩ := hu (by simp)
  have HL := Lib.hid hl
  clear hu hl
  go_wp2_with fail
  refine (CNew_ok w2).mono ?_
  rintro e w3 ⟨n, S3, rfl, hn, hS3, hb3⟩
  have HN3 := Lib.hid hn; have HS3 := Lib.hid hS3
  clear hn hS3
  go_wp2_with fail
  refine (LDrawn_ok q1 mb wb D K w3 (HL.out.below hb3) (Nat.le_trans HG.out.ok.lenW (by decide))).mono ?_
  rintro e w4 ⟨uM, rfl, hoM, hb4⟩
  have hb24 := below_trans hb3 hb4
  obtain ⟨AM, cM, rfl, _, hcM, _⟩ := Mrks.cells hoM.slOf
  have HoM := Lib.hid hoM; have HlM : Hid (∀ b ∈ S3, b < w3.heap.size) := Lib.hid HN3.out.lt
  have HN4 := Lib.hid (HN3.out.below hb4)
  have HwM := Lib.hid (HL.out.wfW)
  clear hoM HN3
  go_wp2_with fail
  go_loopw [8] (fun t wr => ∃ (j : Int) (k : Nat) (S : List Nat), k ≤ (K).length ∧ j + 1 = k ∧ t = .int .i64 j ∧ Hid (CorAt wr S n [] [] (K.drop k) ∧ Touch w4 wr S3 ∧ ∀ b ∈ S, b ∈ S3 ∨ w4.heap.size ≤ b)) (fun t _ => (intOf t + 1).toNat)
  case atStart => exact ⟨_, (K).length, S3, Nat.le_refl _, by omega, rfl, Lib.hid ⟨by rw [List.drop_length]; exact HN4.out, touch_below (Below.refl _ _) _, fun b hb => .inl hb⟩⟩
  case round =>
    obtain ⟨j, k, S, hk, hj, rfl, HI⟩ := hrel
    rcases Nat.eq_zero_or_pos k with hk0 | hk0
    case inr =>
      obtain ⟨i, rfl⟩ : ∃ i, k = i + 1 := ⟨k - 1, by omega⟩
      obtain rfl : j = (i : Int) := by omega
      obtain ⟨x, hx⟩ := get_of_lt (show i < (K).length by omega)
      obtain ⟨hc, ht, hs⟩ := HI.out
      obtain ⟨A', c', e', _, _, hcc⟩ := Mrks.cells (HoM.out.touch ht HlM.out).slOf
      cases e'
      obtain ⟨b, o, rfl, _, hcc⟩ := hcc i (lt_of_get hx)
      obtain ⟨c0, c1⟩ := hcc wr (Below.refl _ _) i x hx
      have hl1 : (i : Int) < ((K).length : Int) := by have := lt_of_get hx; omega
      have hl0 : (0 : Int) ≤ (i : Int) := by omega
      have hdr := draw_drop HG.out.srtM HG.out.mrk HG.out.ok.lenW hx
      have hE := CDraw_ok S n [] [] (K.drop (i + 1)) x wr hc (HwM.out x (List.mem_of_getElem? hx))
      rw [hdr.1, hdr.2] at hE
      have HE := Lib.hid hE
      have Ht := Lib.hid ht; have Hs := Lib.hid hs
      clear hE hcc hx hc ht hs HI hdr
      go_wp2_with fail
      refine HE.out.mono ?_
      rintro e w9 ⟨rfl, S', hc', ht', hs'⟩
      have HR : Hid (CorAt w9 S' n [] [] (K.drop i) ∧ Touch w4 w9 S3 ∧ ∀ b ∈ S', b ∈ S3 ∨ w4.heap.size ≤ b) := Lib.hid ⟨hc', Ht.out.fresh ht' Hs.out, fun b hb => (hs' b hb).elim (Hs.out b) (fun h => .inr (by have := Ht.out.size; omega))⟩
      clear hc' ht' hs' HE c0 c1
      go_wp2_with fail
      refine ⟨?rel, ?measure⟩
      case rel => exact ⟨(i : Int) - 1, i, S', by omega, by omega, rfl, HR⟩
      case measure => first | (simp [intOf]; done) | (simp [intOf]; omega)
    subst hk0
    obtain rfl : j = -1 := by omega
    obtain ⟨wo1, hwo0⟩ : ∃ z, z = wr := ⟨_, rfl⟩
    subst hwo0
    rw [List.drop_zero] at HI
    obtain ⟨hc, ht, hs⟩ := HI.out
    have hbo1 : Below w2.heap.size w2 wo1 := ((touch_below hb24 S3).trans ht).below HS3.out (Nat.le_refl _)
    have HS5 : Hid (∀ b ∈ S, w2.heap.size ≤ b) := Lib.hid fun b hb => (hs b hb).elim (HS3.out b) fun h => by have := hb24.size; omega
    obtain ⟨S5, hS5⟩ : ∃ z, z = S := ⟨_, rfl⟩
    rw [← hS5] at hc HS5
    have HN5 := Lib.hid hc
    have HC5 := Lib.hid (HC.out.below (below_trans hb2 hbo1))
    clear hc ht hs HI hS5 HC
    go_wp2_with fail
    refine (LMade_ok q1 mb wb D K wo1 (HL.out.below hbo1) (Nat.le_trans HG.out.ok.lenD (by decide))).mono ?_
    rintro e w5 ⟨uD, rfl, hoD, hb5⟩
    have hb25 := below_trans hbo1 hb5
    obtain ⟨AD, cD, rfl, _, hcD, _⟩ := Decs.cells hoD.slOf
    have HoD := Lib.hid hoD; have HlD : Hid (∀ b ∈ S5, b < wo1.heap.size) := Lib.hid HN5.out.lt
    have HN6 := Lib.hid (HN5.out.below hb5)
    have HC6 := Lib.hid (HC5.out.below hb5)
    have HwD := Lib.hid (HL.out.wfD)
    clear hoD HN5 HC5
    go_wp2_with fail
    go_loopw [10] (fun t wr => ∃ (j : Int) (k : Nat) (S : List Nat), k ≤ (D).length ∧ j + 1 = k ∧ t = .int .i64 j ∧ Hid (CorAt wr S n [] (D.drop k) K ∧ Touch w5 wr S5 ∧ ∀ b ∈ S, b ∈ S5 ∨ w5.heap.size ≤ b)) (fun t _ => (intOf t + 1).toNat)
    case atStart => exact ⟨_, (D).length, S5, Nat.le_refl _, by omega, rfl, Lib.hid ⟨by rw [List.drop_length]; exact HN6.out, touch_below (Below.refl _ _) _, fun b hb => .inl hb⟩⟩
    case round =>
      obtain ⟨j, k, S, hk, hj, rfl, HI⟩ := hrel
      rcases Nat.eq_zero_or_pos k with hk0 | hk0
      case inr =>
        obtain ⟨i, rfl⟩ : ∃ i, k = i + 1 := ⟨k - 1, by omega⟩
        obtain rfl : j = (i : Int) := by omega
        obtain ⟨x, hx⟩ := get_of_lt (show i < (D).length by omega)
        obtain ⟨hc, ht, hs⟩ := HI.out
        obtain ⟨A', c', e', _, _, hcc⟩ := Decs.cells (HoD.out.touch ht HlD.out).slOf
        cases e'
        obtain ⟨b, o, rfl, _, hcc⟩ := hcc i (lt_of_get hx)
        obtain ⟨c0, c1, c2, c3, c4⟩ := hcc wr (Below.refl _ _) i x hx
        have hl1 : (i : Int) < ((D).length : Int) := by have := lt_of_get hx; omega
        have hl0 : (0 : Int) ≤ (i : Int) := by omega
        have hdr := make_drop HG.out.srtD HG.out.ok.dec HG.out.ok.lenD hx
        have hE := CMake_ok S n [] (D.drop (i + 1)) K x wr hc (HwD.out x (List.mem_of_getElem? hx))
        rw [hdr.1, hdr.2] at hE
        have HE := Lib.hid hE
        have Ht := Lib.hid ht; have Hs := Lib.hid hs
        clear hE hcc hx hc ht hs HI hdr
        go_wp2_with fail
        refine HE.out.mono ?_
        rintro e w9 ⟨rfl, S', hc', ht', hs'⟩
        have HR : Hid (CorAt w9 S' n [] (D.drop i) K ∧ Touch w5 w9 S5 ∧ ∀ b ∈ S', b ∈ S5 ∨ w5.heap.size ≤ b) := Lib.hid ⟨hc', Ht.out.fresh ht' Hs.out, fun b hb => (hs' b hb).elim (Hs.out b) (fun h => .inr (by have := Ht.out.size; omega))⟩
        clear hc' ht' hs' HE c0 c1 c2 c3 c4
        go_wp2_with fail
        refine ⟨?rel, ?measure⟩
        case rel => exact ⟨(i : Int) - 1, i, S', by omega, by omega, rfl, HR⟩
        case measure => first | (simp [intOf]; done) | (simp [intOf]; omega)
      subst hk0
      obtain rfl : j = -1 := by omega
      obtain ⟨wo2, hwo0⟩ : ∃ z, z = wr := ⟨_, rfl⟩
      subst hwo0
      rw [List.drop_zero] at HI
      obtain ⟨hc, ht, hs⟩ := HI.out
      have hbo2 : Below w2.heap.size w2 wo2 := ((touch_below hb25 S5).trans ht).below HS5.out (Nat.le_refl _)
      have HS7 : Hid (∀ b ∈ S, w2.heap.size ≤ b) := Lib.hid fun b hb => (hs b hb).elim (HS5.out b) fun h => by have := hb25.size; omega
      obtain ⟨S7, hS7⟩ : ∃ z, z = S := ⟨_, rfl⟩
      rw [← hS7] at hc HS7
      have HN7 := Lib.hid hc
      have HC7 := Lib.hid (HC6.out.off ht fun b hb hb' => by
        have h1 := HC6.out.lt b hb; have h2 := HS5.out b hb'
        have h3 := HCl.out b hb
        have := hb2.size
        omega)
      clear hc ht hs HI hS7 HC6
      go_wp2_with fail
      refine (Specs_ok _ L D K wo2 HC7.out.O).mono ?_
      rintro e w6 ⟨uS, rfl, hoS, hb6⟩
      have hb26 := below_trans hbo2 hb6
      obtain ⟨AS, cS, rfl, _, hcS, _⟩ := Specs.cells hoS.slOf
      have HoS := Lib.hid hoS; have HlS : Hid (∀ b ∈ S7, b < wo2.heap.size) := Lib.hid HN7.out.lt
      have HN8 := Lib.hid (HN7.out.below hb6)
      have HC8 := Lib.hid (HC7.out.below hb6)
      clear hoS HN7 HC7
      go_wp2_with fail
      go_loopw [12] (fun t wr => ∃ (j : Int) (k : Nat) (S : List Nat), k ≤ (L).length ∧ j + 1 = k ∧ t = .int .i64 j ∧ Hid (CorAt wr S n (L.drop k) D K ∧ Touch w6 wr S7 ∧ ∀ b ∈ S, b ∈ S7 ∨ w6.heap.size ≤ b)) (fun t _ => (intOf t + 1).toNat)
      case atStart => exact ⟨_, (L).length, S7, Nat.le_refl _, by omega, rfl, Lib.hid ⟨by rw [List.drop_length]; exact HN8.out, touch_below (Below.refl _ _) _, fun b hb => .inl hb⟩⟩
      case round =>
        obtain ⟨j, k, S, hk, hj, rfl, HI⟩ := hrel
        rcases Nat.eq_zero_or_pos k with hk0 | hk0
        case inr =>
          obtain ⟨i, rfl⟩ : ∃ i, k = i + 1 := ⟨k - 1, by omega⟩
          obtain rfl : j = (i : Int) := by omega
          obtain ⟨x, hx⟩ := get_of_lt (show i < (L).length by omega)
          obtain ⟨hc, ht, hs⟩ := HI.out
          obtain ⟨A', c', e', _, _, hcc⟩ := Specs.cells (HoS.out.touch ht HlS.out).slOf
          cases e'
          obtain ⟨b, o, rfl, _, hcc⟩ := hcc i (lt_of_get hx)
          obtain ⟨c0, c1, c2, c3, c4, c5, c6⟩ := hcc wr (Below.refl _ _) i x hx
          have hl1 : (i : Int) < ((L).length : Int) := by have := lt_of_get hx; omega
          have hl0 : (0 : Int) ≤ (i : Int) := by omega
          have hdr := enter_drop HG.out.ok.lis hx
          have hE := Enter_ok S n (L.drop (i + 1)) D K x wr hc
          rw [hdr.1, hdr.2] at hE
          have HE := Lib.hid hE
          have Ht := Lib.hid ht; have Hs := Lib.hid hs
          clear hE hcc hx hc ht hs HI hdr
          go_wp2_with fail
          refine HE.out.mono ?_
          rintro e w9 ⟨rfl, S', hc', ht', hs'⟩
          have HR : Hid (CorAt w9 S' n (L.drop i) D K ∧ Touch w6 w9 S7 ∧ ∀ b ∈ S', b ∈ S7 ∨ w6.heap.size ≤ b) := Lib.hid ⟨hc', Ht.out.fresh ht' Hs.out, fun b hb => (hs' b hb).elim (Hs.out b) (fun h => .inr (by have := Ht.out.size; omega))⟩
          clear hc' ht' hs' HE c0 c1 c2 c3 c4 c5 c6
          go_wp2_with fail
          refine ⟨?rel, ?measure⟩
          case rel => exact ⟨(i : Int) - 1, i, S', by omega, by omega, rfl, HR⟩
          case measure => first | (simp [intOf]; done) | (simp [intOf]; omega)
        subst hk0
        obtain rfl : j = -1 := by omega
        obtain ⟨wo3, hwo0⟩ : ∃ z, z = wr := ⟨_, rfl⟩
        subst hwo0
        rw [List.drop_zero] at HI
        obtain ⟨hc, ht, hs⟩ := HI.out
        have hbo3 : Below w2.heap.size w2 wo3 := ((touch_below hb26 S7).trans ht).below HS7.out (Nat.le_refl _)
        have HC9 := Lib.hid (HC8.out.off ht fun b hb hb' => by
          have h2 := HS7.out b hb'
          have h3 := HCl.out b hb
          have := hb2.size
          omega)
        have HN9 := Lib.hid hc
        have hw9 := below_trans hw1 (below_trans hb2 hbo3)
        clear hc ht hs HI HC8 HN8
        obtain ⟨Ef, hEf⟩ : ∃ z, effL (standL D K) L = z := ⟨_, rfl⟩
        have HEf := Lib.hid hEf
        clear hEf
        have hE := CChains_ok _ L D K wo3 HC9.out.O
        rw [HEf.out] at hE
        have HE := Lib.hid hE
        clear hE
        go_wp2_with fail
        refine HE.out.mono ?_
        clear HE
        rintro e v1 ⟨uC, rfl, hoC, hv1⟩
        have HoC := Lib.hid hoC
        clear hoC
        have hE := CChains_ok _ L D K v1 (HN9.out.below hv1).O
        rw [HEf.out] at hE
        have HE := Lib.hid hE
        clear hE
        go_wp2_with fail
        refine HE.out.mono ?_
        clear HE
        rintro e v2 ⟨uF, rfl, hoF, hv2⟩
        have HoF := Lib.hid hoF
        have hv12 := below_trans hv1 hv2
        clear hoF
        have hE := CSame_ok _ _ L L D D K K v2 (HN9.out.below hv12).O (HC9.out.below hv12).O
        rw [show (decide (L = L) && (decide (D = D) && decide (K = K))) = true from by simp] at hE
        have HE := Lib.hid hE
        clear hE
        go_wp2_with fail
        refine HE.out.mono ?_
        clear HE
        rintro e v3 ⟨rfl, hv3⟩
        have hv13 := below_trans hv12 hv3
        have hE := CSame_ok _ _ L L D D K K v3 (HC9.out.below hv13).O (HN9.out.below hv13).O
        rw [show (decide (L = L) && (decide (D = D) && decide (K = K))) = true from by simp] at hE
        have HE := Lib.hid hE
        clear hE
        go_wp2_with fail
        refine HE.out.mono ?_
        clear HE
        rintro e v4 ⟨rfl, hv4⟩
        have hv14 := below_trans hv13 hv4
        have hE := Effective_ok _ L D K v4 (HN9.out.below hv14).O
        rw [HEf.out] at hE
        have HE := Lib.hid hE
        clear hE
        go_wp2_with fail
        refine HE.out.mono ?_
        clear HE
        rintro e v5 ⟨uE, rfl, hoE, hv5⟩
        have HoE := Lib.hid hoE
        have hv15 := below_trans hv14 hv5
        clear hoE
        have hE := Effective_ok _ L D K v5 (HC9.out.below hv15).O
        rw [HEf.out] at hE
        have HE := Lib.hid hE
        clear hE
        go_wp2_with fail
        refine HE.out.mono ?_
        clear HE
        rintro e v6 ⟨uG, rfl, hoG, hv6⟩
        have hv16 := below_trans hv15 hv6
        have HQ := Lib.hid (baseSpecs_ok uE uG Ef Ef v6 (HoE.out.slOf.below hv6) hoG.slOf)
        rw [decide_eq_true rfl] at HQ
        clear hoG HoE
        go_wp2_with fail
        refine HQ.out.mono ?_
        clear HQ
        rintro e v7 ⟨rfl, hv7⟩
        have hv17 := below_trans hv16 hv7
        go_wp2_with fail
        refine (Claims_ok _ L D K v7 (HN9.out.below hv17).O).mono ?_
        rintro e v8 ⟨uP, out, rfl, hoP, hcl, _, hv8⟩
        have HoP := Lib.hid hoP; have Hcl := Lib.hid hcl
        have hv18 := below_trans hv17 hv8
        clear hoP hcl
        go_wp2_with fail
        refine (Claims_ok _ L D K v8 (HC9.out.below hv18).O).mono ?_
        rintro e v9 ⟨uR, out', rfl, hoR, hcl', _, hv9⟩
        obtain rfl := ClaL.uniq hcl' Hcl.out
        have hv19 := below_trans hv18 hv9
        have HQ := Lib.hid (basePairs_ok uP uR out' out' v9 (HoP.out.slOf.below hv9) hoR.slOf)
        rw [decide_eq_true rfl] at HQ
        clear hoR hcl' HoP
        go_wp2_with fail
        refine HQ.out.mono ?_
        clear HQ
        rintro e v10 ⟨rfl, hv10⟩
        have hv110 := below_trans hv19 hv10
        have hv210 := below_trans hv3 (below_trans hv4 (below_trans hv5 (below_trans hv6 (below_trans hv7 (below_trans hv8 (below_trans hv9 hv10))))))
        have HQ := Lib.hid (Chains_same uC uF _ _ v10 (HoC.out.below (below_trans hv2 hv210)) (HoF.out.below hv210))
        rw [decide_eq_true rfl] at HQ
        go_wp2_with fail
        refine HQ.out.mono ?_
        clear HQ
        rintro e v11 ⟨rfl, hv11⟩
        have tE : (chaE Ef == chaE Ef) = true := by simp
        go_wp2_with fail
        go_ret
        exact ⟨rfl, below_trans hw9 (below_trans hv110 hv11)⟩

set_option maxRecDepth 100000 in
theorem rebC_lifted (os : Os) (started : os.Started) (H : Type) (enc : TypeId × Value → H) :
    ReturnsInHanded {} Tryz.checked os 4 .any (Rows.corpusRebuildsSpec.pre6 enc Tryz.prog Tryz.f4 Rows.corpusRebuildsRow.domain false) (Rows.corpusRebuildsSpec.post enc Tryz.prog Tryz.f4 false true false false) := by
  refine returnsInHanded_of_change (C := Tryz.checked) Try.own started (by kernel_rfl) Tryz.func4
    (ChangeSpec.witness6 (enc := enc) (C := Tryz.checked) false ⟨#[], #[.slice none 0 0], []⟩ 8 (by kernel_rfl) (by kernel_rfl) (by kernel_rfl) (by kernel_rfl)) ?_
  intro W base args ds gs before hval0 hW hcnd _
  have hval : ∀ (j : Nat) t v, Tryz.f4.params[j]? = some t → args[j]? = some v → Value.okWide Tryz.prog W .any base t v := hval0
  have hW' := hW
  obtain ⟨p, q, hA0, hV, rfl, hfz, hnd⟩ := hW
  have hA : DataW.TrodAll enc Tryz.prog W 0 (fun _ => true) true Tryz.f4.params.toList args.toList ds p := hA0
  rw [Tryz.params4] at hA hval
  obtain ⟨v0, d0, rfl, rfl, h0⟩ := trodAll_one hA
  obtain ⟨rfl, rfl⟩ := trodVars_none hV
  have k0 := h0
  have lt0 : ∀ x ∈ p, x.block < W.heap.size := by obtain ⟨m, hm⟩ := k0; exact DataW.trod_lt m _ _ _ hm
  obtain ⟨x0, hx0⟩ := opens_opsC (hval 0 22 v0 rfl rfl) h0
  clear hA0 hval0
  refine (rebC_walk v0 x0 W hx0).mono fun e W' ⟨he, bel⟩ => ?_
  subst he
  exact ⟨_, rfl, _, _, _, [], _, [], hW', trodAll_mk1 (shut_bool Tryz.underlying4 _), trodAll_mk1 (Below.trod Try.laidOut (by kernel_rfl) (of_decide_eq_true (by kernel_rfl)) k0 bel lt0), rfl, bel.frame _, fun h => by cases h⟩

theorem rebC_holds : Rows.CorpusRebuildsSaid :=
  OpenClaim.holds_of_wide 4 Tryz.f4 rfl rfl rfl rfl rfl rfl rfl ⟨rfl, rfl, rfl, rfl, rfl⟩ rfl rfl rfl rfl rfl (by kernel_rfl) Tryz.func4 holRebC_closed
    (of_decide_eq_true (by kernel_rfl)) (by unfold Func.isWrapper; first | (rw [if_pos (by decide +kernel)]; kernel_rfl) | (rw [if_neg (by decide +kernel)]; exact ⟨rfl, rfl⟩))
    (fun os started H enc _ => rebC_lifted os started H enc)
end Go.Proofs.YthnckicnnhkkaaaGreat
