/- JoiningFull. No condition. -/
import Derived.Test.YtcpobcfncmcakaaAwkT
import Derived.Test.YtcpobcfncmcakaaFullP
import Derived.Test.YtcpobcfncmcakaaOpenW
import Derived.Test.YtcpobcfncmcakaaRows
namespace Go.Proofs.Ytcpobcfncmcakaa
open Go.RowKit Go.Shelf Go.ChangeShapes Go.WideShapes Go.ChangeAt

theorem below_touch1 {w a b : World} {q : Nat} (h : Below w.heap.size w a) (ht : Touch a b [q]) (hq : w.heap.size ≤ q) : Below w.heap.size w b := ((touch_below h [q]).trans ht).below (by simpa using hq) (Nat.le_refl _)
set_option maxHeartbeats 8000000 in
set_option maxRecDepth 100000 in
theorem full_walk (n : Nat) (b : Bool) (w : World) (hn : n < 256) :
    Calls Try.prog 4 #[.int .u8 (n : Int), .bool b] w fun e w' => e = .returned (.bool true) ∧ Below w.heap.size w w' := by
  cases b
  · go_enter Try.func4, Try.ntmps4
    go_wp2_with fail
    refine (wake17_ok _).mono ?_
    rintro e w1 ⟨rfl, hb1⟩
    go_wp2_with fail
    refine (NewTracker_ok _).mono ?_
    rintro e w2 ⟨q, rfl, hT, hq0, hb2⟩
    have hw2 := below_trans hb1 hb2
    have hqw : w.heap.size ≤ q := by have := hb1.size; omega
    go_wp2_with fail
    go_loopw [7] (fun i wr => ∃ k : Nat, k ≤ 32 ∧ i = .int .i64 ((k : Int) + 1) ∧ TrAt wr q (coinsF false k) ∧ Below w.heap.size w wr) (fun i _ => 32 + 1 - (intOf i).toNat)
    case atStart => exact ⟨0, Nat.zero_le _, rfl, hT, hw2⟩
    case round =>
      clear hT
      obtain ⟨k, hk, rfl, hTr, hwr⟩ := hrel
      by_cases hlt : k < 32
      · have hn1 : (k : Int) ≤ 64 := by omega
        have hn0 : (0 : Int) ≤ (k : Int) := by omega
        have hd : decide ((k : Int) + 1 ≤ 32) = true := by simp; omega
        go_wp2_with fail
        refine (coin_ok ((k : Int) + 1) 1 1 _).mono ?_
        rintro e w3 ⟨rfl, hb3⟩
        have hT3 := hTr.below hb3
        have hw3 := below_trans hwr hb3
        obtain ⟨V1, V2, hV1, hV2, HzV2, hkV1, hkV2, hbV2, hltV2⟩ := fresh w3 [.int .i64 0, .int .i64 0, .int .i64 0, .int .i64 0, .int .i64 0, .int .i64 0, .int .i64 0] [.int .i64 ((coinS ((k : Int) + 1) 1 1)).id, .int .i64 ((coinS ((k : Int) + 1) 1 1)).obv, .int .i64 ((coinS ((k : Int) + 1) 1 1)).rev, .int .i64 ((coinS ((k : Int) + 1) 1 1)).os, .int .i64 ((coinS ((k : Int) + 1) 1 1)).rs, .int .i64 ((coinS ((k : Int) + 1) 1 1)).ax, .int .i64 ((coinS ((k : Int) + 1) 1 1)).wt] 30 rfl
        have hsV2 : ((((((V1.setCell ⟨w3.heap.size, 0, none⟩ (.int .i64 ((coinS ((k : Int) + 1) 1 1)).id)).setCell ⟨w3.heap.size, 1, none⟩ (.int .i64 ((coinS ((k : Int) + 1) 1 1)).obv)).setCell ⟨w3.heap.size, 2, none⟩ (.int .i64 ((coinS ((k : Int) + 1) 1 1)).rev)).setCell ⟨w3.heap.size, 3, none⟩ (.int .i64 ((coinS ((k : Int) + 1) 1 1)).os)).setCell ⟨w3.heap.size, 4, none⟩ (.int .i64 ((coinS ((k : Int) + 1) 1 1)).rs)).setCell ⟨w3.heap.size, 5, none⟩ (.int .i64 ((coinS ((k : Int) + 1) 1 1)).ax)).setCell ⟨w3.heap.size, 6, none⟩ (.int .i64 ((coinS ((k : Int) + 1) 1 1)).wt) = V2 := hV2
        clear hV2
        obtain ⟨⟨z0, z1, z2, z3, z4, z5, z6⟩, f0, f1, f2, f3, f4, f5, f6⟩ := cellsS hkV1
        clear hkV1
        obtain ⟨⟨s0, s1, s2, s3, s4, s5, s6⟩, _⟩ := cellsS hkV2
        go_wp2_with fail
        have hbV3 : Below w3.heap.size w3 (V2.setCell ⟨w3.heap.size, 1, none⟩ (.int .i64 ((k : Int) + 1))) := hbV2.grown (setCells_grown w3.heap.size [.int .i64 ((k : Int) + 1)] V2 1) hbV2.size (fun j e => by cases e; exact Nat.le_refl _)
        obtain ⟨V3, hV3⟩ : ∃ z, V2.setCell ⟨w3.heap.size, 1, none⟩ (.int .i64 ((k : Int) + 1)) = z := ⟨_, rfl⟩
        rw [hV3] at hbV3 ⊢
        have hAE := Lib.hid (show addE (coinsF false k) (coinS ((k : Int) + 1) ((k : Int) + 1) 1) = 0 from addF_E false hlt)
        have hAB := Lib.hid (show addB (coinsF false k) (coinS ((k : Int) + 1) ((k : Int) + 1) 1) = false from addF_B false hlt)
        have hAL := Lib.hid (show addL (coinsF false k) (coinS ((k : Int) + 1) ((k : Int) + 1) 1) = coinsF false (k + 1) from addF_L false hlt)
        refine (Add_ok q (coinsF false k) (coinS ((k : Int) + 1) ((k : Int) + 1) 1) _ (hT3.below hbV3)).mono ?_
        rintro e w5 ⟨rfl, hT5, hTT⟩
        rw [hAL.out] at hT5
        rw [hAE.out, hAB.out]
        have hw5 := below_touch1 (below_trans hw3 hbV3) hTT hqw
        clear hTT hTr hT3 hV3 hsV2 hV1 z0 z1 z2 z3 z4 z5 z6 f0 f1 f2 f3 f4 f5 f6 s0 s1 s2 s3 s4 s5 s6
        go_wp2_with fail
        refine ⟨?rel, ?measure⟩
        case rel => exact ⟨k + 1, by omega, by go_num, hT5, hw5⟩
        case measure => first | (simp [intOf]; done) | (simp [intOf]; omega)
      · obtain rfl : k = 32 := by omega
        have hd : decide (((32 : Nat) : Int) + 1 ≤ 32) = false := by decide
        have hn0 : (0 : Int) ≤ (n : Int) := by omega
        have hn1 : (n : Int) ≤ 255 := by omega
        have hE6 := Lib.hid (show addE (coinsF false 32) (coinS 1000 (100 + (n : Int)) 1) = 6 from fullF false n hn)
        have hE8 := Lib.hid (show addE (coinsF false 32) (coinS 1 1 1) = 8 from dupF false)
        have hC1 := Lib.hid (show ((growL (coinsF false 32)).count : Int) = 1 by rw [show (growL (coinsF false 32)).count = 1 from countF false]; rfl)
        have hS := Lib.hid (show coinsF false 32 = coinsF false (32 - 1) ++ [coinF false (((32 - 1 : Nat) : Int) + 1)] from coinsF_snoc false (32 - 1))
        have hE0 := Lib.hid (show addE (coinsF false (32 - 1)) (coinS 1000 (100 + (n : Int)) 1) = 0 from lastF false n hn)
        have hC2 := Lib.hid (show ((growL (coinsF false (32 - 1) ++ [coinS 1000 (100 + (n : Int)) 1])).count : Int) = 1 by rw [show (growL (coinsF false (32 - 1) ++ [coinS 1000 (100 + (n : Int)) 1])).count = 1 from lastF_count false n]; rfl)
        clear hk hlt hb1 hb2 hn
        go_wp2_with fail
        refine (coin_ok 1000 (100 + (n : Int)) 1 _).mono ?_
        rintro e w6 ⟨rfl, hb6⟩
        have hT6 := hTr.below hb6
        have hw6 := below_trans hwr hb6
        clear hTr
        go_wp2_with fail
        refine (Add_ok q (coinsF false 32) (coinS 1000 (100 + (n : Int)) 1) _ hT6).mono ?_
        rintro e w7 ⟨rfl, hT7, hTT7⟩
        have hB7 := (add_no (l := coinsF false 32) (s := coinS 1000 (100 + (n : Int)) 1) (by rw [hE6.out]; decide))
        rw [hB7.2] at hT7
        rw [hB7.1, hE6.out]
        have hw7 := below_touch1 hw6 hTT7 hqw
        clear hT6 hTT7 hB7
        go_wp2_with fail
        refine (coin_ok 1 1 1 _).mono ?_
        rintro e w8 ⟨rfl, hb8⟩
        have hT8 := hT7.below hb8
        have hw8 := below_trans hw7 hb8
        clear hT7
        go_wp2_with fail
        refine (Add_ok q (coinsF false 32) (coinS 1 1 1) _ hT8).mono ?_
        rintro e w9 ⟨rfl, hT9, hTT9⟩
        have hB9 := (add_no (l := coinsF false 32) (s := coinS 1 1 1) (by rw [hE8.out]; decide))
        rw [hB9.2] at hT9
        rw [hB9.1, hE8.out]
        have hw9 := below_touch1 hw8 hTT9 hqw
        clear hT8 hTT9 hB9
        go_wp2_with fail
        refine (Components_ok q _ _ hT9).mono ?_
        rintro e wa ⟨rfl, hba⟩
        rw [hC1.out]
        have hTa := hT9.below hba
        have hwa := below_trans hw9 hba
        rw [hS.out] at hTa
        clear hT9
        go_wp2_with fail
        refine (Undo_ok q (coinsF false (32 - 1)) _ _ hTa).mono ?_
        rintro e wb ⟨rfl, hTb, hTTb⟩
        have hwb := below_touch1 hwa hTTb hqw
        clear hTa hTTb
        go_wp2_with fail
        refine (coin_ok 1000 (100 + (n : Int)) 1 _).mono ?_
        rintro e wc ⟨rfl, hbc⟩
        have hTc := hTb.below hbc
        have hwc := below_trans hwb hbc
        clear hTb
        go_wp2_with fail
        refine (Add_ok q (coinsF false (32 - 1)) (coinS 1000 (100 + (n : Int)) 1) _ hTc).mono ?_
        rintro e wd ⟨rfl, hTd, hTTd⟩
        rw [(add_yes hE0.out).2] at hTd
        rw [hE0.out]
        have hwd := below_touch1 hwc hTTd hqw
        generalize addB (coinsF false (32 - 1)) (coinS 1000 (100 + (n : Int)) 1) = BB
        clear hTc hTTd
        go_wp2_with fail
        refine (Components_ok q _ _ hTd).mono ?_
        rintro e we ⟨rfl, hbe⟩
        rw [hC2.out]
        go_wp2_with fail
        go_ret
        exact ⟨rfl, below_trans hwd hbe⟩
  · go_enter Try.func4, Try.ntmps4
    go_wp2_with fail
    refine (wake17_ok _).mono ?_
    rintro e w1 ⟨rfl, hb1⟩
    go_wp2_with fail
    refine (NewTracker_ok _).mono ?_
    rintro e w2 ⟨q, rfl, hT, hq0, hb2⟩
    have hw2 := below_trans hb1 hb2
    have hqw : w.heap.size ≤ q := by have := hb1.size; omega
    go_wp2_with fail
    go_loopw [7] (fun i wr => ∃ k : Nat, k ≤ 64 ∧ i = .int .i64 ((k : Int) + 1) ∧ TrAt wr q (coinsF true k) ∧ Below w.heap.size w wr) (fun i _ => 64 + 1 - (intOf i).toNat)
    case atStart => exact ⟨0, Nat.zero_le _, rfl, hT, hw2⟩
    case round =>
      clear hT
      obtain ⟨k, hk, rfl, hTr, hwr⟩ := hrel
      by_cases hlt : k < 64
      · have hn1 : (k : Int) ≤ 64 := by omega
        have hn0 : (0 : Int) ≤ (k : Int) := by omega
        have hd : decide ((k : Int) + 1 ≤ 64) = true := by simp; omega
        go_wp2_with fail
        refine (coin_ok ((k : Int) + 1) 1 1 _).mono ?_
        rintro e w3 ⟨rfl, hb3⟩
        have hT3 := hTr.below hb3
        have hw3 := below_trans hwr hb3
        obtain ⟨V1, V2, hV1, hV2, HzV2, hkV1, hkV2, hbV2, hltV2⟩ := fresh w3 [.int .i64 0, .int .i64 0, .int .i64 0, .int .i64 0, .int .i64 0, .int .i64 0, .int .i64 0] [.int .i64 ((coinS ((k : Int) + 1) 1 1)).id, .int .i64 ((coinS ((k : Int) + 1) 1 1)).obv, .int .i64 ((coinS ((k : Int) + 1) 1 1)).rev, .int .i64 ((coinS ((k : Int) + 1) 1 1)).os, .int .i64 ((coinS ((k : Int) + 1) 1 1)).rs, .int .i64 ((coinS ((k : Int) + 1) 1 1)).ax, .int .i64 ((coinS ((k : Int) + 1) 1 1)).wt] 30 rfl
        have hsV2 : ((((((V1.setCell ⟨w3.heap.size, 0, none⟩ (.int .i64 ((coinS ((k : Int) + 1) 1 1)).id)).setCell ⟨w3.heap.size, 1, none⟩ (.int .i64 ((coinS ((k : Int) + 1) 1 1)).obv)).setCell ⟨w3.heap.size, 2, none⟩ (.int .i64 ((coinS ((k : Int) + 1) 1 1)).rev)).setCell ⟨w3.heap.size, 3, none⟩ (.int .i64 ((coinS ((k : Int) + 1) 1 1)).os)).setCell ⟨w3.heap.size, 4, none⟩ (.int .i64 ((coinS ((k : Int) + 1) 1 1)).rs)).setCell ⟨w3.heap.size, 5, none⟩ (.int .i64 ((coinS ((k : Int) + 1) 1 1)).ax)).setCell ⟨w3.heap.size, 6, none⟩ (.int .i64 ((coinS ((k : Int) + 1) 1 1)).wt) = V2 := hV2
        clear hV2
        obtain ⟨⟨z0, z1, z2, z3, z4, z5, z6⟩, f0, f1, f2, f3, f4, f5, f6⟩ := cellsS hkV1
        clear hkV1
        obtain ⟨⟨s0, s1, s2, s3, s4, s5, s6⟩, _⟩ := cellsS hkV2
        go_wp2_with fail
        have hAE := Lib.hid (show addE (coinsF true k) (coinS ((k : Int) + 1) 1 1) = 0 from addF_E true hlt)
        have hAB := Lib.hid (show addB (coinsF true k) (coinS ((k : Int) + 1) 1 1) = false from addF_B true hlt)
        have hAL := Lib.hid (show addL (coinsF true k) (coinS ((k : Int) + 1) 1 1) = coinsF true (k + 1) from addF_L true hlt)
        refine (Add_ok q (coinsF true k) (coinS ((k : Int) + 1) 1 1) _ (hT3.below hbV2)).mono ?_
        rintro e w5 ⟨rfl, hT5, hTT⟩
        rw [hAL.out] at hT5
        rw [hAE.out, hAB.out]
        have hw5 := below_touch1 (below_trans hw3 hbV2) hTT hqw
        clear hTT hTr hT3 z0 z1 z2 z3 z4 z5 z6 f0 f1 f2 f3 f4 f5 f6 s0 s1 s2 s3 s4 s5 s6
        go_wp2_with fail
        refine ⟨?rel, ?measure⟩
        case rel => exact ⟨k + 1, by omega, by go_num, hT5, hw5⟩
        case measure => first | (simp [intOf]; done) | (simp [intOf]; omega)
      · obtain rfl : k = 64 := by omega
        have hd : decide (((64 : Nat) : Int) + 1 ≤ 64) = false := by decide
        have hn0 : (0 : Int) ≤ (n : Int) := by omega
        have hn1 : (n : Int) ≤ 255 := by omega
        have hE6 := Lib.hid (show addE (coinsF true 64) (coinS 1000 (100 + (n : Int)) 1) = 6 from fullF true n hn)
        have hE8 := Lib.hid (show addE (coinsF true 64) (coinS 1 1 1) = 8 from dupF true)
        have hC1 := Lib.hid (show ((growL (coinsF true 64)).count : Int) = 1 by rw [show (growL (coinsF true 64)).count = 1 from countF true]; rfl)
        have hS := Lib.hid (show coinsF true 64 = coinsF true (64 - 1) ++ [coinF true (((64 - 1 : Nat) : Int) + 1)] from coinsF_snoc true (64 - 1))
        have hE0 := Lib.hid (show addE (coinsF true (64 - 1)) (coinS 1000 (100 + (n : Int)) 1) = 0 from lastF true n hn)
        have hC2 := Lib.hid (show ((growL (coinsF true (64 - 1) ++ [coinS 1000 (100 + (n : Int)) 1])).count : Int) = 1 by rw [show (growL (coinsF true (64 - 1) ++ [coinS 1000 (100 + (n : Int)) 1])).count = 1 from lastF_count true n]; rfl)
        clear hk hlt hb1 hb2 hn
        go_wp2_with fail
        refine (coin_ok 1000 (100 + (n : Int)) 1 _).mono ?_
        rintro e w6 ⟨rfl, hb6⟩
        have hT6 := hTr.below hb6
        have hw6 := below_trans hwr hb6
        clear hTr
        go_wp2_with fail
        refine (Add_ok q (coinsF true 64) (coinS 1000 (100 + (n : Int)) 1) _ hT6).mono ?_
        rintro e w7 ⟨rfl, hT7, hTT7⟩
        have hB7 := (add_no (l := coinsF true 64) (s := coinS 1000 (100 + (n : Int)) 1) (by rw [hE6.out]; decide))
        rw [hB7.2] at hT7
        rw [hB7.1, hE6.out]
        have hw7 := below_touch1 hw6 hTT7 hqw
        clear hT6 hTT7 hB7
        go_wp2_with fail
        refine (coin_ok 1 1 1 _).mono ?_
        rintro e w8 ⟨rfl, hb8⟩
        have hT8 := hT7.below hb8
        have hw8 := below_trans hw7 hb8
        clear hT7
        go_wp2_with fail
        refine (Add_ok q (coinsF true 64) (coinS 1 1 1) _ hT8).mono ?_
        rintro e w9 ⟨rfl, hT9, hTT9⟩
        have hB9 := (add_no (l := coinsF true 64) (s := coinS 1 1 1) (by rw [hE8.out]; decide))
        rw [hB9.2] at hT9
        rw [hB9.1, hE8.out]
        have hw9 := below_touch1 hw8 hTT9 hqw
        clear hT8 hTT9 hB9
        go_wp2_with fail
        refine (Components_ok q _ _ hT9).mono ?_
        rintro e wa ⟨rfl, hba⟩
        rw [hC1.out]
        have hTa := hT9.below hba
        have hwa := below_trans hw9 hba
        rw [hS.out] at hTa
        clear hT9
        go_wp2_with fail
        refine (Undo_ok q (coinsF true (64 - 1)) _ _ hTa).mono ?_
        rintro e wb ⟨rfl, hTb, hTTb⟩
        have hwb := below_touch1 hwa hTTb hqw
        clear hTa hTTb
        go_wp2_with fail
        refine (coin_ok 1000 (100 + (n : Int)) 1 _).mono ?_
        rintro e wc ⟨rfl, hbc⟩
        have hTc := hTb.below hbc
        have hwc := below_trans hwb hbc
        clear hTb
        go_wp2_with fail
        refine (Add_ok q (coinsF true (64 - 1)) (coinS 1000 (100 + (n : Int)) 1) _ hTc).mono ?_
        rintro e wd ⟨rfl, hTd, hTTd⟩
        rw [(add_yes hE0.out).2] at hTd
        rw [hE0.out]
        have hwd := below_touch1 hwc hTTd hqw
        generalize addB (coinsF true (64 - 1)) (coinS 1000 (100 + (n : Int)) 1) = BB
        clear hTc hTTd
        go_wp2_with fail
        refine (Components_ok q _ _ hTd).mono ?_
        rintro e we ⟨rfl, hbe⟩
        rw [hC2.out]
        go_wp2_with fail
        go_ret
        exact ⟨rfl, below_trans hwd hbe⟩
theorem full_walk' (n : Int) (b : Bool) (w : World) (hn : (Lit.int .u8 n).wf = true) :
    Calls Try.prog 4 #[.int .u8 n, .bool b] w fun e w' => e = .returned (.bool true) ∧ Below w.heap.size w w' := by
  have e1 : IntKind.u8.min = 0 := by decide
  have e2 : IntKind.u8.max = 255 := by decide
  simp only [Lit.wf, Bool.and_eq_true, decide_eq_true_eq, e1, e2] at hn
  obtain ⟨k, rfl⟩ : ∃ k : Nat, n = k := ⟨n.toNat, by omega⟩
  exact full_walk k b w (by omega)

set_option maxRecDepth 100000 in
theorem full_lifted (os : Os) (started : os.Started) (H : Type) (enc : TypeId × Value → H) :
    ReturnsInHanded {} Try.checked os 4 .any (Rows.joiningFullSpec.pre6 enc Try.prog Try.f4 Rows.joiningFullRow.domain false) (Rows.joiningFullSpec.post enc Try.prog Try.f4 false true false false) := by
  refine returnsInHanded_of_change (C := Try.checked) Try.own started (by kernel_rfl) Try.func4
    (ChangeSpec.witness6 (enc := enc) (C := Try.checked) false ⟨#[], #[.int .u8 0, .bool false], []⟩ 8 (by kernel_rfl) (by kernel_rfl) (by kernel_rfl) (by kernel_rfl)) ?_
  intro W base args ds gs before hval0 hW hcnd _
  have hval : ∀ (j : Nat) t v, Try.f4.params[j]? = some t → args[j]? = some v → Value.okWide Try.prog W .any base t v := hval0
  have hW' := hW
  obtain ⟨p, q, hA0, hV, rfl, hfz, hnd⟩ := hW
  have hA : DataW.TrodAll enc Try.prog W 0 (fun _ => true) true Try.f4.params.toList args.toList ds p := hA0
  rw [Try.params4] at hA hval
  obtain ⟨v0, v1, d0, d1, p0, p1, rfl, rfl, rfl, h0, h1⟩ := trodAll_two hA
  obtain ⟨rfl, rfl⟩ := trodVars_none hV
  obtain ⟨n0, rfl, rfl, rfl, wn0⟩ := open_int Try.underlying5 (hval 0 5 v0 rfl rfl) h0
  obtain ⟨n1, rfl, rfl, rfl⟩ := open_bool Try.underlying4 (hval 1 4 v1 rfl rfl) h1
  clear hA0 hval0
  refine (full_walk' n0 n1 W wn0).mono fun e W' ⟨he, bel⟩ => ?_
  subst he
  exact ⟨_, rfl, _, _, _, [], _, [], hW', trodAll_mk1 (shut_bool Try.underlying4 _), trodAll_mk2 (shut_int Try.underlying5 wn0) (shut_bool Try.underlying4 _), rfl, bel.frame _, fun h => by cases h⟩

theorem full_holds : Rows.JoiningFullSaid :=
  OpenClaim.holds_of_wide 4 Try.f4 rfl rfl rfl rfl rfl rfl rfl ⟨rfl, rfl, rfl, rfl, rfl⟩ rfl rfl rfl rfl rfl (by kernel_rfl) Try.func4 (by kernel_rfl)
    (of_decide_eq_true (by kernel_rfl)) (by unfold Func.isWrapper; first | (rw [if_pos (by decide +kernel)]; kernel_rfl) | (rw [if_neg (by decide +kernel)]; exact ⟨rfl, rfl⟩))
    (fun os started H enc _ => full_lifted os started H enc)
end Go.Proofs.Ytcpobcfncmcakaa
