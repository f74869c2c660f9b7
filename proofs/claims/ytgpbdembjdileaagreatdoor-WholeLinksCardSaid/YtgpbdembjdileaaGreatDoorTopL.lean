/- WholeLinks. No condition. -/
import Derived.Test.YtgpbdembjdileaaGreatDoorTopE
import Derived.Test.YtgpbdembjdileaaGreatDoorGroD
import Derived.Test.YtgpbdembjdileaaGreatDoorOpen
import Derived.Test.YtgpbdembjdileaaGreatDoorRows
import Derived.Test.YtgpbdembjdileaaGreatDoorCards
import Derived.Test.YtgpbdembjdileaaGreatDoorTie
import Derived.LaidMore
import Derived.ProofKit
namespace Go.Proofs.YtgpbdembjdileaaGreatDoor
open Go.RowKit Go.Shelf Go.ChangeShapes Go.WideShapes Go.ChangeAt Go.Maps

set_option maxHeartbeats 8000000 in
set_option maxRecDepth 100000 in
theorem links_walk (v : Value) (l : List Spec) (da db : Die) (w : World) (h : Specs w v l) (hda : wfD da) (hdb : wfD db) :
    Calls Tryz.prog 3 #[v, vlD da, vlD db] w fun e w' => e = .returned (.bool true) ∧ Below w.heap.size w w' := by
  obtain ⟨X0, hX0, HzX0, hbX0, hltX0, hcX0⟩ := boxed w #[.int .i64 da.side, .int .i64 da.num] 24
  obtain ⟨X1, hX1, HzX1, hbX1, hltX1, hcX1⟩ := boxed X0 #[.int .i64 db.side, .int .i64 db.num] 24
  have hX := below_trans hbX0 hbX1
  have h0 := h
  have a0 := cell_later hbX1 (hcX0 0 _ rfl); have a1 := cell_later hbX1 (hcX0 1 _ rfl)
  have b0 := hcX1 0 _ rfl; have b1 := hcX1 1 _ rfl
  clear hcX0 hcX1
  obtain ⟨A, c, rfl, hlc, hcm, hc⟩ := h.cells
  go_enter Tryz.func3, Tryz.ntmps3
  go_wp2_with fail
  refine (wakeT_ok _).mono ?_
  rintro e w1 ⟨rfl, hb1⟩
  have hw1 := below_trans hX hb1
  by_cases h14 : l.length ≤ 14
  case neg =>
    have d : (14 : Int) < (l.length : Int) := by omega
    clear hc a0 a1 b0 b1
    go_wp2_with fail
    refine (wakeT_ok _).mono ?_
    rintro e w2 ⟨rfl, hb2⟩
    go_wp2_with fail
    go_ret
    exact ⟨rfl, below_trans hw1 hb2⟩
  have d : (l.length : Int) ≤ 14 := by omega
  have a0 := cell_later hb1 a0; have a1 := cell_later hb1 a1; have b0 := cell_later hb1 b0; have b1 := cell_later hb1 b1
  have hX1' := hb1
  clear hX0 hX1 hb1
  go_wp2_with fail
  refine (Of_ok _ l _ (h0.below hw1)).mono ?_
  rintro e w2 ⟨ug, rfl, hg0, hb2⟩
  have hg0' := hg0
  obtain ⟨v1, v2, v3, rfl, ⟨A1x, c1x, rfl, _⟩, ⟨A2x, c2x, rfl, _⟩, ⟨A3x, c3x, rfl, _⟩⟩ := hg0
  obtain ⟨W1, W2, hW1, hW2, HzW2, hkW1, hkW2, hbW2, hltW2⟩ := fresh w2 [.slice none 0 0, .slice none 0 0, .slice none 0 0] [.slice A1x (ofG (l)).obv.length c1x, .slice A2x (ofG (l)).rev.length c2x, .slice A3x (ofG (l)).links.length c3x] 29 rfl
  have hsW2 : ((W1.setCell ⟨w2.heap.size, 0, none⟩ (.slice A1x (ofG (l)).obv.length c1x)).setCell ⟨w2.heap.size, 1, none⟩ (.slice A2x (ofG (l)).rev.length c2x)).setCell ⟨w2.heap.size, 2, none⟩ (.slice A3x (ofG (l)).links.length c3x) = W2 := hW2
  clear hW2
  obtain ⟨⟨z0x, z1x, z2x⟩, f0x, f1x, f2x⟩ := cells3 hkW1
  obtain ⟨⟨s0x, s1x, s2x⟩, _⟩ := cells3 hkW2
  clear hkW1 hkW2
  have hb22 := below_trans hb2 hbW2
  have a0 := cell_later hb22 a0; have a1 := cell_later hb22 a1; have b0 := cell_later hb22 b0; have b1 := cell_later hb22 b1
  have hGx := hg0'.below hbW2
  have hw2 := below_trans hw1 hb22
  go_wp2_with fail
  clear z0x z1x z2x f0x f1x f2x hsW2 hW1
  refine (History_ok _ l _ (h0.below hw2)).mono ?_
  rintro e w3 ⟨uh, rfl, hh, hb3⟩
  have a0 := cell_later hb3 a0; have a1 := cell_later hb3 a1; have b0 := cell_later hb3 b0; have b1 := cell_later hb3 b1
  have s0x := cell_later hb3 s0x; have s1x := cell_later hb3 s1x; have s2x := cell_later hb3 s2x
  have hGx := hGx.below hb3
  have hw3 := below_trans hw2 hb3
  go_wp2_with fail
  refine (First_ok _ l da db _ (h0.below hw3) hda hdb).mono ?_
  rintro e w4 ⟨rfl, hb4⟩
  have a0 := cell_later hb4 a0; have a1 := cell_later hb4 a1; have b0 := cell_later hb4 b0; have b1 := cell_later hb4 b1
  have s0x := cell_later hb4 s0x; have s1x := cell_later hb4 s1x; have s2x := cell_later hb4 s2x
  have hGx := hGx.below hb4
  have hh := hh.below hb4
  have hw4 := below_trans hw3 hb4
  have HG4 := Lib.hid hGx
  by_cases hE : ofE l = 0
  case neg =>
    have hd : (ofE l != 0) = true := by simpa using hE
    have hf : firstR l da db = (0, ofE l) := by rw [firstR, if_neg hE]
    rw [hf]
    clear hc hf a0 a1 b0 b1 s0x s1x s2x hh hGx
    generalize ofE l = E at hd ⊢
    clear hE
    go_wp2_with fail
    go_ret
    exact ⟨by simp, hw4⟩
  have hd : (ofE l != 0) = false := by simp [hE]
  have HE := Lib.hid hE
  have HV := Lib.hid (show validE (ofG l) = 0 by simp [validE, of_valid hE])
  have HCk := Lib.hid (show checkE l = 0 from (ofE_zero hE).1)
  have hcc := count_chains hE
  have HJG := Lib.hid (show joinG (ofG l) da db = joinB (edgesS l) da db by rw [joinG, of_valid hE, join_of hE, Bool.true_and])
  have hfc := first_cases hE da db
  rw [show histR l = histT l l.length by rw [histR, if_pos hE]] at hh
  obtain ⟨E1, E2, hE12⟩ : ∃ a b, firstR l da db = (a, b) := ⟨_, _, rfl⟩
  obtain ⟨J, hJ⟩ : ∃ J, joinB (edgesS l) da db = J := ⟨_, rfl⟩
  have HJ := Lib.hid hJ
  rw [hE12, hJ] at hfc
  rw [hE12, hE]
  have hEJ : (E2 == 0) = J := by
    rcases hfc with ⟨h1, h2⟩ | ⟨_, _, _, h1, h2, _⟩
    · cases h1; rw [h2]; rfl
    · cases h1; rw [h2]; rfl
  have HFC := Lib.hid hfc; have HEJ := Lib.hid hEJ
  obtain ⟨Ah, ch, rfl, _, _, hhc⟩ := hh.cells
  rw [histT_len] at hh hhc ⊢
  clear hE hfc hE12 hJ hEJ hd
  go_wp2_with fail
  refine (Chains_ok _ (ofG l) _ hGx).mono ?_
  rintro e w5 ⟨uc, hs, rfl, hch, hb5⟩
  rw [HV.out]
  obtain ⟨Ac, cc, rfl⟩ := hch.len_le
  obtain ⟨C, hC⟩ : ∃ C : Nat, (growL l).count = C := ⟨_, rfl⟩
  have HC := Lib.hid hC
  rw [hcc, hC]
  clear hC
  have a0 := cell_later hb5 a0; have a1 := cell_later hb5 a1; have b0 := cell_later hb5 b0; have b1 := cell_later hb5 b1
  have s0x := cell_later hb5 s0x; have s1x := cell_later hb5 s1x; have s2x := cell_later hb5 s2x
  have hGx := hGx.below hb5
  have hw5 := below_trans hw4 hb5
  have hb45 := hb5
  clear hch hcc
  go_wp2_with fail
  refine (NewTracker_ok _).mono ?_
  rintro e w6 ⟨q, rfl, hT, hq0, hb6⟩
  have a0 := cell_later hb6 a0; have a1 := cell_later hb6 a1; have b0 := cell_later hb6 b0; have b1 := cell_later hb6 b1
  have s0x := cell_later hb6 s0x; have s1x := cell_later hb6 s1x; have s2x := cell_later hb6 s2x
  have hGx := hGx.below hb6
  have hw6 := below_trans hw5 hb6
  have hb46 := below_trans hb45 hb6
  go_wp2_with fail
  refine (Check_ok _ l _ (h0.below hw6)).mono ?_
  rintro e w7 ⟨rfl, hb7⟩
  rw [HCk.out]
  have a0 := cell_later hb7 a0; have a1 := cell_later hb7 a1; have b0 := cell_later hb7 b0; have b1 := cell_later hb7 b1
  have s0x := cell_later hb7 s0x; have s1x := cell_later hb7 s1x; have s2x := cell_later hb7 s2x
  have hGx := hGx.below hb7
  have hT := hT.below hb7
  have hw7 := below_trans hw6 hb7
  have hb47 := below_trans hb46 hb7
  have hqw : w4.heap.size ≤ q := by have := hb45.size; omega
  have hX0q : w.heap.size ∉ [q] ∧ X0.heap.size ∉ [q] ∧ w2.heap.size ∉ [q] := by
    have := hX1'.size; have := HzX0.out; have := HzX1.out; have := hb2.size; have := hb3.size; have := hb4.size
    simp; omega
  clear hb45 hb46
  go_wp2_with fail
  go_loopw [16] (fun iv wr => ∃ k : Nat, k ≤ l.length ∧ iv = .int .i64 k ∧ TrAt wr q (l.take k) ∧ Touch w7 wr [q]) (fun iv _ => l.length - (intOf iv).toNat)
  case atStart => exact ⟨0, Nat.zero_le _, rfl, hT, Touch.refl _ _⟩
  case round =>
    clear hT
    obtain ⟨k, hk, rfl, hTr, hTT⟩ := hrel
    have hb4r : Below w4.heap.size w4 wr := ((touch_below hb47 [q]).trans hTT).below (by simpa using hqw) (Nat.le_refl _)
    have hwr := below_trans hw4 hb4r
    by_cases hlt : k < l.length
    · obtain ⟨bo, o, rfl, _, hcb⟩ := hc k hlt
      obtain ⟨bh, oh, rfl, _, hhcb⟩ := hhc k hlt
      obtain ⟨x, hx⟩ := get_of_lt hlt
      obtain ⟨t1, t2, t3⟩ := add_take HE.out hx
      have HY := Lib.hid (fun w' hb' => hcb w' hb' k x hx)
      have hz := fun w' hb' => hhcb w' hb' k _ (histT_get l hlt)
      have hco : Calls Tryz.prog 12 #[.pointer (some ⟨q, 0, none⟩)] wr fun e w' => e = .returned (.int .i64 (cntL l k)) ∧ Below wr.heap.size wr w' := Components_ok q (l.take k) wr hTr
      have had := fun w' (hT' : TrAt w' q (l.take k)) => Add_ok q (l.take k) x w' hT'
      rw [t1, t2, t3] at had
      have hcn : ∀ w', TrAt w' q (l.take (k + 1)) → Calls Tryz.prog 12 #[.pointer (some ⟨q, 0, none⟩)] w' fun e w'' => e = .returned (.int .i64 (cntL l (k + 1))) ∧ Below w'.heap.size w' w'' := fun w' hT' => Components_ok q (l.take (k + 1)) w' hT'
      generalize cntL l k = C0 at hco had
      generalize cntL l (k + 1) = C1 at hz had hcn
      have HZ := Lib.hid hz; have Hco := Lib.hid hco; have Had := Lib.hid had; have Hcn := Lib.hid hcn
      have hk1 : (k : Int) < (l.length : Int) := by omega
      have hk0 : (0 : Int) ≤ (k : Int) := by omega
      clear hc hcb hhc hhcb hx t1 t2 t3 hz hco had hcn a0 a1 b0 b1 s0x s1x s2x
      go_wp2_with fail
      refine Hco.out.mono ?_
      rintro e w8 ⟨rfl, hb8⟩
      have hT8 := hTr.below hb8
      have hw8 := below_trans hwr hb8
      obtain ⟨y0, y1, y2, y3, y4, y5, y6⟩ := HY.out w8 hw8
      clear Hco
      go_wp2_with fail
      refine (Had.out w8 hT8).mono ?_
      rintro e w9 ⟨rfl, hT9, hTT9⟩
      have hTT99 := (hTT.trans (touch_below hb8 [q])).trans hTT9
      have hb49 : Below w4.heap.size w4 w9 := ((touch_below hb47 [q]).trans hTT99).below (by simpa using hqw) (Nat.le_refl _)
      have Z0 := Later.cell_all (HZ.out w9 hb49)
      have H1 := Lib.hid (fun y : Later w9 => Hcn.out y.to (hT9.below y.h))
      clear y0 y1 y2 y3 y4 y5 y6 Had hTr hT8 hTT
      go_wp2_with fail
      refine wp_region_later (by kernel_rfl) (by kernel_rfl) ?_
      repeat (go_big_quiet_step (first | (go_at_call 12; with_reducible exact calls_later (H1.out _))))
      refine wpQuiet_nil ?_
      intro _ hw'
      obtain ⟨xq, hw''⟩ := hw'
      subst hw''
      have hbz := xq.h
      generalize xq.to = wz at hbz ⊢
      have hTz := hT9.below hbz
      have hTTz := hTT99.trans (touch_below hbz [q])
      clear H1 Z0
      go_wp2_with fail
      refine ⟨?rel, ?measure⟩
      case rel => exact ⟨k + 1, by omega, by go_num, hTz, hTTz⟩
      case measure => first | (simp [intOf]; done) | (simp [intOf]; omega)
    · have ek : k = l.length := by omega
      rw [ek, List.take_length] at hTr
      have a0 := cell_off hTT hX0q.1 a0; have a1 := cell_off hTT hX0q.1 a1; have b0 := cell_off hTT hX0q.2.1 b0; have b1 := cell_off hTT hX0q.2.1 b1
      have s0x := cell_off hTT hX0q.2.2 s0x; have s1x := cell_off hTT hX0q.2.2 s1x; have s2x := cell_off hTT hX0q.2.2 s2x
      have hGr := HG4.out.below hb4r
      have hc1 := fun y : Later wr => Components_ok q l y.to (hTr.below y.h)
      have hj1 := fun y : Later wr => Joined_ok q l da db y.to (hTr.below y.h) hda hdb
      have hj2 := fun y : Later wr => cJoined_ok _ (ofG l) da db y.to (hGr.below y.h) hda hdb
      rw [HC.out] at hc1
      rw [HJ.out] at hj1
      rw [HJG.out, HJ.out] at hj2
      have hEJ := HEJ.out
      rcases HFC.out with ⟨h1, h2⟩ | ⟨k0, s0, hs0, h1, h2, h3, h4⟩
      · cases h1; subst h2
        have H1 := Lib.hid hc1; have H2 := Lib.hid hj1; have H3 := Lib.hid hj2
        clear hc1 hj1 hj2 hc hTr hGr
        rcases Nat.eq_zero_or_pos l.length with hl0 | hl0
        · have A0 := Later.cell_all a0; have A1 := Later.cell_all a1; have B0 := Later.cell_all b0; have B1 := Later.cell_all b1
          have S0x := Later.cell_all s0x; have S1x := Later.cell_all s1x; have S2x := Later.cell_all s2x
          clear hhc
          go_wp2_with fail
          refine wp_region_later (by kernel_rfl) (by kernel_rfl) ?_
          repeat (go_big_quiet_step (first | (go_at_call 12; with_reducible exact calls_later (H1.out _)) | (go_at_call 14; with_reducible exact calls_later (H2.out _)) | (go_at_call 15; with_reducible exact calls_later (H3.out _))))
          refine wpQuiet_nil ?_
          intro _ hw'
          obtain ⟨xq, hw''⟩ := hw'
          subst hw''
          have hbz := xq.h
          generalize xq.to = wz at hbz ⊢
          clear A0 A1 B0 B1 S0x S1x S2x a0 a1 b0 b1 s0x s1x s2x H1 H2 H3
          go_wp2_with fail
          go_ret
          exact ⟨rfl, below_trans hwr hbz⟩
        · obtain ⟨m, hm⟩ : ∃ m, l.length = m + 1 := ⟨l.length - 1, by omega⟩
          obtain ⟨bh, oh, rfl, _, hhcb⟩ := hhc m (by omega)
          have Z := hhcb wr hb4r m _ (histT_get l (show m < l.length by omega))
          rw [show cntL l (m + 1) = (C : Int) by rw [cntL, ← hm, List.take_length, HC.out]] at Z
          have Z0 := Later.cell_all Z
          have hm1 : ((m : Int) + 1) ≤ 64 := by omega
          have hm0 : (0 : Int) ≤ (m : Int) := by omega
          have Hm := Lib.hid hm
          have A0 := Later.cell_all a0; have A1 := Later.cell_all a1; have B0 := Later.cell_all b0; have B1 := Later.cell_all b1
          have S0x := Later.cell_all s0x; have S1x := Later.cell_all s1x; have S2x := Later.cell_all s2x
          rw [hm] at ek ⊢
          have hkm : ¬ k < m + 1 := by omega
          clear hhc hhcb Z hm hlt
          go_wp2_with fail
          refine wp_region_later (by kernel_rfl) (by kernel_rfl) ?_
          repeat (go_big_quiet_step (first | (go_at_call 12; with_reducible exact calls_later (H1.out _)) | (go_at_call 14; with_reducible exact calls_later (H2.out _)) | (go_at_call 15; with_reducible exact calls_later (H3.out _))))
          refine wpQuiet_nil ?_
          intro _ hw'
          obtain ⟨xq, hw''⟩ := hw'
          subst hw''
          have hbz := xq.h
          generalize xq.to = wz at hbz ⊢
          clear A0 A1 B0 B1 S0x S1x S2x s0x s1x s2x H1 H2 H3 Z0
          clear a0 a1 b0 b1
          go_wp2_with fail
          go_ret
          exact ⟨rfl, below_trans hwr hbz⟩
      · cases h1; subst h2
        have H1 := Lib.hid hc1; have H2 := Lib.hid hj1; have H3 := Lib.hid hj2
        have hk0l := lt_of_get hs0
        have hup := fun w' (hh : Specs w' (.slice A l.length c) l) => upTo_ok A c l k0 s0 w' hh hs0 (id_new HE.out hs0)
        have HUp := Lib.hid hup
        have Hs0 := Lib.hid hs0
        have HO0 := Lib.hid (of_take HE.out k0); have HO1 := Lib.hid (of_take HE.out (k0 + 1))
        have HJ0 := Lib.hid (show joinG (ofG (l.take k0)) da db = false by rw [joinG, of_valid (of_take HE.out k0), join_of (of_take HE.out k0), h3]; rfl)
        have HJ1 := Lib.hid (show joinG (ofG (l.take (k0 + 1))) da db = true by rw [joinG, of_valid (of_take HE.out (k0 + 1)), join_of (of_take HE.out (k0 + 1)), h4]; rfl)
        clear hc1 hj1 hj2 hTr hGr hup hs0 h3 h4
        have HS1 := Lib.hid (h0.cut lenS (show k0 + 1 ≤ l.length by omega)); have HS0 := Lib.hid (h0.cut lenS (show k0 ≤ l.length by omega))
        have hl0 : 0 < l.length := by omega
        obtain ⟨m, hm⟩ : ∃ m, l.length = m + 1 := ⟨l.length - 1, by omega⟩
        obtain ⟨bh, oh, rfl, _, hhcb⟩ := hhc m (by omega)
        have Z := hhcb wr hb4r m _ (histT_get l (show m < l.length by omega))
        rw [show cntL l (m + 1) = (C : Int) by rw [cntL, ← hm, List.take_length, HC.out]] at Z
        have Z0 := Later.cell_all Z
        have hm1 : ((m : Int) + 1) ≤ 64 := by omega
        have hm0 : (0 : Int) ≤ (m : Int) := by omega
        have Hm := Lib.hid hm
        have A0 := Later.cell_all a0; have A1 := Later.cell_all a1; have B0 := Later.cell_all b0; have B1 := Later.cell_all b1
        have S0x := Later.cell_all s0x; have S1x := Later.cell_all s1x; have S2x := Later.cell_all s2x
        rw [hm] at ek ⊢
        have hkm : ¬ k < m + 1 := by omega
        clear hhc hhcb Z hm hlt
        go_wp2_with fail
        refine wp_region_later (by kernel_rfl) (by kernel_rfl) ?_
        repeat (go_big_quiet_step (first | (go_at_call 12; with_reducible exact calls_later (H1.out _)) | (go_at_call 14; with_reducible exact calls_later (H2.out _)) | (go_at_call 15; with_reducible exact calls_later (H3.out _))))
        refine wpQuiet_nil ?_
        intro _ hw'
        obtain ⟨xq, hw''⟩ := hw'
        subst hw''
        have hbz := xq.h
        generalize xq.to = wz at hbz ⊢
        clear A0 A1 B0 B1 S0x S1x S2x s0x s1x s2x H1 H2 H3 Z0
        have a0 := cell_later hbz a0; have a1 := cell_later hbz a1; have b0 := cell_later hbz b0; have b1 := cell_later hbz b1
        have hwz := below_trans hwr hbz
        go_wp2_with fail
        have hu1 := HUp.out wz (h0.below hwz)
        rw [Hm.out] at hu1
        refine hu1.mono ?_
        rintro e w10 ⟨rfl, hb10⟩
        have a0 := cell_later hb10 a0; have a1 := cell_later hb10 a1; have b0 := cell_later hb10 b0; have b1 := cell_later hb10 b1
        have hw10 := below_trans hwz hb10
        have hk01 : ((k0 : Int) + 1) ≤ 64 := by omega
        have hk00 : (0 : Int) ≤ (k0 : Int) := by omega
        clear hu1
        go_wp2_with fail
        refine (Of_ok _ (l.take (k0 + 1)) _ (HS1.out.below hw10)).mono ?_
        rintro e w11 ⟨ug, rfl, hg1, hb11⟩
        rw [HO1.out]
        have hg1' := hg1
        obtain ⟨v1, v2, v3, rfl, ⟨A1y, c1y, rfl, _⟩, ⟨A2y, c2y, rfl, _⟩, ⟨A3y, c3y, rfl, _⟩⟩ := hg1
        obtain ⟨U1, U2, hU1, hU2, HzU2, hkU1, hkU2, hbU2, hltU2⟩ := fresh w11 [.slice none 0 0, .slice none 0 0, .slice none 0 0] [.slice A1y (ofG (l.take (k0 + 1))).obv.length c1y, .slice A2y (ofG (l.take (k0 + 1))).rev.length c2y, .slice A3y (ofG (l.take (k0 + 1))).links.length c3y] 29 rfl
        have hsU2 : ((U1.setCell ⟨w11.heap.size, 0, none⟩ (.slice A1y (ofG (l.take (k0 + 1))).obv.length c1y)).setCell ⟨w11.heap.size, 1, none⟩ (.slice A2y (ofG (l.take (k0 + 1))).rev.length c2y)).setCell ⟨w11.heap.size, 2, none⟩ (.slice A3y (ofG (l.take (k0 + 1))).links.length c3y) = U2 := hU2
        clear hU2
        obtain ⟨⟨z0y, z1y, z2y⟩, f0y, f1y, f2y⟩ := cells3 hkU1
        obtain ⟨⟨s0y, s1y, s2y⟩, _⟩ := cells3 hkU2
        clear hkU1 hkU2
        have hb112 := below_trans hb11 hbU2
        have a0 := cell_later hb112 a0; have a1 := cell_later hb112 a1; have b0 := cell_later hb112 b0; have b1 := cell_later hb112 b1
        have hGy := hg1'.below hbU2
        have hw11 := below_trans hw10 hb112
        go_wp2_with fail
        clear z0y z1y z2y f0y f1y f2y hsU2 hU1
        have hu2 := HUp.out U2 (h0.below hw11)
        rw [Hm.out] at hu2
        refine hu2.mono ?_
        rintro e w12 ⟨rfl, hb12⟩
        have a0 := cell_later hb12 a0; have a1 := cell_later hb12 a1; have b0 := cell_later hb12 b0; have b1 := cell_later hb12 b1
        have s0y := cell_later hb12 s0y; have s1y := cell_later hb12 s1y; have s2y := cell_later hb12 s2y
        have hGy := hGy.below hb12
        have hw12 := below_trans hw11 hb12
        have HS0w := Lib.hid (HS0.out.below hw12)
        obtain ⟨bo, o, rfl, _, hcb⟩ := hc k0 hk0l
        have y0 := (hcb w12 hw12 k0 s0 Hs0.out).1
        have hkc : (k0 : Int) + 1 ≤ (c : Int) := by omega
        clear hc hcb hu2 HUp
        go_wp2_with fail
        refine (Of_ok _ (l.take k0) _ HS0w.out).mono ?_
        rintro e w13 ⟨ug, rfl, hg2, hb13⟩
        rw [HO0.out]
        have hg2' := hg2
        obtain ⟨v1, v2, v3, rfl, ⟨A1z, c1z, rfl, _⟩, ⟨A2z, c2z, rfl, _⟩, ⟨A3z, c3z, rfl, _⟩⟩ := hg2
        obtain ⟨P1, P2, hP1, hP2, HzP2, hkP1, hkP2, hbP2, hltP2⟩ := fresh w13 [.slice none 0 0, .slice none 0 0, .slice none 0 0] [.slice A1z (ofG (l.take k0)).obv.length c1z, .slice A2z (ofG (l.take k0)).rev.length c2z, .slice A3z (ofG (l.take k0)).links.length c3z] 29 rfl
        have hsP2 : ((P1.setCell ⟨w13.heap.size, 0, none⟩ (.slice A1z (ofG (l.take k0)).obv.length c1z)).setCell ⟨w13.heap.size, 1, none⟩ (.slice A2z (ofG (l.take k0)).rev.length c2z)).setCell ⟨w13.heap.size, 2, none⟩ (.slice A3z (ofG (l.take k0)).links.length c3z) = P2 := hP2
        clear hP2
        obtain ⟨⟨z0z, z1z, z2z⟩, f0z, f1z, f2z⟩ := cells3 hkP1
        obtain ⟨⟨s0z, s1z, s2z⟩, _⟩ := cells3 hkP2
        clear hkP1 hkP2
        have hb132 := below_trans hb13 hbP2
        have a0 := cell_later hb132 a0; have a1 := cell_later hb132 a1; have b0 := cell_later hb132 b0; have b1 := cell_later hb132 b1
        have s0y := cell_later hb132 s0y; have s1y := cell_later hb132 s1y; have s2y := cell_later hb132 s2y
        have hGy := hGy.below hb132
        have hGz := hg2'.below hbP2
        have hw13 := below_trans hw12 hb132
        clear y0
        go_wp2_with fail
        clear z0z z1z z2z f0z f1z f2z hsP2 hP1
        have hja := cJoined_ok _ (ofG (l.take (k0 + 1))) da db P2 hGy hda hdb
        rw [HJ1.out] at hja
        refine hja.mono ?_
        rintro e w14 ⟨rfl, hb14⟩
        have a0 := cell_later hb14 a0; have a1 := cell_later hb14 a1; have b0 := cell_later hb14 b0; have b1 := cell_later hb14 b1
        have s0z := cell_later hb14 s0z; have s1z := cell_later hb14 s1z; have s2z := cell_later hb14 s2z
        have hGz := hGz.below hb14
        clear s0y s1y s2y hGy hja
        go_wp2_with fail
        have hjb := cJoined_ok _ (ofG (l.take k0)) da db w14 hGz hda hdb
        rw [HJ0.out] at hjb
        refine hjb.mono ?_
        rintro e w15 ⟨rfl, hb15⟩
        clear a0 a1 b0 b1 s0z s1z s2z hGz hjb
        go_wp2_with fail
        go_ret
        exact ⟨rfl, below_trans hw13 (below_trans hb14 hb15)⟩
end Go.Proofs.YtgpbdembjdileaaGreatDoor
/- WholeLinks's card. No condition. -/
namespace Go.Proofs.YtgpbdembjdileaaGreatDoor
open Go.RowKit Go.Shelf Go.ChangeShapes Go.WideShapes Go.ChangeAt Go.WideMaps Go.WideElems Go.Maps

theorem links_walk' (v : Value) (l : List Spec) (da db : Die) (w : World) (h : Specs w v l) (a1 : wfI da.side) (a2 : wfI da.num) (b1 : wfI db.side) (b2 : wfI db.num) :
    Calls Tryz.prog 3 #[v, vlD da, vlD db] w fun e w' => e = .returned (.bool true) ∧ Below w.heap.size w w' := links_walk v l da db w h ⟨a1, a2⟩ ⟨b1, b2⟩
theorem linksT_door (os : Os) (args : Array Value) : laidMetH Tryz.prog Rows.wholeLinksRow.laid ((World.doorLaid Tryz.prog 400 os).forCall (fun _ _ => 0) ⟨#[], args, []⟩).memory :=
  laidMetH_of_parts3 (fuel := 8) (laidMet_of_run' 8 (by kernel_rfl) (by kernel_rfl)) (by kernel_rfl) (by kernel_rfl)
set_option maxRecDepth 100000 in
theorem linksT_lifted (os : Os) (started : os.Started) (H : Type) (enc : TypeId × Value → H) :
    ReturnsInHanded {} Tryz.checked os 3 .any (fun w args => (Rows.wholeLinksSpec.pre enc Tryz.prog Tryz.f3 Rows.wholeLinksRow.domain false w args ∧ laidMetH Tryz.prog Rows.wholeLinksRow.laid w) ∧ sizedMet enc Tryz.prog Tryz.f3 (OpenSpec.ofChange Rows.wholeLinksSpec) false w args) (Rows.wholeLinksSpec.post enc Tryz.prog Tryz.f3 false true false false) := by
  refine returnsInHanded_of_change_and (C := Tryz.checked) (X := fun w _ => laidMetH Tryz.prog Rows.wholeLinksRow.laid w) (fun _ _ _ hh h => h.of_heap hh) (by kernel_rfl) started (by kernel_rfl) Tryz.func3
    (ChangeSpec.witness_shaped (enc := enc) (C := Tryz.checked) (os := os) (X := fun w _ => laidMetH Tryz.prog Rows.wholeLinksRow.laid w) false (World.doorLaid Tryz.prog 400 os) #[.slice none 0 0, .agg #[.int .i64 0, .int .i64 0], .agg #[.int .i64 0, .int .i64 0]] 8 rfl (World.shaped_of_RefB (by kernel_rfl) (by kernel_rfl)) (by kernel_rfl) (by kernel_rfl) (by kernel_rfl) (linksT_door os _)) ?_
  intro W base args ds gs before hval0 hW _ _ _ _
  have hval : ∀ (j : Nat) t v, Tryz.f3.params[j]? = some t → args[j]? = some v → Value.okWide Tryz.prog W .any base t v := hval0
  have hW' := hW
  obtain ⟨p, q, hA0, hV, rfl, hfz, hnd⟩ := hW
  have hA : DataW.TrodAll enc Tryz.prog W 0 (fun _ => true) true Tryz.f3.params.toList args.toList ds p := hA0
  rw [Tryz.params3] at hA hval
  obtain ⟨v0, v1, v2, d0, d1, d2, p0, p1, p2, rfl, rfl, rfl, h0, h1, h2⟩ := trodAll_three hA
  obtain ⟨rfl, rfl⟩ := trodVars_none hV
  have k0 := h0
  have lt0 : ∀ x ∈ p0, x.block < W.heap.size := by obtain ⟨m, hm⟩ := k0; exact DataW.trod_lt m _ _ _ hm
  obtain ⟨x0, hx0⟩ := opens_specs (hval 0 22 v0 rfl rfl) h0
  have k1 := h1
  have lt1 : ∀ x ∈ p1, x.block < W.heap.size := by obtain ⟨m, hm⟩ := k1; exact DataW.trod_lt m _ _ _ hm
  obtain ⟨x1, rfl, wa1, wb1⟩ := opens_die (hval 1 24 v1 rfl rfl) h1
  have k2 := h2
  have lt2 : ∀ x ∈ p2, x.block < W.heap.size := by obtain ⟨m, hm⟩ := k2; exact DataW.trod_lt m _ _ _ hm
  obtain ⟨x2, rfl, wa2, wb2⟩ := opens_die (hval 2 24 v2 rfl rfl) h2
  clear hA0 hval0
  refine (links_walk' v0 x0 x1 x2 W hx0 wa1 wb1 wa2 wb2).mono fun e W' ⟨he, bel⟩ => ?_
  subst he
  exact ⟨_, rfl, _, _, _, [], _, [], hW', trodAll_mk1 (shut_bool Tryz.underlying4 _), trodAll_mk3 (Below.trod Try.laidOut (by kernel_rfl) (of_decide_eq_true (by kernel_rfl)) k0 bel lt0) (Below.trod Try.laidOut (by kernel_rfl) (of_decide_eq_true (by kernel_rfl)) k1 bel lt1) (Below.trod Try.laidOut (by kernel_rfl) (of_decide_eq_true (by kernel_rfl)) k2 bel lt2), rfl, bel.frame _, fun h => by cases h⟩
theorem linksT_holds : Rows.WholeLinksSaid :=
  OpenClaim.holds_of_wide 3 Tryz.f3 rfl rfl rfl rfl rfl rfl rfl ⟨rfl, rfl, rfl, rfl, rfl⟩ rfl rfl rfl rfl rfl (by kernel_rfl) Tryz.func3 (by kernel_rfl)
    (of_decide_eq_true (by kernel_rfl)) (by unfold Func.isWrapper; first | (rw [if_pos (by decide +kernel)]; kernel_rfl) | (rw [if_neg (by decide +kernel)]; exact ⟨rfl, rfl⟩))
    (fun os started H enc _ => linksT_lifted os started H enc)
theorem linksT_card : Rows.WholeLinksCardSaid :=
  Claim7.holds_tied_plain_at .later [] Rows.wholeLinksCard.laidKinds true Rows.wholeLinksCard.stood.harness Rows.wholeLinksCard.stood.looks
    linksT_holds (fun _ h => by cases h) (by kernel_rfl) (fun _ h => by cases h) wholeLinks_row_tie rfl ⟨rfl, rfl⟩ (by kernel_rfl) rfl
    (fun f fn hf hfn => by
      obtain rfl : f = 3 := Option.some.inj ((show Tryz.prog.funcNamed "coinage/coinagetop.WholeLinks" = some 3 by kernel_rfl).symm.trans hf) |>.symm
      obtain rfl : fn = Tryz.f3 := (Option.some.inj (Tryz.func3.symm.trans hfn)).symm
      exact ⟨by kernel_rfl, fun j t ht => by
        rw [Tryz.params3] at ht
        have hm : t ∈ [22, 24, 24] := by simpa using Array.mem_of_getElem? ht
        have hall : ([22, 24, 24].all fun u => !Tryz.prog.wantsStandIn u) = true := by kernel_rfl
        exact (show Tryz.prog.wantsStandIn t = false by simpa using List.all_eq_true.1 hall t hm)⟩)
    (by kernel_rfl)
end Go.Proofs.YtgpbdembjdileaaGreatDoor
