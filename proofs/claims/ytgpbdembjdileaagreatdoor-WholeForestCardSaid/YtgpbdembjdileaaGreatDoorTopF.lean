/- WholeForest. No condition. -/
import Derived.Test.YtgpbdembjdileaaGreatDoorTopE
import Derived.Test.YtgpbdembjdileaaGreatDoorGroD
import Derived.Test.YtgpbdembjdileaaGreatDoorOpen
import Derived.Test.YtgpbdembjdileaaGreatDoorRows
import Derived.Test.YtgpbdembjdileaaGreatDoorCards
import Derived.Test.YtgpbdembjdileaaGreatDoorTie
import Derived.LaidMore
import Derived.ProofKit
namespace Go.Proofs.YtgpbdembjdileaaGreatDoor
open Go.RowKit Go.Shelf Go.ChangeShapes Go.WideShapes Go.ChangeAt Go.Maps

theorem forest_ids {l : List Spec} (h : ofE l = 0) : choR pickF l = (forL l).map Spec.id := by
  have := choT_forL l l.length (Nat.le_refl _)
  rw [List.take_length] at this
  rw [choR, if_pos h, this]
theorem forest_filter {l : List Spec} (h : ofE l = 0) : l.filter (fun s => hasB ((forL l).map Spec.id) s.id) = forL l := by
  have e : (fun s : Spec => hasB ((forL l).map Spec.id) s.id) = fun s => decide (s.id ∈ (forL l).map Spec.id) := by
    funext s
    rw [Bool.eq_iff_iff, hasB_iff, decide_eq_true_eq]
  rw [e]
  exact filter_sub (forL_facts l).1 (checkE_zero (ofE_zero h).1).2.2
theorem filter_snocF {α : Type} {p : α → Bool} {l : List α} {k : Nat} {x : α} (h : l[k]? = some x) : (l.take (k + 1)).filter p = (l.take k).filter p ++ (if p x = true then [x] else []) := by
  rw [take_snoc' h, List.filter_append]
  congr 1
  cases hp : p x <;> simp [hp]
theorem first_path {l : List Spec} {a b : Die} {p : List Spec} (h : (firstR l a b).2 = 0) (hp : Walk (forL l) a p b) :
    (∀ e ∈ p, hasB ((forL l).map Spec.id) e.id = true) ∧ (a = b → p = []) ∧ (a ≠ b → hasB (p.map Spec.id) (firstR l a b).1 = true) := by
  have hE := (first_con h).1
  refine ⟨fun e he => (hasB_iff _ _).2 (List.mem_map_of_mem (f := Spec.id) (hp.mem e he)), ?_⟩
  unfold firstR at h ⊢
  rw [if_pos hE] at h ⊢
  cases hk : firstK l a b with
  | none => rw [hk] at h; cases h
  | some k =>
    obtain ⟨hkl, _, _, hpe, hpn⟩ := latest hE hk hp
    refine ⟨hpe, fun hne => ?_⟩
    obtain ⟨s, hs, hsp, _⟩ := hpn hne
    rw [hasB_iff]
    simpa [hs] using List.mem_map_of_mem (f := Spec.id) hsp
set_option maxHeartbeats 8000000 in
set_option maxRecDepth 100000 in
theorem forestT_walk (v : Value) (l : List Spec) (da db : Die) (w : World) (h : Specs w v l) (hda : wfD da) (hdb : wfD db) :
    Calls Tryz.prog 4 #[v, vlD da, vlD db] w fun e w' => e = .returned (.bool true) ∧ Below w.heap.size w w' := by
  obtain ⟨X0, hX0, HzX0, hbX0, hltX0, hcX0⟩ := boxed w #[.int .i64 da.side, .int .i64 da.num] 24
  obtain ⟨X1, hX1, HzX1, hbX1, hltX1, hcX1⟩ := boxed X0 #[.int .i64 db.side, .int .i64 db.num] 24
  have hX := below_trans hbX0 hbX1
  have h0 := h
  have a0 := cell_later hbX1 (hcX0 0 _ rfl); have a1 := cell_later hbX1 (hcX0 1 _ rfl)
  have b0 := hcX1 0 _ rfl; have b1 := hcX1 1 _ rfl
  clear hcX0 hcX1
  obtain ⟨A, c, rfl, hlc, hcm, hc⟩ := h.cells
  go_enter Tryz.func4, Tryz.ntmps4
  go_wp2_with fail
  refine (wakeT_ok _).mono ?_
  rintro e w1 ⟨rfl, hb1⟩
  have hw1 := below_trans hX hb1
  by_cases h14 : l.length ≤ 14
  case neg =>
    have d : (14 : Int) < (l.length : Int) := by omega
    clear hc a0 a1 b0 b1
    go_wp2_with fail
    refine (wakeT_ok _).mono ?_
    rintro e w2 ⟨rfl, hb2⟩
    go_wp2_with fail
    go_ret
    exact ⟨rfl, below_trans hw1 hb2⟩
  have d : (l.length : Int) ≤ 14 := by omega
  have a0 := cell_later hb1 a0; have a1 := cell_later hb1 a1; have b0 := cell_later hb1 b0; have b1 := cell_later hb1 b1
  have hX1' := hb1
  clear hX0 hX1 hb1
  go_wp2_with fail
  refine (Of_ok _ l _ (h0.below hw1)).mono ?_
  rintro e w2 ⟨ug, rfl, hg0, hb2⟩
  have hg0' := hg0
  obtain ⟨v1, v2, v3, rfl, ⟨A1x, c1x, rfl, _⟩, ⟨A2x, c2x, rfl, _⟩, ⟨A3x, c3x, rfl, _⟩⟩ := hg0
  obtain ⟨W1, W2, hW1, hW2, HzW2, hkW1, hkW2, hbW2, hltW2⟩ := fresh w2 [.slice none 0 0, .slice none 0 0, .slice none 0 0] [.slice A1x (ofG (l)).obv.length c1x, .slice A2x (ofG (l)).rev.length c2x, .slice A3x (ofG (l)).links.length c3x] 29 rfl
  have hsW2 : ((W1.setCell ⟨w2.heap.size, 0, none⟩ (.slice A1x (ofG (l)).obv.length c1x)).setCell ⟨w2.heap.size, 1, none⟩ (.slice A2x (ofG (l)).rev.length c2x)).setCell ⟨w2.heap.size, 2, none⟩ (.slice A3x (ofG (l)).links.length c3x) = W2 := hW2
  clear hW2
  obtain ⟨⟨z0x, z1x, z2x⟩, f0x, f1x, f2x⟩ := cells3 hkW1
  obtain ⟨⟨s0x, s1x, s2x⟩, _⟩ := cells3 hkW2
  clear hkW1 hkW2
  have hb22 := below_trans hb2 hbW2
  have a0 := cell_later hb22 a0; have a1 := cell_later hb22 a1; have b0 := cell_later hb22 b0; have b1 := cell_later hb22 b1
  have hGx := hg0'.below hbW2
  have hw2 := below_trans hw1 hb22
  go_wp2_with fail
  clear z0x z1x z2x f0x f1x f2x hsW2 hW1
  refine (Forest_ok _ l _ (h0.below hw2)).mono ?_
  rintro e w3 ⟨ui, rfl, hi, hb3⟩
  have hw3 := below_trans hw2 hb3
  have a0 := cell_later hb3 a0; have a1 := cell_later hb3 a1; have b0 := cell_later hb3 b0; have b1 := cell_later hb3 b1
  have s0x := cell_later hb3 s0x; have s1x := cell_later hb3 s1x; have s2x := cell_later hb3 s2x
  have hGx := hGx.below hb3
  obtain ⟨Ai, ci, rfl, _, _, hic⟩ := hi.cells
  by_cases hE : ofE l = 0
  case neg =>
    have hd : (ofE l != 0) = true := by simpa using hE
    have e1 : (choR pickF l).length = 0 := by rw [choR, if_neg hE]; rfl
    rw [e1]
    clear hE e1 hc hic a0 a1 b0 b1 s0x s1x s2x
    go_wp2_with fail
    go_ret
    exact ⟨by simp, hw3⟩
  have hids := forest_ids hE
  rw [hids] at hi
  have hFl : (choR pickF l).length = (forL l).length := by rw [hids, List.length_map]
  have hff := forest_filter hE
  have hof2 := forest_ofE hE
  have hl64 : l.length ≤ 64 := (checkE_zero (ofE_zero hE).1).1
  have HV1 := Lib.hid (show validE (ofG l) = 0 by simp [validE, of_valid hE])
  have HV2 := Lib.hid (show validE (ofG (forL l)) = 0 by simp [validE, of_valid hof2])
  have HL2 := Lib.hid (show loopsG (ofG (forL l)) = 0 by
    rw [loopsG, if_pos (of_valid hof2), chainsG_len]
    have := (forest_facts hE).2; omega)
  have hcf : decide (chainsG (ofG l) = chainsG (ofG (forL l))) = true := decide_eq_true (chains_forest hE).symm
  have hfl64 : (forL l).length ≤ 64 := by have := (forL_facts l).1.length_le; omega
  have HE2 := Lib.hid hof2; have Hff := Lib.hid hff; have HE := Lib.hid hE; have Hcf := Lib.hid hcf
  rw [hE, hFl]
  rw [List.length_map] at hi
  obtain ⟨iS, hiS, hzS, hkS, hbS⟩ := info_parts infoS
  clear hE hids hFl hff hof2 hcf
  have hi4 := hi
  have hic2 := hi4.cells
  clear hic hi
  go_wp2_with fail
  go_loopw [11, 12] (fun u i wr => ∃ j : Nat, j ≤ l.length ∧ i = .int .i64 j ∧ OwnS w3.heap.size wr u ((l.take j).filter fun s => hasB ((forL l).map Spec.id) s.id) ∧ Below w3.heap.size w3 wr) (fun _ i _ => l.length - (intOf i).toNat)
  case atStart => exact ⟨0, Nat.zero_le _, rfl, own_nil _ _ _ _ _, Below.refl _ _⟩
  case round =>
    obtain ⟨j, hj, rfl, hown, hb⟩ := hrel
    have hwr := below_trans hw3 hb
    by_cases hlt : j < l.length
    · obtain ⟨bo, o, rfl, _, hcb⟩ := hc j hlt
      obtain ⟨x, hx⟩ := get_of_lt hlt
      obtain ⟨y0, y1, y2, y3, y4, y5, y6⟩ := hcb wr hwr j x hx
      have HH := Has_ok _ ((forL l).map Spec.id) x.id wr (hi4.below hb)
      have hsn := filter_snocF (p := fun s => hasB ((forL l).map Spec.id) s.id) hx
      have hlen : ((l.take j).filter fun s => hasB ((forL l).map Spec.id) s.id).length ≤ 64 := Nat.le_trans (List.length_filter_le _ _) (by rw [List.length_take]; omega)
      have hBs := hb.size
      clear hc hcb hx a0 a1 b0 b1 s0x s1x s2x hic2
      cases hP : hasB ((forL l).map Spec.id) x.id
      · rw [hP] at HH
        rw [if_neg (by simp [hP]), List.append_nil] at hsn
        have HH' := Lib.hid HH; have Hsn := Lib.hid hsn
        clear HH hsn hP
        go_wp2_with fail
        refine HH'.out.mono ?_
        rintro e wq ⟨rfl, rfl⟩
        go_wp2_with fail
        refine ⟨?rel, ?measure⟩
        case rel => exact ⟨j + 1, by omega, by go_num, by rw [Hsn.out]; exact hown, hb⟩
        case measure => first | (simp [intOf]; done) | (simp [intOf]; omega)
      · rw [hP] at HH
        rw [if_pos (by simp [hP])] at hsn
        have HH' := Lib.hid HH; have Hsn := Lib.hid hsn
        clear HH hsn hP
        go_wp2_with fail
        refine HH'.out.mono ?_
        rintro e wq ⟨rfl, rfl⟩
        go_wp2_with (at_builtin; go_loud (refine wpList_append1 (enc := encS) (size := 7) (B := w3.heap.size) rfl (.tmp 71) (.tmp 76) _ rfl 47 iS _ 56 Tryz.underlying22 hiS hzS hkS hbS rfl (by decide) rfl hown x _ rfl lenS oneS _ rfl rfl (by omega) (by omega) hBs ?_); intro v' w7 hown' hgrow hat)
        refine ⟨?rel, ?measure⟩
        case rel => exact ⟨j + 1, by omega, by go_num, by rw [Hsn.out]; exact hown', hb.trans (below_append hown hgrow hBs)⟩
        case measure => first | (simp [intOf]; done) | (simp [intOf]; omega)
    · have ej : j = l.length := by omega
      subst ej
      rw [List.take_length, Hff.out] at hown
      have hT : Specs wr u11 (forL l) := hown.slOf
      obtain ⟨At, ct, rfl, _⟩ := id hT
      have a0 := cell_later hb a0; have a1 := cell_later hb a1; have b0 := cell_later hb b0; have b1 := cell_later hb b1
      have s0x := cell_later hb s0x; have s1x := cell_later hb s1x; have s2x := cell_later hb s2x
      have hGx := hGx.below hb
      have hi4 := hi4.below hb
      clear hc hown hb hic2
      go_wp2_with fail
      refine (Of_ok _ (forL l) _ hT).mono ?_
      rintro e w5 ⟨ug, rfl, hg1, hb5⟩
      rw [HE2.out]
      have hg1' := hg1
      obtain ⟨v1, v2, v3, rfl, ⟨A1y, c1y, rfl, _⟩, ⟨A2y, c2y, rfl, _⟩, ⟨A3y, c3y, rfl, _⟩⟩ := hg1
      obtain ⟨U1, U2, hU1, hU2, HzU2, hkU1, hkU2, hbU2, hltU2⟩ := fresh w5 [.slice none 0 0, .slice none 0 0, .slice none 0 0] [.slice A1y (ofG (forL l)).obv.length c1y, .slice A2y (ofG (forL l)).rev.length c2y, .slice A3y (ofG (forL l)).links.length c3y] 29 rfl
      have hsU2 : ((U1.setCell ⟨w5.heap.size, 0, none⟩ (.slice A1y (ofG (forL l)).obv.length c1y)).setCell ⟨w5.heap.size, 1, none⟩ (.slice A2y (ofG (forL l)).rev.length c2y)).setCell ⟨w5.heap.size, 2, none⟩ (.slice A3y (ofG (forL l)).links.length c3y) = U2 := hU2
      clear hU2
      obtain ⟨⟨z0y, z1y, z2y⟩, f0y, f1y, f2y⟩ := cells3 hkU1
      obtain ⟨⟨s0y, s1y, s2y⟩, _⟩ := cells3 hkU2
      clear hkU1 hkU2
      have hb52 := below_trans hb5 hbU2
      have a0 := cell_later hb52 a0; have a1 := cell_later hb52 a1; have b0 := cell_later hb52 b0; have b1 := cell_later hb52 b1
      have s0x := cell_later hb52 s0x; have s1x := cell_later hb52 s1x; have s2x := cell_later hb52 s2x
      have hGx := hGx.below hb52
      have hi4 := hi4.below hb52
      have hGy := hg1'.below hbU2
      have hw5 := below_trans hwr hb52
      go_wp2_with fail
      clear z0y z1y z2y f0y f1y f2y hsU2 hU1 hT
      refine (Loops_ok _ (ofG (forL l)) _ hGy).mono ?_
      rintro e w6 ⟨rfl, hb6⟩
      rw [HL2.out, HV2.out]
      have a0 := cell_later hb6 a0; have a1 := cell_later hb6 a1; have b0 := cell_later hb6 b0; have b1 := cell_later hb6 b1
      have s0x := cell_later hb6 s0x; have s1x := cell_later hb6 s1x; have s2x := cell_later hb6 s2x
      have s0y := cell_later hb6 s0y; have s1y := cell_later hb6 s1y; have s2y := cell_later hb6 s2y
      have hGx := hGx.below hb6
      have hGy := hGy.below hb6
      have hi4 := hi4.below hb6
      have hw6 := below_trans hw5 hb6
      go_wp2_with fail
      refine (Chains_ok _ (ofG l) _ hGx).mono ?_
      rintro e w7 ⟨uc, hs, rfl, hch, hb7⟩
      rw [HV1.out]
      obtain ⟨Ac, cc, rfl⟩ := hch.len_le
      have hRx := hch.rows
      have a0 := cell_later hb7 a0; have a1 := cell_later hb7 a1; have b0 := cell_later hb7 b0; have b1 := cell_later hb7 b1
      have s0y := cell_later hb7 s0y; have s1y := cell_later hb7 s1y; have s2y := cell_later hb7 s2y
      have hGy := hGy.below hb7
      have hi4 := hi4.below hb7
      have hw7 := below_trans hw6 hb7
      clear s0x s1x s2x hGx hch
      go_wp2_with fail
      refine (Chains_ok _ (ofG (forL l)) _ hGy).mono ?_
      rintro e w8 ⟨ud, hs2, rfl, hch2, hb8⟩
      rw [HV2.out]
      obtain ⟨Ad, cd, rfl⟩ := hch2.len_le
      have hRy := hch2.rows
      have hRx := hRx.below hb8
      have a0 := cell_later hb8 a0; have a1 := cell_later hb8 a1; have b0 := cell_later hb8 b0; have b1 := cell_later hb8 b1
      have hi4 := hi4.below hb8
      have hw8 := below_trans hw7 hb8
      clear s0y s1y s2y hGy hch2
      have hcs := Chains_same _ _ _ _ _ hRx hRy
      rw [Hcf.out] at hcs
      have Hcs := Lib.hid hcs
      clear hcs
      generalize (chainsG (ofG l)).length = C1 at Hcs ⊢
      generalize (chainsG (ofG (forL l))).length = C2 at Hcs ⊢
      go_wp2_with fail
      refine Hcs.out.mono ?_
      rintro e w9 ⟨rfl, hb9⟩
      have a0 := cell_later hb9 a0; have a1 := cell_later hb9 a1; have b0 := cell_later hb9 b0; have b1 := cell_later hb9 b1
      have hi4 := hi4.below hb9
      have hw9 := below_trans hw8 hb9
      have hfF : ((forL l).length : Int) ≤ 64 := by omega
      clear Hcs hRx hRy
      go_wp2_with fail
      refine (First_ok _ l da db _ (h0.below hw9) hda hdb).mono ?_
      rintro e wa ⟨rfl, hba⟩
      have a0 := cell_later hba a0; have a1 := cell_later hba a1; have b0 := cell_later hba b0; have b1 := cell_later hba b1
      have hi4 := hi4.below hba
      have hwa := below_trans hw9 hba
      go_wp2_with fail
      refine (Bottleneck_ok _ l da db _ (h0.below hwa) hda hdb).mono ?_
      rintro e wb ⟨up, rfl, hbb, hno, hyes⟩
      have a0 := cell_later hbb a0; have a1 := cell_later hbb a1; have b0 := cell_later hbb b0; have b1 := cell_later hbb b1
      have hi4 := hi4.below hbb
      have hwb := below_trans hwa hbb
      by_cases hF : (firstR l da db).2 = 0
      case neg =>
        have hd : ((firstR l da db).2 != 0) = true := by simpa using hF
        have hd2 : ((firstR l da db).2 == 0) = false := by simpa using hF
        obtain ⟨Ap, cp, rfl, _⟩ := (hno hF).cells
        generalize (firstR l da db).2 = E at hd hd2 ⊢
        generalize (firstR l da db).1 = E1
        clear hno hyes hF
        by_cases hab : da = db
        · subst hab
          go_wp2_with fail
          go_ret
          exact ⟨by simp, hwb⟩
        · rcases dieNe hab with d1 | ⟨d1, d2⟩
          all_goals
            clear hab
            go_wp2_with fail
            go_ret
            exact ⟨by simp, hwb⟩
      obtain ⟨p, hp, hip⟩ := hyes hF
      obtain ⟨hf1, hf2, hf3⟩ := first_path hF hp
      obtain ⟨Ap, cp, rfl, hp1, _, hpc⟩ := id hip.cells
      rw [List.length_map] at hip hpc hp1 ⊢
      rw [hF]
      have Hf1 := Lib.hid hf1
      clear hno hyes hF hf1
      by_cases hab : da = db
      · subst hab
        obtain rfl : p = [] := hf2 rfl
        clear hf3 hpc
        generalize (firstR l da da).1 = E1
        go_wp2_with fail
        go_ret
        exact ⟨by simp, hwb⟩
      have hf3 := hf3 hab
      generalize (firstR l da db).1 = E1 at hf3 ⊢
      have HP := Has_ok (.slice Ap p.length cp) (p.map Spec.id) E1 wb
      rw [hf3] at HP
      have HP := Lib.hid HP
      clear hf2 hf3
      rcases dieNe hab with d1 | ⟨d1, d2⟩
      all_goals
        clear hab
        go_wp2_with fail
        clear a0 a1 b0 b1
        go_loop [25] (fun iv => ∃ k : Nat, k ≤ p.length ∧ iv = .int .i64 k) (fun iv => p.length - (intOf iv).toNat)
        case atStart => exact ⟨0, Nat.zero_le _, rfl⟩
        case round =>
          obtain ⟨k, hk, rfl⟩ := hrel
          by_cases hlt : k < p.length
          · obtain ⟨bo, o, rfl, _, hcb⟩ := hpc k (by simpa using hlt)
            obtain ⟨x, hx⟩ := get_of_lt hlt
            have y0 := hcb _ (Below.refl _ _) k x.id (by simp [hx])
            have hk1 : (k : Int) < (p.length : Int) := by omega
            have hk0 : (0 : Int) ≤ (k : Int) := by omega
            have HQ := Has_ok _ ((forL l).map Spec.id) x.id _ hi4
            rw [Hf1.out x (List.mem_of_getElem? hx)] at HQ
            have HQ := Lib.hid HQ
            clear hpc hcb hx
            go_wp2_with fail
            refine HQ.out.mono ?_
            rintro e wq ⟨rfl, rfl⟩
            go_wp2_with fail
            refine ⟨?rel, ?measure⟩
            case rel => exact ⟨k + 1, by omega, by go_num⟩
            case measure => first | (simp [intOf]; done) | (simp [intOf]; omega)
          · have hk1 : ¬ (k : Int) < (p.length : Int) := by omega
            clear hpc
            go_wp2_with fail
            refine (HP.out hip).mono ?_
            rintro e wq ⟨rfl, rfl⟩
            go_wp2_with fail
            go_ret
            exact ⟨rfl, hwb⟩
end Go.Proofs.YtgpbdembjdileaaGreatDoor
/- WholeForest's card. No condition. -/
namespace Go.Proofs.YtgpbdembjdileaaGreatDoor
open Go.RowKit Go.Shelf Go.ChangeShapes Go.WideShapes Go.ChangeAt Go.WideMaps Go.WideElems Go.Maps

theorem forestT_walk' (v : Value) (l : List Spec) (da db : Die) (w : World) (h : Specs w v l) (a1 : wfI da.side) (a2 : wfI da.num) (b1 : wfI db.side) (b2 : wfI db.num) :
    Calls Tryz.prog 4 #[v, vlD da, vlD db] w fun e w' => e = .returned (.bool true) ∧ Below w.heap.size w w' := forestT_walk v l da db w h ⟨a1, a2⟩ ⟨b1, b2⟩
theorem forestT_door (os : Os) (args : Array Value) : laidMetH Tryz.prog Rows.wholeForestRow.laid ((World.doorLaid Tryz.prog 400 os).forCall (fun _ _ => 0) ⟨#[], args, []⟩).memory :=
  laidMetH_of_parts3 (fuel := 8) (laidMet_of_run' 8 (by kernel_rfl) (by kernel_rfl)) (by kernel_rfl) (by kernel_rfl)
set_option maxRecDepth 100000 in
theorem forestT_lifted (os : Os) (started : os.Started) (H : Type) (enc : TypeId × Value → H) :
    ReturnsInHanded {} Tryz.checked os 4 .any (fun w args => (Rows.wholeForestSpec.pre enc Tryz.prog Tryz.f4 Rows.wholeForestRow.domain false w args ∧ laidMetH Tryz.prog Rows.wholeForestRow.laid w) ∧ sizedMet enc Tryz.prog Tryz.f4 (OpenSpec.ofChange Rows.wholeForestSpec) false w args) (Rows.wholeForestSpec.post enc Tryz.prog Tryz.f4 false true false false) := by
  refine returnsInHanded_of_change_and (C := Tryz.checked) (X := fun w _ => laidMetH Tryz.prog Rows.wholeForestRow.laid w) (fun _ _ _ hh h => h.of_heap hh) (by kernel_rfl) started (by kernel_rfl) Tryz.func4
    (ChangeSpec.witness_shaped (enc := enc) (C := Tryz.checked) (os := os) (X := fun w _ => laidMetH Tryz.prog Rows.wholeForestRow.laid w) false (World.doorLaid Tryz.prog 400 os) #[.slice none 0 0, .agg #[.int .i64 0, .int .i64 0], .agg #[.int .i64 0, .int .i64 0]] 8 rfl (World.shaped_of_RefB (by kernel_rfl) (by kernel_rfl)) (by kernel_rfl) (by kernel_rfl) (by kernel_rfl) (forestT_door os _)) ?_
  intro W base args ds gs before hval0 hW _ _ _ _
  have hval : ∀ (j : Nat) t v, Tryz.f4.params[j]? = some t → args[j]? = some v → Value.okWide Tryz.prog W .any base t v := hval0
  have hW' := hW
  obtain ⟨p, q, hA0, hV, rfl, hfz, hnd⟩ := hW
  have hA : DataW.TrodAll enc Tryz.prog W 0 (fun _ => true) true Tryz.f4.params.toList args.toList ds p := hA0
  rw [Tryz.params4] at hA hval
  obtain ⟨v0, v1, v2, d0, d1, d2, p0, p1, p2, rfl, rfl, rfl, h0, h1, h2⟩ := trodAll_three hA
  obtain ⟨rfl, rfl⟩ := trodVars_none hV
  have k0 := h0
  have lt0 : ∀ x ∈ p0, x.block < W.heap.size := by obtain ⟨m, hm⟩ := k0; exact DataW.trod_lt m _ _ _ hm
  obtain ⟨x0, hx0⟩ := opens_specs (hval 0 22 v0 rfl rfl) h0
  have k1 := h1
  have lt1 : ∀ x ∈ p1, x.block < W.heap.size := by obtain ⟨m, hm⟩ := k1; exact DataW.trod_lt m _ _ _ hm
  obtain ⟨x1, rfl, wa1, wb1⟩ := opens_die (hval 1 24 v1 rfl rfl) h1
  have k2 := h2
  have lt2 : ∀ x ∈ p2, x.block < W.heap.size := by obtain ⟨m, hm⟩ := k2; exact DataW.trod_lt m _ _ _ hm
  obtain ⟨x2, rfl, wa2, wb2⟩ := opens_die (hval 2 24 v2 rfl rfl) h2
  clear hA0 hval0
  refine (forestT_walk' v0 x0 x1 x2 W hx0 wa1 wb1 wa2 wb2).mono fun e W' ⟨he, bel⟩ => ?_
  subst he
  exact ⟨_, rfl, _, _, _, [], _, [], hW', trodAll_mk1 (shut_bool Tryz.underlying4 _), trodAll_mk3 (Below.trod Try.laidOut (by kernel_rfl) (of_decide_eq_true (by kernel_rfl)) k0 bel lt0) (Below.trod Try.laidOut (by kernel_rfl) (of_decide_eq_true (by kernel_rfl)) k1 bel lt1) (Below.trod Try.laidOut (by kernel_rfl) (of_decide_eq_true (by kernel_rfl)) k2 bel lt2), rfl, bel.frame _, fun h => by cases h⟩
theorem forestT_holds : Rows.WholeForestSaid :=
  OpenClaim.holds_of_wide 4 Tryz.f4 rfl rfl rfl rfl rfl rfl rfl ⟨rfl, rfl, rfl, rfl, rfl⟩ rfl rfl rfl rfl rfl (by kernel_rfl) Tryz.func4 (by kernel_rfl)
    (of_decide_eq_true (by kernel_rfl)) (by unfold Func.isWrapper; first | (rw [if_pos (by decide +kernel)]; kernel_rfl) | (rw [if_neg (by decide +kernel)]; exact ⟨rfl, rfl⟩))
    (fun os started H enc _ => forestT_lifted os started H enc)
theorem forestT_card : Rows.WholeForestCardSaid :=
  Claim7.holds_tied_plain_at .later [] Rows.wholeForestCard.laidKinds true Rows.wholeForestCard.stood.harness Rows.wholeForestCard.stood.looks
    forestT_holds (fun _ h => by cases h) (by kernel_rfl) (fun _ h => by cases h) wholeForest_row_tie rfl ⟨rfl, rfl⟩ (by kernel_rfl) rfl
    (fun f fn hf hfn => by
      obtain rfl : f = 4 := Option.some.inj ((show Tryz.prog.funcNamed "coinage/coinagetop.WholeForest" = some 4 by kernel_rfl).symm.trans hf) |>.symm
      obtain rfl : fn = Tryz.f4 := (Option.some.inj (Tryz.func4.symm.trans hfn)).symm
      exact ⟨by kernel_rfl, fun j t ht => by
        rw [Tryz.params4] at ht
        have hm : t ∈ [22, 24, 24] := by simpa using Array.mem_of_getElem? ht
        have hall : ([22, 24, 24].all fun u => !Tryz.prog.wantsStandIn u) = true := by kernel_rfl
        exact (show Tryz.prog.wantsStandIn t = false by simpa using List.all_eq_true.1 hall t hm)⟩)
    (by kernel_rfl)
end Go.Proofs.YtgpbdembjdileaaGreatDoor
