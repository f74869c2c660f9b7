/- JoiningClones. No condition. -/
import Derived.Test.YtcpobcfncmcakaaAwkT
import Derived.Test.YtcpobcfncmcakaaStepP
import Derived.Test.YtcpobcfncmcakaaOpenW
import Derived.Test.YtcpobcfncmcakaaRows
namespace Go.Proofs.Ytcpobcfncmcakaa
open Go.RowKit Go.Shelf Go.ChangeShapes Go.WideShapes Go.ChangeAt Go.Maps

set_option maxHeartbeats 8000000 in
set_option maxRecDepth 100000 in
theorem clones_walk (v : Value) (l : List Spec) (da db : Die) (w : World) (h : Specs w v l) (hda : wfD da) (hdb : wfD db) :
    Calls Try.prog 5 #[v, vlD da, vlD db] w fun e w' => e = .returned (.bool true) ∧ Below w.heap.size w w' := by
  obtain ⟨X0, hX0, HzX0, hbX0, hltX0, hcX0⟩ := boxed w #[.int .i64 da.side, .int .i64 da.num] 40
  obtain ⟨X1, hX1, HzX1, hbX1, hltX1, hcX1⟩ := boxed X0 #[.int .i64 db.side, .int .i64 db.num] 40
  have hX := below_trans hbX0 hbX1
  have h0 := h
  have a0 := cell_later hbX1 (hcX0 0 _ rfl); have a1 := cell_later hbX1 (hcX0 1 _ rfl)
  have b0 := hcX1 0 _ rfl; have b1 := hcX1 1 _ rfl
  clear hcX0 hcX1
  obtain ⟨A, c, rfl, _, _, hc⟩ := h.cells
  have hX' : ∀ w', Below X1.heap.size X1 w' → Below w.heap.size w w' := fun _ hb => below_trans hX hb
  have HX' := Lib.hid hX'
  clear hX'
  go_enter Try.func5, Try.ntmps5
  go_wp2_with fail
  refine (wake17_ok _).mono ?_
  rintro e w1 ⟨rfl, hb1⟩
  have hF := few17_ok _ l w1 (h0.below (HX'.out _ hb1))
  cases hf : few17B l.length
  · rw [hf] at hF
    have HF := Lib.hid hF; clear hF hf
    go_wp2_with fail
    refine HF.out.mono ?_
    rintro e w2 ⟨rfl, hb2⟩
    go_wp2_with fail
    refine (wake17_ok _).mono ?_
    rintro e w3 ⟨rfl, hb3⟩
    go_wp2_with fail
    go_ret
    exact ⟨rfl, below_trans (HX'.out _ hb1) (below_trans hb2 hb3)⟩
  rw [hf] at hF
  have HF := Lib.hid hF; have Hf := Lib.hid hf; clear hF hf
  go_wp2_with fail
  refine HF.out.mono ?_
  rintro e w2 ⟨rfl, hb2⟩
  have hw2 := below_trans (HX'.out _ hb1) hb2
  clear HF
  have hl100 : l.length ≤ 100 := by have := Hf.out; simp [few17B] at this; omega
  have hb12 := below_trans hb1 hb2
  have a0 := cell_later hb12 a0; have a1 := cell_later hb12 a1; have b0 := cell_later hb12 b0; have b1 := cell_later hb12 b1
  have hX2 := hb12
  clear hX0 hX1 hb1 hb2 hb12
  go_wp2_with fail
  refine (NewTracker_ok _).mono ?_
  rintro e w3 ⟨q, rfl, hT, hq0, hb3⟩
  have a0 := cell_later hb3 a0; have a1 := cell_later hb3 a1; have b0 := cell_later hb3 b0; have b1 := cell_later hb3 b1
  have hw3 := below_trans hw2 hb3
  have hqw : w.heap.size ≤ q := by have := hw2.size; omega
  have hX0q : w.heap.size ∉ [q] ∧ X0.heap.size ∉ [q] := by have := hX2.size; have := HzX0.out; have := HzX1.out; simp; omega
  obtain ⟨n, hn⟩ : ∃ n, l.length = n := ⟨_, rfl⟩
  have Hn := Lib.hid hn
  rw [hn] at hl100 ⊢
  have hn0 : (0 : Int) ≤ (n : Int) := by omega
  have hn1 : (n : Int) ≤ 100 := by omega
  clear hn
  go_wp2_with fail
  obtain ⟨m, hm⟩ : ∃ m : Nat, (n : Int) / 2 = (m : Int) := ⟨n / 2, by omega⟩
  have hmn : m ≤ n := by omega
  rw [hm]
  clear hm
  go_loopw [9] (fun i wr => ∃ k : Nat, k ≤ m ∧ i = .int .i64 k ∧ TrAt wr q (trkL l k) ∧ Touch w3 wr [q]) (fun i _ => m - (intOf i).toNat)
  case atStart => exact ⟨0, Nat.zero_le _, rfl, hT, Touch.refl _ _⟩
  case round =>
    clear hT
    obtain ⟨k, hk, rfl, hTr, hTT⟩ := hrel
    have hwr := below_touch1 hw3 hTT hqw
    by_cases hlt : k < m
    · obtain ⟨bo, o, rfl, _, hcb⟩ := hc k (by rw [Hn.out]; omega)
      obtain ⟨x, hx⟩ := get_of_lt (show k < l.length by rw [Hn.out]; omega)
      obtain ⟨y0, y1, y2, y3, y4, y5, y6⟩ := hcb wr hwr k x hx
      have Hsn := Lib.hid (trkL_snoc hx)
      have hkn : (k : Int) < (n : Int) := by omega
      have hk1 : (k : Int) ≤ 100 := by omega
      clear hc hcb hx a0 a1 b0 b1
      go_wp2_with fail
      refine (Add_ok q (trkL l k) x _ hTr).mono ?_
      rintro e w5 ⟨rfl, hT5, hTT5⟩
      rw [← Hsn.out] at hT5
      have hTT6 := hTT.trans hTT5
      clear y0 y1 y2 y3 y4 y5 y6 hTT hTT5 hTr
      go_wp2_with fail
      refine ⟨?rel, ?measure⟩
      case rel => exact ⟨k + 1, by omega, by go_num, hT5, hTT6⟩
      case measure => first | (simp [intOf]; done) | (simp [intOf]; omega)
    · obtain rfl : k = m := by omega
      have a0 := cell_off hTT hX0q.1 a0; have a1 := cell_off hTT hX0q.1 a1; have b0 := cell_off hTT hX0q.2 b0; have b1 := cell_off hTT hX0q.2 b1
      go_wp2_with fail
      refine (Clone_ok q _ _ hTr).mono ?_
      rintro e w5 ⟨p, rfl, hP5, hpz, hb5⟩
      have hT5 := hTr.below hb5
      have hw5 := below_trans hwr hb5
      have a0 := cell_later hb5 a0; have a1 := cell_later hb5 a1; have b0 := cell_later hb5 b0; have b1 := cell_later hb5 b1
      have hpq : p ≠ q := by have := hTr.lt; omega
      clear hTr hTT
      go_wp2_with fail
      have A0 := Later.cell_all a0; have A1 := Later.cell_all a1; have B0 := Later.cell_all b0; have B1 := Later.cell_all b1
      have H1 := Lib.hid (fun y : Later w5 => Components_ok q (trkL l k) y.to (hT5.below y.h))
      have H2 := Lib.hid (fun y : Later w5 => Joined_ok q (trkL l k) da db y.to (hT5.below y.h) hda hdb)
      refine wp_region_later (by kernel_rfl) (by kernel_rfl) ?_
      repeat (go_big_quiet_step (first | (go_at_call 15; with_reducible exact calls_later (H1.out _)) | (go_at_call 18; with_reducible exact calls_later (H2.out _))))
      refine wpQuiet_nil ?_
      intro _ hw'
      obtain ⟨xq, hw''⟩ := hw'
      subst hw''
      have hb6 := xq.h
      generalize xq.to = w6 at hb6 ⊢
      have hT6 := hT5.below hb6; have hP6 := hP5.below hb6
      have hw6 := below_trans hw5 hb6
      have a0 := cell_later hb6 a0; have a1 := cell_later hb6 a1; have b0 := cell_later hb6 b0; have b1 := cell_later hb6 b1
      obtain ⟨T, hTe⟩ : ∃ T, trkL l k = T := ⟨_, rfl⟩
      have HTe := Lib.hid hTe
      rw [hTe] at hT6 hP6 ⊢
      obtain ⟨C, hC⟩ : ∃ C : Int, ((growL T).count : Int) = C := ⟨_, rfl⟩
      have HC := Lib.hid hC
      rw [hC]
      obtain ⟨J, hJ⟩ : ∃ J, joinB (edgesS T) da db = J := ⟨_, rfl⟩
      have HJ := Lib.hid hJ
      rw [hJ]
      clear H1 H2 A0 A1 B0 B1 hT5 hP5 hTe hC hJ
      go_wp2_with fail
      go_loopw [13, 14] (fun ad i wr => ∃ k2 j : Nat, k ≤ k2 ∧ k2 ≤ n ∧ i = .int .i64 k2 ∧ ad = .int .i64 j ∧ Hid ((trkL l k2).length = T.length + j) ∧ TrAt wr q (trkL l k2) ∧ TrAt wr p T ∧ Touch w6 wr [q]) (fun _ i _ => n - (intOf i).toNat)
      case atStart => exact ⟨k, 0, Nat.le_refl _, hmn, rfl, rfl, Lib.hid (by rw [HTe.out]; rfl), by rw [HTe.out]; exact hT6, hP6, Touch.refl _ _⟩
      case round =>
        clear hT6 hP6
        obtain ⟨k2, j, hk1, hk2, rfl, rfl, Hj, hTr, hPr, hTT⟩ := hrel
        have hwr := below_touch1 hw6 hTT hqw
        have hl64 := hTr.len
        have hj64 : (j : Int) ≤ 64 := by have := Hj.out; omega
        by_cases hlt2 : k2 < n
        · obtain ⟨bo, o, rfl, _, hcb⟩ := hc k2 (by rw [Hn.out]; omega)
          obtain ⟨x, hx⟩ := get_of_lt (show k2 < l.length by rw [Hn.out]; omega)
          obtain ⟨y0, y1, y2, y3, y4, y5, y6⟩ := hcb wr hwr k2 x hx
          have Hsn := Lib.hid (trkL_snoc hx)
          have hkn : (k2 : Int) < (n : Int) := by omega
          have hk3 : (k2 : Int) ≤ 100 := by omega
          have Hone := Lib.hid hTr.one
          clear hc hcb hx a0 a1 b0 b1
          go_wp2_with fail
          refine (Add_ok q (trkL l k2) x _ hTr).mono ?_
          rintro e w7 ⟨rfl, hT7, hTT7⟩
          rw [← Hsn.out] at hT7
          have hTT8 := hTT.trans hTT7
          have hP7 := hPr.touch hTT7 Hone.out hpq
          have hal := add_len (trkL l k2) x
          rw [← Hsn.out] at hal
          clear y0 y1 y2 y3 y4 y5 y6 hTT hTT7 hTr hPr hl64
          generalize addB (trkL l k2) x = BB
          rcases hal with ⟨hE, hL⟩ | ⟨hE, hL⟩
          · rw [hE]
            have HL := Lib.hid (hL.trans (by rw [Hj.out, Nat.add_assoc]) : (trkL l (k2 + 1)).length = T.length + (j + 1))
            clear hE hL
            go_wp2_with fail
            refine ⟨?rel, ?measure⟩
            case rel => exact ⟨k2 + 1, j + 1, by omega, by omega, by go_num, by go_num, HL, hT7, hP7, hTT8⟩
            case measure => first | (simp [intOf]; done) | (simp [intOf]; omega)
          · have HL := Lib.hid ((congrArg List.length hL).trans Hj.out : (trkL l (k2 + 1)).length = T.length + j)
            generalize addE (trkL l k2) x = E at hE ⊢
            have d1 : (E == 0) = false := by simpa using hE
            clear hE hL
            go_wp2_with fail
            refine ⟨?rel, ?measure⟩
            case rel => exact ⟨k2 + 1, j, by omega, by omega, by go_num, rfl, HL, hT7, hP7, hTT8⟩
            case measure => first | (simp [intOf]; done) | (simp [intOf]; omega)
        · have ek : k2 = n := by omega
          have a0 := cell_off hTT hX0q.1 a0; have a1 := cell_off hTT hX0q.1 a1; have b0 := cell_off hTT hX0q.2 b0; have b1 := cell_off hTT hX0q.2 b1
          subst ek
          have hcc := Components_ok p T wr hPr
          rw [HC.out] at hcc
          have Hcc := Lib.hid hcc
          clear hc hcc
          go_wp2_with fail
          refine Hcc.out.mono ?_
          rintro e w7 ⟨rfl, hb7⟩
          have a0 := cell_later hb7 a0; have a1 := cell_later hb7 a1; have b0 := cell_later hb7 b0; have b1 := cell_later hb7 b1
          have hjj := Joined_ok p T da db w7 (hPr.below hb7) hda hdb
          rw [HJ.out] at hjj
          have Hjj := Lib.hid hjj
          clear hjj
          go_wp2_with fail
          refine Hjj.out.mono ?_
          rintro e w8 ⟨rfl, hb8⟩
          have a0 := cell_later hb8 a0; have a1 := cell_later hb8 a1; have b0 := cell_later hb8 b0; have b1 := cell_later hb8 b1
          have hw8 := below_trans hwr (below_trans hb7 hb8)
          have hT8 := hTr.below (below_trans hb7 hb8)
          obtain ⟨X, hX⟩ : ∃ X, trkL l k2 = T ++ X := by
            have := trkL_more (l := l) (k := k) (n := k2) (by omega)
            rw [HTe.out] at this
            exact this
          rw [hX] at hT8
          have HXl := Lib.hid (show X.length = j by have := Hj.out; rw [hX, List.length_append] at this; omega)
          clear hTr hPr hTT hX Hcc Hjj
          go_wp2_with fail
          go_loopw [17] (fun i wr => ∃ r : Nat, r ≤ j ∧ i = .int .i64 r ∧ TrAt wr q (T ++ X.take (j - r)) ∧ Touch w8 wr [q]) (fun i _ => j - (intOf i).toNat)
          case atStart => exact ⟨0, Nat.zero_le _, rfl, by rw [List.take_of_length_le (by have := HXl.out; omega)]; exact hT8, Touch.refl _ _⟩
          case round =>
            clear hT8
            obtain ⟨r, hr, rfl, hTr, hTT⟩ := hrel
            have hwr := below_touch1 hw8 hTT hqw
            by_cases hlt3 : r < j
            · obtain ⟨x, hx⟩ := get_of_lt (show j - (r + 1) < X.length by have := HXl.out; omega)
              have e1 : X.take (j - r) = X.take (j - (r + 1)) ++ [x] := by
                have := take_snoc' hx
                rwa [show j - (r + 1) + 1 = j - r by omega] at this
              rw [e1, ← List.append_assoc] at hTr
              clear e1 hx a0 a1 b0 b1
              go_wp2_with fail
              refine (Undo_ok q (T ++ X.take (j - (r + 1))) x _ hTr).mono ?_
              rintro e w9 ⟨rfl, hT9, hTT9⟩
              have hTTa := hTT.trans hTT9
              clear hTr hTT hTT9
              go_wp2_with fail
              refine ⟨?rel, ?measure⟩
              case rel => exact ⟨r + 1, by omega, by go_num, hT9, hTTa⟩
              case measure => first | (simp [intOf]; done) | (simp [intOf]; omega)
            · have er : j - r = 0 := by omega
              have a0 := cell_off hTT hX0q.1 a0; have a1 := cell_off hTT hX0q.1 a1; have b0 := cell_off hTT hX0q.2 b0; have b1 := cell_off hTT hX0q.2 b1
              rw [er, List.take_zero, List.append_nil] at hTr
              have ej : r = j := by omega
              subst ej
              have hcc := Components_ok q T wr hTr
              rw [HC.out] at hcc
              have Hcc := Lib.hid hcc
              clear er hcc
              go_wp2_with fail
              refine Hcc.out.mono ?_
              rintro e wa ⟨rfl, hba⟩
              have a0 := cell_later hba a0; have a1 := cell_later hba a1; have b0 := cell_later hba b0; have b1 := cell_later hba b1
              have hjj := Joined_ok q T da db wa (hTr.below hba) hda hdb
              rw [HJ.out] at hjj
              have Hjj := Lib.hid hjj
              clear hjj
              go_wp2_with fail
              refine Hjj.out.mono ?_
              rintro e wb ⟨rfl, hbb⟩
              go_wp2_with fail
              go_ret
              exact ⟨rfl, below_trans hwr (below_trans hba hbb)⟩
theorem clones_walk' (v : Value) (l : List Spec) (da db : Die) (w : World) (h : Specs w v l) (a1 : wfI da.side) (a2 : wfI da.num) (b1 : wfI db.side) (b2 : wfI db.num) :
    Calls Try.prog 5 #[v, vlD da, vlD db] w fun e w' => e = .returned (.bool true) ∧ Below w.heap.size w w' := clones_walk v l da db w h ⟨a1, a2⟩ ⟨b1, b2⟩

set_option maxRecDepth 100000 in
theorem clones_lifted (os : Os) (started : os.Started) (H : Type) (enc : TypeId × Value → H) :
    ReturnsInHanded {} Try.checked os 5 .any (Rows.joiningClonesSpec.pre6 enc Try.prog Try.f5 Rows.joiningClonesRow.domain false) (Rows.joiningClonesSpec.post enc Try.prog Try.f5 false true false false) := by
  refine returnsInHanded_of_change (C := Try.checked) Try.own started (by kernel_rfl) Try.func5
    (ChangeSpec.witness6 (enc := enc) (C := Try.checked) false ⟨#[], #[.slice none 0 0, .agg #[.int .i64 0, .int .i64 0], .agg #[.int .i64 0, .int .i64 0]], []⟩ 8 (by kernel_rfl) (by kernel_rfl) (by kernel_rfl) (by kernel_rfl)) ?_
  intro W base args ds gs before hval0 hW hcnd _
  have hval : ∀ (j : Nat) t v, Try.f5.params[j]? = some t → args[j]? = some v → Value.okWide Try.prog W .any base t v := hval0
  have hW' := hW
  obtain ⟨p, q, hA0, hV, rfl, hfz, hnd⟩ := hW
  have hA : DataW.TrodAll enc Try.prog W 0 (fun _ => true) true Try.f5.params.toList args.toList ds p := hA0
  rw [Try.params5] at hA hval
  obtain ⟨v0, v1, v2, d0, d1, d2, p0, p1, p2, rfl, rfl, rfl, h0, h1, h2⟩ := trodAll_three hA
  obtain ⟨rfl, rfl⟩ := trodVars_none hV
  have k0 := h0
  have lt0 : ∀ x ∈ p0, x.block < W.heap.size := by obtain ⟨m, hm⟩ := k0; exact DataW.trod_lt m _ _ _ hm
  obtain ⟨x0, hx0⟩ := opens_specs (hval 0 22 v0 rfl rfl) h0
  have k1 := h1
  have lt1 : ∀ x ∈ p1, x.block < W.heap.size := by obtain ⟨m, hm⟩ := k1; exact DataW.trod_lt m _ _ _ hm
  obtain ⟨x1, rfl, wa1, wb1⟩ := opens_die (hval 1 40 v1 rfl rfl) h1
  have k2 := h2
  have lt2 : ∀ x ∈ p2, x.block < W.heap.size := by obtain ⟨m, hm⟩ := k2; exact DataW.trod_lt m _ _ _ hm
  obtain ⟨x2, rfl, wa2, wb2⟩ := opens_die (hval 2 40 v2 rfl rfl) h2
  clear hA0 hval0
  refine (clones_walk' v0 x0 x1 x2 W hx0 wa1 wb1 wa2 wb2).mono fun e W' ⟨he, bel⟩ => ?_
  subst he
  exact ⟨_, rfl, _, _, _, [], _, [], hW', trodAll_mk1 (shut_bool Try.underlying4 _), trodAll_mk3 (Below.trod Try.laidOut (by kernel_rfl) (of_decide_eq_true (by kernel_rfl)) k0 bel lt0) (Below.trod Try.laidOut (by kernel_rfl) (of_decide_eq_true (by kernel_rfl)) k1 bel lt1) (Below.trod Try.laidOut (by kernel_rfl) (of_decide_eq_true (by kernel_rfl)) k2 bel lt2), rfl, bel.frame _, fun h => by cases h⟩

theorem clones_holds : Rows.JoiningClonesSaid :=
  OpenClaim.holds_of_wide 5 Try.f5 rfl rfl rfl rfl rfl rfl rfl ⟨rfl, rfl, rfl, rfl, rfl⟩ rfl rfl rfl rfl rfl (by kernel_rfl) Try.func5 (by kernel_rfl)
    (of_decide_eq_true (by kernel_rfl)) (by unfold Func.isWrapper; first | (rw [if_pos (by decide +kernel)]; kernel_rfl) | (rw [if_neg (by decide +kernel)]; exact ⟨rfl, rfl⟩))
    (fun os started H enc _ => clones_lifted os started H enc)
end Go.Proofs.Ytcpobcfncmcakaa
