/- JoiningForest. No condition. -/
import Derived.Test.YtcpobcfncmcakaaAwkT
import Derived.Test.YtcpobcfncmcakaaCompE
import Derived.Test.YtcpobcfncmcakaaOpenW
import Derived.Test.YtcpobcfncmcakaaRows
namespace Go.Proofs.Ytcpobcfncmcakaa
open Go.RowKit Go.Shelf Go.ChangeShapes Go.WideShapes Go.ChangeAt Go.Maps

theorem joinF_of {l : List Spec} (h : ofE l = 0) (a b : Die) : joinG (ofG l) a b = joinB (edgesS l) a b := by rw [joinG, of_valid h, join_of h, Bool.true_and]
theorem forest_ids {l : List Spec} (h : ofE l = 0) : choR pickF l = (forL l).map Spec.id := by
  have := choT_forL l l.length (Nat.le_refl _)
  rw [List.take_length] at this
  rw [choR, if_pos h, this]
theorem forest_filter {l : List Spec} (h : ofE l = 0) : l.filter (fun s => hasB ((forL l).map Spec.id) s.id) = forL l := by
  have e : (fun s : Spec => hasB ((forL l).map Spec.id) s.id) = fun s => decide (s.id ∈ (forL l).map Spec.id) := by
    funext s
    rw [Bool.eq_iff_iff, hasB_iff, decide_eq_true_eq]
  rw [e]
  exact filter_sub (forL_facts l).1 (checkE_zero (ofE_zero h).1).2.2
theorem filter_snocF {α : Type} {p : α → Bool} {l : List α} {k : Nat} {x : α} (h : l[k]? = some x) : (l.take (k + 1)).filter p = (l.take k).filter p ++ (if p x = true then [x] else []) := by
  rw [take_snoc' h, List.filter_append]
  congr 1
  cases hp : p x <;> simp [hp]
set_option maxHeartbeats 8000000 in
set_option maxRecDepth 100000 in
theorem forestL_walk (v : Value) (l : List Spec) (da db : Die) (w : World) (h : Specs w v l) (hda : wfD da) (hdb : wfD db) :
    Calls Try.prog 7 #[v, vlD da, vlD db] w fun e w' => e = .returned (.bool true) ∧ Below w.heap.size w w' := by
  obtain ⟨X0, hX0, HzX0, hbX0, hltX0, hcX0⟩ := boxed w #[.int .i64 da.side, .int .i64 da.num] 40
  obtain ⟨X1, hX1, HzX1, hbX1, hltX1, hcX1⟩ := boxed X0 #[.int .i64 db.side, .int .i64 db.num] 40
  have hX := below_trans hbX0 hbX1
  have h0 := h
  have a0 := cell_later hbX1 (hcX0 0 _ rfl); have a1 := cell_later hbX1 (hcX0 1 _ rfl)
  have b0 := hcX1 0 _ rfl; have b1 := hcX1 1 _ rfl
  clear hcX0 hcX1
  obtain ⟨A, c, rfl, _, _, hc⟩ := h.cells
  have hX' : ∀ w', Below X1.heap.size X1 w' → Below w.heap.size w w' := fun _ hb => below_trans hX hb
  have HX' := Lib.hid hX'
  clear hX'
  go_enter Try.func7, Try.ntmps7
  go_wp2_with fail
  refine (wake17_ok _).mono ?_
  rintro e w1 ⟨rfl, hb1⟩
  have hF := few17_ok _ l w1 (h0.below (HX'.out _ hb1))
  cases hf : few17B l.length
  · rw [hf] at hF
    have HF := Lib.hid hF; clear hF hf
    go_wp2_with fail
    refine HF.out.mono ?_
    rintro e w2 ⟨rfl, hb2⟩
    go_wp2_with fail
    refine (wake17_ok _).mono ?_
    rintro e w3 ⟨rfl, hb3⟩
    go_wp2_with fail
    go_ret
    exact ⟨rfl, below_trans (HX'.out _ hb1) (below_trans hb2 hb3)⟩
  rw [hf] at hF
  have HF := Lib.hid hF; have Hf := Lib.hid hf; clear hF hf
  go_wp2_with fail
  refine HF.out.mono ?_
  rintro e w2 ⟨rfl, hb2⟩
  have hw2 := below_trans (HX'.out _ hb1) hb2
  clear HF
  have hb12 := below_trans hb1 hb2
  have a0 := cell_later hb12 a0; have a1 := cell_later hb12 a1; have b0 := cell_later hb12 b0; have b1 := cell_later hb12 b1
  clear hX0 hX1 hb1 hb2 hb12
  go_wp2_with fail
  refine (Forest_ok _ l _ (h0.below hw2)).mono ?_
  rintro e w3 ⟨ui, rfl, hi, hb3⟩
  have hw3 := below_trans hw2 hb3
  have a0 := cell_later hb3 a0; have a1 := cell_later hb3 a1; have b0 := cell_later hb3 b0; have b1 := cell_later hb3 b1
  obtain ⟨Ai, ci, rfl, _, _, hic⟩ := hi.cells
  go_wp2_with fail
  refine (Of_ok _ l _ (h0.below hw3)).mono ?_
  rintro e w4 ⟨ug, rfl, hg0, hb4⟩
  have hg0' := hg0
  obtain ⟨v1, v2, v3, rfl, ⟨A1x, c1x, rfl, _⟩, ⟨A2x, c2x, rfl, _⟩, ⟨A3x, c3x, rfl, _⟩⟩ := hg0
  obtain ⟨W1, W2, hW1, hW2, HzW2, hkW1, hkW2, hbW2, hltW2⟩ := fresh w4 [.slice none 0 0, .slice none 0 0, .slice none 0 0] [.slice A1x (ofG (l)).obv.length c1x, .slice A2x (ofG (l)).rev.length c2x, .slice A3x (ofG (l)).links.length c3x] 49 rfl
  have hsW2 : ((W1.setCell ⟨w4.heap.size, 0, none⟩ (.slice A1x (ofG (l)).obv.length c1x)).setCell ⟨w4.heap.size, 1, none⟩ (.slice A2x (ofG (l)).rev.length c2x)).setCell ⟨w4.heap.size, 2, none⟩ (.slice A3x (ofG (l)).links.length c3x) = W2 := hW2
  clear hW2
  obtain ⟨⟨z0x, z1x, z2x⟩, f0x, f1x, f2x⟩ := cells3 hkW1
  obtain ⟨⟨s0x, s1x, s2x⟩, _⟩ := cells3 hkW2
  clear hkW1 hkW2
  have hb42 := below_trans hb4 hbW2
  have a0 := cell_later hb42 a0; have a1 := cell_later hb42 a1; have b0 := cell_later hb42 b0; have b1 := cell_later hb42 b1
  have hGx := hg0'.below hbW2
  have hw4 := below_trans hw3 hb42
  have hi4 := hi.below hb42
  by_cases hE : ofE l = 0
  case neg =>
    have hd : (ofE l != 0) = true := by simpa using hE
    have e1 : (choR pickF l).length = 0 := by rw [choR, if_neg hE]; rfl
    rw [e1]
    clear hE e1 hc hic a0 a1 b0 b1
    go_wp2_with fail
    go_ret
    exact ⟨rfl, hw4⟩
  have hids := forest_ids hE
  rw [hids] at hi4
  have hFl : (choR pickF l).length = (forL l).length := by rw [hids, List.length_map]
  have hff := forest_filter hE
  have hfac := forest_facts hE
  have hof2 := forest_ofE hE
  have hl64 : l.length ≤ 64 := (checkE_zero (ofE_zero hE).1).1
  have hJ1 := joinF_of hE da db
  have hJ2 := (joinF_of hof2 da db).trans (join_forest l da db)
  have HV1 := Lib.hid (show validE (ofG l) = 0 by simp [validE, of_valid hE])
  have HV2 := Lib.hid (show validE (ofG (forL l)) = 0 by simp [validE, of_valid hof2])
  have HL2 := Lib.hid (show loopsG (ofG (forL l)) = 0 by
    rw [loopsG, if_pos (of_valid hof2), chainsG_len]
    have := hfac.2; omega)
  have hfl64 : (forL l).length ≤ 64 := by have := (forL_facts l).1.length_le; omega
  have HE2 := Lib.hid hof2; have Hff := Lib.hid hff; have HJ1 := Lib.hid hJ1; have HJ2 := Lib.hid hJ2; have Hfac := Lib.hid hfac.1
  rw [hE, hFl]
  rw [List.length_map] at hi4
  obtain ⟨iS, hiS, hzS, hkS, hbS⟩ := info_parts infoS
  clear hE hids hFl hff hfac hof2 hJ1 hJ2 hic hi
  go_wp2_with fail
  clear z0x z1x z2x f0x f1x f2x hsW2 hW1
  go_loopw [11, 12] (fun u i wr => ∃ j : Nat, j ≤ l.length ∧ i = .int .i64 j ∧ OwnS W2.heap.size wr u ((l.take j).filter fun s => hasB ((forL l).map Spec.id) s.id) ∧ Below W2.heap.size W2 wr) (fun _ i _ => l.length - (intOf i).toNat)
  case atStart => exact ⟨0, Nat.zero_le _, rfl, own_nil _ _ _ _ _, Below.refl _ _⟩
  case round =>
    obtain ⟨j, hj, rfl, hown, hb⟩ := hrel
    have hwr := below_trans hw4 hb
    by_cases hlt : j < l.length
    · obtain ⟨bo, o, rfl, _, hcb⟩ := hc j hlt
      obtain ⟨x, hx⟩ := get_of_lt hlt
      obtain ⟨y0, y1, y2, y3, y4, y5, y6⟩ := hcb wr hwr j x hx
      have HH := Has_ok _ ((forL l).map Spec.id) x.id wr (hi4.below hb)
      have hsn := filter_snocF (p := fun s => hasB ((forL l).map Spec.id) s.id) hx
      have hlen : ((l.take j).filter fun s => hasB ((forL l).map Spec.id) s.id).length ≤ 64 := Nat.le_trans (List.length_filter_le _ _) (by rw [List.length_take]; omega)
      have hBs := hb.size
      clear hc hcb hx a0 a1 b0 b1
      cases hP : hasB ((forL l).map Spec.id) x.id
      · rw [hP] at HH
        rw [if_neg (by simp [hP]), List.append_nil] at hsn
        have HH' := Lib.hid HH; have Hsn := Lib.hid hsn
        clear HH hsn hP
        go_wp2_with fail
        refine HH'.out.mono ?_
        rintro e wq ⟨rfl, rfl⟩
        go_wp2_with fail
        refine ⟨?rel, ?measure⟩
        case rel => exact ⟨j + 1, by omega, by go_num, by rw [Hsn.out]; exact hown, hb⟩
        case measure => first | (simp [intOf]; done) | (simp [intOf]; omega)
      · rw [hP] at HH
        rw [if_pos (by simp [hP])] at hsn
        have HH' := Lib.hid HH; have Hsn := Lib.hid hsn
        clear HH hsn hP
        go_wp2_with fail
        refine HH'.out.mono ?_
        rintro e wq ⟨rfl, rfl⟩
        go_wp2_with (at_builtin; refine wpList_append1 (enc := encS) (size := 7) (B := W2.heap.size) rfl (.tmp 65) (.tmp 70) _ rfl 30 iS _ 56 Try.underlying22 hiS hzS hkS hbS rfl (by decide) rfl hown x _ rfl lenS oneS _ rfl rfl (by omega) (by omega) hBs ?_; intro v' w7 hown' hgrow hat)
        refine ⟨?rel, ?measure⟩
        case rel => exact ⟨j + 1, by omega, by go_num, by rw [Hsn.out]; exact hown', hb.trans (below_append hown hgrow hBs)⟩
        case measure => first | (simp [intOf]; done) | (simp [intOf]; omega)
    · have ej : j = l.length := by omega
      subst ej
      rw [List.take_length, Hff.out] at hown
      have hT : Specs wr u11 (forL l) := hown.slOf
      obtain ⟨At, ct, rfl, _⟩ := id hT
      have a0 := cell_later hb a0; have a1 := cell_later hb a1; have b0 := cell_later hb b0; have b1 := cell_later hb b1
      have s0x := cell_later hb s0x; have s1x := cell_later hb s1x; have s2x := cell_later hb s2x
      have hGx := hGx.below hb
      clear hc hown hi4 hb
      go_wp2_with fail
      refine (Of_ok _ (forL l) _ hT).mono ?_
      rintro e w5 ⟨ug, rfl, hg1, hb5⟩
      rw [HE2.out]
      have hg1' := hg1
      obtain ⟨v1, v2, v3, rfl, ⟨A1y, c1y, rfl, _⟩, ⟨A2y, c2y, rfl, _⟩, ⟨A3y, c3y, rfl, _⟩⟩ := hg1
      obtain ⟨U1, U2, hU1, hU2, HzU2, hkU1, hkU2, hbU2, hltU2⟩ := fresh w5 [.slice none 0 0, .slice none 0 0, .slice none 0 0] [.slice A1y (ofG (forL l)).obv.length c1y, .slice A2y (ofG (forL l)).rev.length c2y, .slice A3y (ofG (forL l)).links.length c3y] 49 rfl
      have hsU2 : ((U1.setCell ⟨w5.heap.size, 0, none⟩ (.slice A1y (ofG (forL l)).obv.length c1y)).setCell ⟨w5.heap.size, 1, none⟩ (.slice A2y (ofG (forL l)).rev.length c2y)).setCell ⟨w5.heap.size, 2, none⟩ (.slice A3y (ofG (forL l)).links.length c3y) = U2 := hU2
      clear hU2
      obtain ⟨⟨z0y, z1y, z2y⟩, f0y, f1y, f2y⟩ := cells3 hkU1
      obtain ⟨⟨s0y, s1y, s2y⟩, _⟩ := cells3 hkU2
      clear hkU1 hkU2
      have hb52 := below_trans hb5 hbU2
      have a0 := cell_later hb52 a0; have a1 := cell_later hb52 a1; have b0 := cell_later hb52 b0; have b1 := cell_later hb52 b1
      have s0x := cell_later hb52 s0x; have s1x := cell_later hb52 s1x; have s2x := cell_later hb52 s2x
      have hGx := hGx.below hb52
      have hGy := hg1'.below hbU2
      have hw5 := below_trans hwr hb52
      go_wp2_with fail
      clear z0y z1y z2y f0y f1y f2y hsU2 hU1 hT
      refine (Loops_ok _ (ofG (forL l)) _ hGy).mono ?_
      rintro e w6 ⟨rfl, hb6⟩
      rw [HL2.out, HV2.out]
      have a0 := cell_later hb6 a0; have a1 := cell_later hb6 a1; have b0 := cell_later hb6 b0; have b1 := cell_later hb6 b1
      have s0x := cell_later hb6 s0x; have s1x := cell_later hb6 s1x; have s2x := cell_later hb6 s2x
      have s0y := cell_later hb6 s0y; have s1y := cell_later hb6 s1y; have s2y := cell_later hb6 s2y
      have hGx := hGx.below hb6
      have hGy := hGy.below hb6
      have hw6 := below_trans hw5 hb6
      go_wp2_with fail
      refine (Chains_ok _ (ofG l) _ hGx).mono ?_
      rintro e w7 ⟨uc, hs, rfl, hch, hb7⟩
      rw [HV1.out]
      obtain ⟨Ac, cc, rfl⟩ := hch.len_le
      have hcl := chainsG_len (ofG l)
      rw [hcl]
      have hw7 := below_trans hw6 hb7
      have HGx := Lib.hid (hGx.below hb7)
      have HGy := Lib.hid (hGy.below hb7)
      have A0 := Later.cell_all (cell_later hb7 a0); have A1 := Later.cell_all (cell_later hb7 a1); have B0 := Later.cell_all (cell_later hb7 b0); have B1 := Later.cell_all (cell_later hb7 b1)
      have S0x := Later.cell_all (cell_later hb7 s0x); have S1x := Later.cell_all (cell_later hb7 s1x); have S2x := Later.cell_all (cell_later hb7 s2x)
      have S0y := Later.cell_all (cell_later hb7 s0y); have S1y := Later.cell_all (cell_later hb7 s1y); have S2y := Later.cell_all (cell_later hb7 s2y)
      have hj1 := fun y : Later w7 => cJoined_ok _ (ofG l) da db y.to (HGx.out.below y.h) hda hdb
      have hj2 := fun y : Later w7 => cJoined_ok _ (ofG (forL l)) da db y.to (HGy.out.below y.h) hda hdb
      rw [HJ1.out] at hj1
      rw [HJ2.out] at hj2
      have hfac := Hfac.out
      generalize joinB (edgesS l) da db = J at hj1 hj2
      have H1 := Lib.hid hj1; have H2 := Lib.hid hj2
      obtain ⟨C, hC⟩ : ∃ C, (repsA (joinB (edgesG (ofG l))) (diesG (ofG l))).length = C := ⟨_, rfl⟩
      obtain ⟨F, hF⟩ : ∃ F, (forL l).length = F := ⟨_, rfl⟩
      rw [hC, hF] at hfac
      rw [hF] at hfl64
      rw [hC, hF]
      have hol : (ofG l).obv.length ≤ 32 ∧ (ofG l).rev.length ≤ 32 := by
        have hE2 : graphB (ofG l) = true := by
          have := HV1.out
          cases hg : graphB (ofG l)
          · rw [validE, hg] at this; simp at this
          · rfl
        have hok := (graphB_iff _).1 hE2
        exact ⟨hok.lo, hok.lr⟩
      clear hC hF hcl hch hj1 hj2 a0 a1 b0 b1 s0x s1x s2x s0y s1y s2y hGx hGy
      generalize (ofG l).obv.length = O at S0x hfac hol H1
      generalize (ofG l).rev.length = V at S1x hfac hol H1
      have e1 : IntKind.i64.wrap ((O : Int) + (V : Int)) = (O : Int) + (V : Int) := IntWalk.i64_in _ (by omega)
      have e2 : (O : Int) + (V : Int) - (C : Int) = (F : Int) := by omega
      have e3 : IntKind.i64.wrap (F : Int) = (F : Int) := IntWalk.i64_in _ (by omega)
      clear hfac hol hfl64
      go_wp2_with fail
      refine wp_region_later (by kernel_rfl) (by kernel_rfl) ?_
      repeat (go_big_quiet_step (first | (go_at_call 23; with_reducible exact calls_later (H1.out _)) | (go_at_call 23; with_reducible exact calls_later (H2.out _))))
      refine wpQuiet_nil ?_
      intro _ hw'
      obtain ⟨xq, hw''⟩ := hw'
      subst hw''
      have hb8 := xq.h
      generalize xq.to = w8 at hb8 ⊢
      clear S0x S1x S2x S0y S1y S2y A0 A1 B0 B1
      go_wp2_with fail
      go_ret
      exact ⟨rfl, below_trans hw7 hb8⟩
theorem forestL_walk' (v : Value) (l : List Spec) (da db : Die) (w : World) (h : Specs w v l) (a1 : wfI da.side) (a2 : wfI da.num) (b1 : wfI db.side) (b2 : wfI db.num) :
    Calls Try.prog 7 #[v, vlD da, vlD db] w fun e w' => e = .returned (.bool true) ∧ Below w.heap.size w w' := forestL_walk v l da db w h ⟨a1, a2⟩ ⟨b1, b2⟩

set_option maxRecDepth 100000 in
theorem forest_lifted (os : Os) (started : os.Started) (H : Type) (enc : TypeId × Value → H) :
    ReturnsInHanded {} Try.checked os 7 .any (Rows.joiningForestSpec.pre6 enc Try.prog Try.f7 Rows.joiningForestRow.domain false) (Rows.joiningForestSpec.post enc Try.prog Try.f7 false true false false) := by
  refine returnsInHanded_of_change (C := Try.checked) Try.own started (by kernel_rfl) Try.func7
    (ChangeSpec.witness6 (enc := enc) (C := Try.checked) false ⟨#[], #[.slice none 0 0, .agg #[.int .i64 0, .int .i64 0], .agg #[.int .i64 0, .int .i64 0]], []⟩ 8 (by kernel_rfl) (by kernel_rfl) (by kernel_rfl) (by kernel_rfl)) ?_
  intro W base args ds gs before hval0 hW hcnd _
  have hval : ∀ (j : Nat) t v, Try.f7.params[j]? = some t → args[j]? = some v → Value.okWide Try.prog W .any base t v := hval0
  have hW' := hW
  obtain ⟨p, q, hA0, hV, rfl, hfz, hnd⟩ := hW
  have hA : DataW.TrodAll enc Try.prog W 0 (fun _ => true) true Try.f7.params.toList args.toList ds p := hA0
  rw [Try.params7] at hA hval
  obtain ⟨v0, v1, v2, d0, d1, d2, p0, p1, p2, rfl, rfl, rfl, h0, h1, h2⟩ := trodAll_three hA
  obtain ⟨rfl, rfl⟩ := trodVars_none hV
  have k0 := h0
  have lt0 : ∀ x ∈ p0, x.block < W.heap.size := by obtain ⟨m, hm⟩ := k0; exact DataW.trod_lt m _ _ _ hm
  obtain ⟨x0, hx0⟩ := opens_specs (hval 0 22 v0 rfl rfl) h0
  have k1 := h1
  have lt1 : ∀ x ∈ p1, x.block < W.heap.size := by obtain ⟨m, hm⟩ := k1; exact DataW.trod_lt m _ _ _ hm
  obtain ⟨x1, rfl, wa1, wb1⟩ := opens_die (hval 1 40 v1 rfl rfl) h1
  have k2 := h2
  have lt2 : ∀ x ∈ p2, x.block < W.heap.size := by obtain ⟨m, hm⟩ := k2; exact DataW.trod_lt m _ _ _ hm
  obtain ⟨x2, rfl, wa2, wb2⟩ := opens_die (hval 2 40 v2 rfl rfl) h2
  clear hA0 hval0
  refine (forestL_walk' v0 x0 x1 x2 W hx0 wa1 wb1 wa2 wb2).mono fun e W' ⟨he, bel⟩ => ?_
  subst he
  exact ⟨_, rfl, _, _, _, [], _, [], hW', trodAll_mk1 (shut_bool Try.underlying4 _), trodAll_mk3 (Below.trod Try.laidOut (by kernel_rfl) (of_decide_eq_true (by kernel_rfl)) k0 bel lt0) (Below.trod Try.laidOut (by kernel_rfl) (of_decide_eq_true (by kernel_rfl)) k1 bel lt1) (Below.trod Try.laidOut (by kernel_rfl) (of_decide_eq_true (by kernel_rfl)) k2 bel lt2), rfl, bel.frame _, fun h => by cases h⟩

theorem forest_holds : Rows.JoiningForestSaid :=
  OpenClaim.holds_of_wide 7 Try.f7 rfl rfl rfl rfl rfl rfl rfl ⟨rfl, rfl, rfl, rfl, rfl⟩ rfl rfl rfl rfl rfl (by kernel_rfl) Try.func7 (by kernel_rfl)
    (of_decide_eq_true (by kernel_rfl)) (by unfold Func.isWrapper; first | (rw [if_pos (by decide +kernel)]; kernel_rfl) | (rw [if_neg (by decide +kernel)]; exact ⟨rfl, rfl⟩))
    (fun os started H enc _ => forest_lifted os started H enc)
end Go.Proofs.Ytcpobcfncmcakaa
