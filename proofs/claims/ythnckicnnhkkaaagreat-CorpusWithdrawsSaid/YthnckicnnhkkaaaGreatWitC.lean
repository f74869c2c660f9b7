/- Law CorpusWithdraws. -/
import Derived.Test.YthnckicnnhkkaaaGreatGooP
import Derived.Test.YthnckicnnhkkaaaGreatAwkC
import Derived.Test.YthnckicnnhkkaaaGreatRows
import Derived.Test.YthnckicnnhkkaaaGreatHolWitC
namespace Go.Proofs.YthnckicnnhkkaaaGreat
open Go.RowKit Go.Shelf Go.ChangeShapes Go.WideShapes Go.ChangeAt Go.Maps

set_option maxRecDepth 100000 in
theorem opens_decC {H : Type} {enc : TypeId × Value → H} {w : World} {base : Nat} {spare : Nat → Bool} {held : Bool} {r : Reach} {b0 : Nat} {v : Value} {d : DataW H} {p : List MemPlace} (hv : Value.okWide Tryz.prog w r b0 33 v) (h : DataW.Trod enc Tryz.prog w base spare held 33 v d p) : ∃ x : Dec, v = .agg #[.int .i64 x.au, .int .i64 x.nu, .int .i64 x.ki, .int .i64 x.a, .int .i64 x.b] ∧ wfDc x := by
  obtain ⟨cs, rfl, _⟩ := okWide_struct Tryz.underlying33 hv
  obtain ⟨fuel, hf⟩ := h
  obtain ⟨s, e, hs⟩ := dec_elem (cs := cs.toList) (by simpa [Value.cells] using hf)
  refine ⟨s, ?_, hs⟩
  rw [show cs = (encDc s).toArray by rw [← e]]
  rfl
theorem take_ne {D : List Dec} {k : Nat} {x d : Dec} (h : D[k]? = some x) (hN : ∀ y ∈ D.take k, mkOf y ≠ mkOf d) (hx : mkOf x ≠ mkOf d) : ∀ y ∈ D.take (k + 1), mkOf y ≠ mkOf d := by
  rw [take_snoc' h]
  intro y hy
  rcases List.mem_append.1 hy with hy | hy
  · exact hN y hy
  · rw [List.mem_singleton.1 hy]; exact hx
set_option maxHeartbeats 16000000 in
set_option maxRecDepth 100000 in
theorem wdrC_walk (v : Value) (l : List OpC) (d : Dec) (w : World) (h : OpsC w v l) (hwd : wfDc d) :
    Calls Tryz.prog 5 #[v, .agg #[.int .i64 d.au, .int .i64 d.nu, .int .i64 d.ki, .int .i64 d.a, .int .i64 d.b]] w fun e w' => e = .returned (.bool true) ∧ Below w.heap.size w w' := by
  have HOp := Lib.hid h
  obtain ⟨A, c, rfl, _⟩ := h.at
  obtain ⟨X, hX⟩ : ∃ x, doAll l = x := ⟨_, rfl⟩
  have HG := Lib.hid (good_all l)
  rw [hX] at HG
  have HX := Lib.hid hX
  clear hX h
  obtain ⟨L, D, K⟩ := X
  obtain ⟨WB, hWB, HzB, hbB, hltB, hc0⟩ := boxed w #[.int .i64 d.au, .int .i64 d.nu, .int .i64 d.ki, .int .i64 d.a, .int .i64 d.b] 33
  have a0 := hc0 0 _ rfl; have a1 := hc0 1 _ rfl; have a2 := hc0 2 _ rfl; have a3 := hc0 3 _ rfl; have a4 := hc0 4 _ rfl
  clear hc0
  go_enter Tryz.func5, Tryz.ntmps5
  go_wp2_with fail
  refine (wake52_ok _).mono ?_
  rintro e w0 ⟨rfl, hb0⟩
  replace a0 := cell_later hb0 a0; replace a1 := cell_later hb0 a1; replace a2 := cell_later hb0 a2; replace a3 := cell_later hb0 a3; replace a4 := cell_later hb0 a4
  have hw0 := below_trans hbB hb0
  clear hWB
  by_cases hfew : (30 : Int) < ((l.length : Nat) : Int)
  · go_wp2_with fail
    refine (wake52_ok _).mono ?_
    rintro e w1 ⟨rfl, hb1⟩
    go_wp2_with fail
    go_ret
    exact ⟨rfl, below_trans hw0 hb1⟩
  have HM := Lib.hid (made_ok _ l w0 ⟨HOp.out.1.below hw0, HOp.out.2⟩)
  rw [HX.out] at HM
  clear HOp HX
  go_wp2_with fail
  refine HM.out.mono ?_
  rintro e w1 ⟨p, q, S, T, rfl, hc, hr, _, hS, _, hb1⟩
  replace a0 := cell_later hb1 a0; replace a1 := cell_later hb1 a1; replace a2 := cell_later hb1 a2; replace a3 := cell_later hb1 a3; replace a4 := cell_later hb1 a4
  have hw1 := below_trans hw0 hb1
  have HC := Lib.hid hc; have HS : Hid (∀ b ∈ S, WB.heap.size ≤ b) := Lib.hid fun b hb => Nat.le_trans hb0.size (hS b hb)
  have HSl := Lib.hid hc.lt
  obtain ⟨U, ql, vl, hR⟩ := hr
  obtain ⟨⟨_, r1⟩, _⟩ := cellsM hR.row
  have HL := Lib.hid hR.led
  clear hc hR hS HM
  go_wp2_with fail
  have hE := Effective_ok _ L D K w1 HC.out.O
  obtain ⟨Ef, hEf⟩ : ∃ z, effL (standL D K) L = z := ⟨_, rfl⟩
  rw [hEf] at hE
  have HEf := Lib.hid hEf
  clear hEf
  refine hE.mono ?_
  clear hE
  rintro e w2 ⟨uE, rfl, hoE, hb2⟩
  have HoE := Lib.hid hoE
  clear hoE
  go_wp2_with fail
  refine (Claims_ok _ L D K w2 (HC.out.below hb2).O).mono ?_
  rintro e w3 ⟨uP, out, rfl, hoP, hcl, _, hb3⟩
  have HoP := Lib.hid hoP; have Hcl := Lib.hid hcl
  have hb13 := below_trans hb2 hb3
  clear hoP hcl
  go_wp2_with fail
  have hE := CChains_ok _ L D K w3 (HC.out.below hb13).O
  rw [HEf.out] at hE
  refine hE.mono ?_
  clear hE
  rintro e w4 ⟨uC, rfl, hoC, hb4⟩
  have HoC := Lib.hid hoC
  have hb14 := below_trans hb13 hb4
  replace a0 := cell_later hb14 a0; replace a1 := cell_later hb14 a1; replace a2 := cell_later hb14 a2; replace a3 := cell_later hb14 a3; replace a4 := cell_later hb14 a4
  replace r1 := cell_later hb14 r1
  clear hoC
  obtain ⟨V2, hV2, HzV2, hbV2, hltV2, hcV⟩ := boxed w4 #[.int .i64 d.au, .int .i64 d.nu] 35
  have s0 := hcV 0 _ rfl; have s1 := hcV 1 _ rfl
  have HsV : Hid (w1.heap.size ≤ w4.heap.size) := Lib.hid hb14.size
  have r2 := cell_later hbV2 r1
  clear hcV
  go_wp2_with fail
  have hb15 := below_trans hb14 hbV2
  refine (rMade_ok U ql D K V2 (HL.out.below hb15)).mono ?_
  rintro e w5 ⟨uO, rfl, hO, hb5⟩
  have hbV5 := below_trans hbV2 hb5
  replace a0 := cell_later hbV5 a0; replace a1 := cell_later hbV5 a1; replace a2 := cell_later hbV5 a2; replace a3 := cell_later hbV5 a3; replace a4 := cell_later hbV5 a4
  replace s0 := cell_later hb5 s0; replace s1 := cell_later hb5 s1
  obtain ⟨AO, cO, rfl, hOl, hOm, hOc⟩ := hO.cells
  have HOc := Lib.hid hOc
  clear r1 r2 hV2 hO hOc HL
  have hb25 := below_trans hb15 hb5
  go_wp2_with fail
  go_loopw [13] (fun t wr => ∃ k : Nat, k ≤ D.length ∧ t = .int .i64 k ∧ Hid (∀ x ∈ D.take k, mkOf x ≠ mkOf d) ∧ Below w5.heap.size w5 wr) (fun t _ => D.length - (intOf t).toNat)
  case atStart => exact ⟨0, Nat.zero_le _, rfl, Lib.hid (by simp), Below.refl _ _⟩
  case round =>
    obtain ⟨k, hk, rfl, HN, hb⟩ := hrel
    replace a0 := cell_later hb a0; replace a1 := cell_later hb a1; replace a2 := cell_later hb a2; replace a3 := cell_later hb a3; replace a4 := cell_later hb a4
    replace s0 := cell_later hb s0; replace s1 := cell_later hb s1
    by_cases hlt : k < D.length
    · obtain ⟨x, hx⟩ := get_of_lt hlt
      obtain ⟨b, o, rfl, _, hcc⟩ := HOc.out _ hlt
      obtain ⟨c0, c1, _⟩ := hcc wr hb k x hx
      have hl1 : (k : Int) < (D.length : Int) := by omega
      have hk0 : (0 : Int) ≤ (k : Int) := by omega
      have Y1 := Later.cell_all c0; have Y2 := Later.cell_all c1; have Y3 := Later.cell_all a0; have Y4 := Later.cell_all a1
      have HX := Lib.hid hx
      clear hcc hx
      cases t1 : (x.au == d.au)
      · have hne : Hid (mkOf x ≠ mkOf d) := Lib.hid fun e => by
          have e2 : x.au = d.au := congrArg Mrk.au e
          simp [e2] at t1
        go_wp2_with fail
        refine wp_region_later (by kernel_rfl) (by kernel_rfl) ?_
        repeat (go_big_quiet_step (first | fail))
        refine wpQuiet_nil ?_
        intro _ hw'
        obtain ⟨xq, hw''⟩ := hw'
        subst hw''
        have hbq := xq.h
        generalize xq.to = wq at hbq ⊢
        clear Y1 Y2 Y3 Y4 c0 c1 a0 a1 a2 a3 a4 s0 s1
        go_wp2_with fail
        refine ⟨?rel, ?measure⟩
        case rel => exact ⟨k + 1, by omega, by go_num, Lib.hid (take_ne HX.out HN.out hne.out), below_trans hb hbq⟩
        case measure => first | (simp [intOf]; done) | (simp [intOf]; omega)
      cases t2 : (x.nu == d.nu)
      · have hne : Hid (mkOf x ≠ mkOf d) := Lib.hid fun e => by
          have e2 : x.nu = d.nu := congrArg Mrk.nu e
          simp [e2] at t2
        go_wp2_with fail
        refine wp_region_later (by kernel_rfl) (by kernel_rfl) ?_
        repeat (go_big_quiet_step (first | fail))
        refine wpQuiet_nil ?_
        intro _ hw'
        obtain ⟨xq, hw''⟩ := hw'
        subst hw''
        have hbq := xq.h
        generalize xq.to = wq at hbq ⊢
        clear Y1 Y2 Y3 Y4 c0 c1 a0 a1 a2 a3 a4 s0 s1
        go_wp2_with fail
        refine ⟨?rel, ?measure⟩
        case rel => exact ⟨k + 1, by omega, by go_num, Lib.hid (take_ne HX.out HN.out hne.out), below_trans hb hbq⟩
        case measure => first | (simp [intOf]; done) | (simp [intOf]; omega)
      · go_wp2_with fail
        refine wp_region_later (by kernel_rfl) (by kernel_rfl) ?_
        repeat (go_big_quiet_step (first | fail))
        refine wpQuiet_nil ?_
        intro _ hw'
        obtain ⟨xq, hw''⟩ := hw'
        subst hw''
        have hbq := xq.h
        generalize xq.to = wq at hbq ⊢
        clear Y1 Y2 Y3 Y4 c0 c1 a0 a1 a2 a3 a4 s0 s1
        go_wp2_with fail
        go_ret
        exact ⟨rfl, below_trans hw1 (below_trans hb25 (below_trans hb hbq))⟩
    · have HNa : Hid (∀ x ∈ D, mkOf x ≠ mkOf d) := by rw [List.take_of_length_le (show D.length ≤ k by omega)] at HN; exact HN
      have hbr := below_trans hb25 hb
      have hwr := below_trans hw1 hbr
      have HMk := Lib.hid (CMake_ok S p L D K d wr (HC.out.below hbr) hwd)
      have HSw : Hid (∀ b ∈ S, w.heap.size ≤ b) := Lib.hid fun b hb' => Nat.le_trans hbB.size (HS.out b hb')
      have hsn : w4.heap.size ∉ S := fun hm => by have := HSl.out _ hm; have := HsV.out; omega
      obtain ⟨E1, hE1⟩ : ∃ z, makeE D d = z := ⟨_, rfl⟩
      rw [hE1] at HMk
      have HE1 := Lib.hid hE1
      clear HN hE1 HOc
      go_wp2_with fail
      refine HMk.out.mono ?_
      rintro e w6 ⟨rfl, S6, hc6, ht6, hs6⟩
      obtain ⟨hb6, hS6⟩ := stepC hwr HSw.out ht6 hs6
      replace s0 := cell_off ht6 hsn s0; replace s1 := cell_off ht6 hsn s1
      have HC6 := Lib.hid hc6
      have HD6 := Lib.hid (CDraw_ok S6 p L (makeL D d) K (mkOf d) w6 hc6 ⟨hwd.1, hwd.2.1⟩)
      have HT6 := Lib.hid ht6; have Hs6 := Lib.hid hs6; have HS6 := Lib.hid hS6
      clear hc6 ht6 hs6 hS6 HMk a0 a1 a2 a3 a4
      cases z1 : (E1 != 0)
      case true =>
        go_wp2_with fail
        go_ret
        exact ⟨rfl, hb6⟩
      obtain ⟨E2, hE2⟩ : ∃ z, drawE K (mkOf d) = z := ⟨_, rfl⟩
      rw [hE2] at HD6
      have HE2 := Lib.hid hE2
      clear hE2
      go_wp2_with fail
      refine HD6.out.mono ?_
      rintro e w7 ⟨rfl, S7, hc7, ht7, hs7⟩
      obtain ⟨hb7, _⟩ := stepC hb6 HS6.out ht7 hs7
      have HT : Hid (Touch wr w7 S) := Lib.hid (HT6.out.fresh ht7 Hs6.out)
      have HC7 := Lib.hid hc7
      clear hc7 ht7 hs7 s0 s1
      cases z2 : (E2 != 0)
      case true =>
        go_wp2_with fail
        go_ret
        exact ⟨rfl, hb7⟩
      have hst : standL (makeL D d) (drawL K (mkOf d)) = standL D K := stand_new HG.out.srtD HNa.out (by rw [HE1.out]; simpa using z1) (by rw [HE2.out]; simpa using z2)
      have HSt := Lib.hid hst
      have HoE7 : Hid (Specs w7 uE Ef) := Lib.hid (HoE.out.touch ((touch_below (below_trans (below_trans hb3 (below_trans hb4 (below_trans hbV2 hb5))) hb) S).trans HT.out) HSl.out).slOf
      have HoP7 : Hid (Pairs w7 uP out) := Lib.hid (HoP.out.touch ((touch_below (below_trans (below_trans hb4 (below_trans hbV2 hb5)) hb) S).trans HT.out) (fun b hb' => Nat.lt_of_lt_of_le (HSl.out b hb') hb2.size)).slOf
      have HoC7 : Hid (RowsD w7 uC (chaL Ef)) := Lib.hid (HoC.out w7 S ((touch_below (below_trans (below_trans hbV2 hb5) hb) S).trans HT.out) (fun b hb' => Nat.lt_of_lt_of_le (HSl.out b hb') hb13.size))
      clear hst HoE HoP HoC HT HT6 Hs6 z1
      have hE := CChains_ok _ L _ _ w7 HC7.out.O
      rw [HSt.out, HEf.out] at hE
      have HE := Lib.hid hE
      clear hE
      go_wp2_with fail
      refine HE.out.mono ?_
      clear HE
      rintro e w8 ⟨uC', rfl, hoC', hb8⟩
      have HoC' := Lib.hid hoC'
      clear hoC'
      have hE := Effective_ok _ L _ _ w8 (HC7.out.below hb8).O
      rw [HSt.out, HEf.out] at hE
      have HE := Lib.hid hE
      clear hE
      go_wp2_with fail
      refine HE.out.mono ?_
      clear HE
      rintro e w9 ⟨uE', rfl, hoE', hb9⟩
      have hb79 := below_trans hb8 hb9
      have HQ := Lib.hid (baseSpecs_ok uE' uE Ef Ef w9 hoE'.slOf (HoE7.out.below hb79))
      rw [decide_eq_true rfl] at HQ
      clear hoE'
      go_wp2_with fail
      refine HQ.out.mono ?_
      clear HQ
      rintro e w10 ⟨rfl, hb10⟩
      have hb710 := below_trans hb79 hb10
      have hE := Claims_ok _ L _ _ w10 (HC7.out.below hb710).O
      rw [HSt.out] at hE
      have HE := Lib.hid hE
      clear hE
      go_wp2_with fail
      refine HE.out.mono ?_
      clear HE
      rintro e w11 ⟨uP', out', rfl, hoP', hcl', _, hb11⟩
      obtain rfl := ClaL.uniq hcl' Hcl.out
      have hb711 := below_trans hb710 hb11
      have HQ := Lib.hid (basePairs_ok uP' uP out' out' w11 hoP'.slOf (HoP7.out.below hb711))
      rw [decide_eq_true rfl] at HQ
      clear hoP' hcl'
      go_wp2_with fail
      refine HQ.out.mono ?_
      clear HQ
      rintro e w12 ⟨rfl, hb12⟩
      have hb712 := below_trans hb711 hb12
      have HQ := Lib.hid (Chains_same uC' uC _ _ w12 (HoC'.out.below (below_trans hb9 (below_trans hb10 (below_trans hb11 hb12)))) (HoC7.out.below hb712))
      rw [decide_eq_true rfl] at HQ
      go_wp2_with fail
      refine HQ.out.mono ?_
      clear HQ
      rintro e w13 ⟨rfl, hb13'⟩
      have tE : (chaE Ef == chaE Ef) = true := by simp
      go_wp2_with fail
      go_ret
      exact ⟨rfl, below_trans hb7 (below_trans hb712 hb13')⟩
set_option maxRecDepth 100000 in
theorem wdrC_lifted (os : Os) (started : os.Started) (H : Type) (enc : TypeId × Value → H) :
    ReturnsInHanded {} Tryz.checked os 5 .any (Rows.corpusWithdrawsSpec.pre6 enc Tryz.prog Tryz.f5 Rows.corpusWithdrawsRow.domain false) (Rows.corpusWithdrawsSpec.post enc Tryz.prog Tryz.f5 false true false false) := by
  refine returnsInHanded_of_change (C := Tryz.checked) Try.own started (by kernel_rfl) Tryz.func5
    (ChangeSpec.witness6 (enc := enc) (C := Tryz.checked) false ⟨#[], #[.slice none 0 0, .agg #[.int .i64 0, .int .i64 0, .int .i64 0, .int .i64 0, .int .i64 0]], []⟩ 8 (by kernel_rfl) (by kernel_rfl) (by kernel_rfl) (by kernel_rfl)) ?_
  intro W base args ds gs before hval0 hW hcnd _
  have hval : ∀ (j : Nat) t v, Tryz.f5.params[j]? = some t → args[j]? = some v → Value.okWide Tryz.prog W .any base t v := hval0
  have hW' := hW
  obtain ⟨p, q, hA0, hV, rfl, hfz, hnd⟩ := hW
  have hA : DataW.TrodAll enc Tryz.prog W 0 (fun _ => true) true Tryz.f5.params.toList args.toList ds p := hA0
  rw [Tryz.params5] at hA hval
  obtain ⟨v0, v1, d0, d1, p0, p1, rfl, rfl, rfl, h0, h1⟩ := trodAll_two hA
  obtain ⟨rfl, rfl⟩ := trodVars_none hV
  have k0 := h0
  have lt0 : ∀ x ∈ p0, x.block < W.heap.size := by obtain ⟨m, hm⟩ := k0; exact DataW.trod_lt m _ _ _ hm
  obtain ⟨x0, hx0⟩ := opens_opsC (hval 0 22 v0 rfl rfl) h0
  have k1 := h1
  have lt1 : ∀ x ∈ p1, x.block < W.heap.size := by obtain ⟨m, hm⟩ := k1; exact DataW.trod_lt m _ _ _ hm
  obtain ⟨x1, rfl, wa1⟩ := opens_decC (hval 1 33 v1 rfl rfl) h1
  clear hA0 hval0
  refine (wdrC_walk v0 x0 x1 W hx0 wa1).mono fun e W' ⟨he, bel⟩ => ?_
  subst he
  exact ⟨_, rfl, _, _, _, [], _, [], hW', trodAll_mk1 (shut_bool Tryz.underlying4 _), trodAll_mk2 (Below.trod Try.laidOut (by kernel_rfl) (of_decide_eq_true (by kernel_rfl)) k0 bel lt0) (Below.trod Try.laidOut (by kernel_rfl) (of_decide_eq_true (by kernel_rfl)) k1 bel lt1), rfl, bel.frame _, fun h => by cases h⟩

theorem wdrC_holds : Rows.CorpusWithdrawsSaid :=
  OpenClaim.holds_of_wide 5 Tryz.f5 rfl rfl rfl rfl rfl rfl rfl ⟨rfl, rfl, rfl, rfl, rfl⟩ rfl rfl rfl rfl rfl (by kernel_rfl) Tryz.func5 holWitC_closed
    (of_decide_eq_true (by kernel_rfl)) (by unfold Func.isWrapper; first | (rw [if_pos (by decide +kernel)]; kernel_rfl) | (rw [if_neg (by decide +kernel)]; exact ⟨rfl, rfl⟩))
    (fun os started H enc _ => wdrC_lifted os started H enc)
end Go.Proofs.YthnckicnnhkkaaaGreat
