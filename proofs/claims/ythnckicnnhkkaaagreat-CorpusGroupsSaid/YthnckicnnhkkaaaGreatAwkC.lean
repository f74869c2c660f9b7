/- The law package of chapter 52: coin, awake. No condition. -/
import Derived.Test.YthnckicnnhkkaaaGreatChaC
import Derived.Test.YthnckicnnhkkaaaGreatConA
import Derived.Test.YthnckicnnhkkaaaGreatSamA
namespace Go.Proofs.YthnckicnnhkkaaaGreat
open Go.RowKit Go.Shelf Go.Maps

theorem slOf_blkC {α : Type} {enc : α → List Value} {k : Nat} {w : World} {g n c : Nat} {t : TypeId} {xs : List α} (hk : ∀ x, (enc x).length = k) (h : w.heap[g]? = some (.cells (xs.flatMap enc).toArray t (0, 0))) (hn : n = xs.length) (h1 : n ≤ c) (h2 : c ≤ maxLen) :
    SlOf enc k w (.slice (some ⟨g, 0, none⟩) n c) xs := by
  subst hn
  refine ⟨some ⟨g, 0, none⟩, c, rfl, h1, h2, flat_len enc k hk xs, fun _ => ⟨g, 0, rfl, heap_lt h, fun j u hu => ?_⟩⟩
  rw [Nat.zero_add, heap_cell h]
  simpa using hu
theorem CLedger_nil (w : World) : Calls Tryz.prog 18 #[.pointer none] w fun e w' => e = .returned (.pointer none) ∧ Below w.heap.size w w' := by
  go_enter Tryz.func18, Tryz.ntmps18
  go_wp2
  go_ret
  exact ⟨rfl, Below.refl _ _⟩
set_option maxHeartbeats 1000000 in
theorem coinC_ok (i o r : Int) (w : World) : Calls Tryz.prog 47 #[.int .i64 i, .int .i64 o, .int .i64 r] w fun e w' => e = .returned (valS (coinT i o r)) ∧ Below w.heap.size w w' := by
  obtain ⟨W, hW, Hz, hbW, hltW, _⟩ := boxed w #[.int .i64 0, .int .i64 0, .int .i64 0, .int .i64 0, .int .i64 0, .int .i64 0, .int .i64 0] 31
  have hk : W.heap[w.heap.size]? = some (.cells [.int .i64 0, .int .i64 0, .int .i64 0, .int .i64 0, .int .i64 0, .int .i64 0, .int .i64 0].toArray 31 (0, 0)) := by rw [← hW]; exact heap_alloc_new _ _
  obtain ⟨⟨r0, r1, r2, r3, r4, r5, r6⟩, g0, g1, g2, g3, g4, g5, g6⟩ := cellsS hk
  have Hk := Lib.hid hk; clear hk
  go_enter Tryz.func47, Tryz.ntmps47
  go_wp2_with fail
  refine bodyPost_ret (results_cell_row rfl _ _ w.heap.size 31 #[.int .i64 i, .int .i64 o, .int .i64 r, .int .i64 1, .int .i64 1, .int .i64 0, .int .i64 1] (0, 0) _ (by simp) (heap_set7 Hk.out) Tryz.underlying31 rfl (by kernel_rfl)) rfl ⟨rfl, below_set7 hbW (Nat.le_refl _) hbW.size⟩
theorem stepC {w w1 w2 : World} {S S' : List Nat} (hb : Below w.heap.size w w1) (hS : ∀ b ∈ S, w.heap.size ≤ b) (ht : Touch w1 w2 S) (hs : ∀ b ∈ S', b ∈ S ∨ w1.heap.size ≤ b) : Below w.heap.size w w2 ∧ ∀ b ∈ S', w.heap.size ≤ b :=
  ⟨((touch_below hb S).trans ht).below hS (Nat.le_refl _), fun b h => (hs b h).elim (hS b) fun h => by have := hb.size; omega⟩
def lC3 : List Spec := [coinT 4 1 1, coinT 7 3 2, coinT 9 5 2]
def dC1 : Dec := ⟨0, 1, 1, 3, 5⟩
def dC2 : Dec := ⟨0, 2, 4, 7, 9⟩
def dC3 : Dec := ⟨0, 3, 3, 9, 4⟩
theorem effC1 : effL (standL [dC1, dC2, dC3] []) lC3 = [coinT 4 1 1, coinT 7 3 2] := by decide
theorem effC2 : effL (standL [dC1, dC2, dC3] [⟨0, 2⟩]) lC3 = [coinT 4 1 1, coinT 7 3 2, coinT 9 3 2] := by decide
theorem claC1 {out : List Pair} (h : ClaL (rawC (standL [dC1, dC2, dC3] []) lC3) out) : out = [⟨7, 4⟩] := by
  rw [show rawC (standL [dC1, dC2, dC3] []) lC3 = [⟨7, 4⟩] from by decide] at h
  exact h.uniq ⟨by simp, by simp⟩
theorem claC2 {out : List Pair} (h : ClaL (rawC (standL [dC1, dC2, dC3] [⟨0, 2⟩]) lC3) out) : out = [⟨9, 4⟩] := by
  rw [show rawC (standL [dC1, dC2, dC3] [⟨0, 2⟩]) lC3 = [⟨9, 4⟩] from by decide] at h
  exact h.uniq ⟨by simp, by simp⟩
theorem chaC1 : chaE [coinT 4 1 1, coinT 7 3 2] = 0 ∧ (chaL [coinT 4 1 1, coinT 7 3 2]).length = 2 := by
  have h0 : ofE [coinT 4 1 1, coinT 7 3 2] = 0 := by decide
  refine ⟨by unfold chaE; rw [if_pos h0]; decide, ?_⟩
  unfold chaL
  rw [if_pos h0, count_chains h0]
  decide
theorem conC1 : gatherE [coinT 4 1 1, coinT 7 3 2] [⟨7, 4⟩] = 0 ∧ consB [coinT 4 1 1, coinT 7 3 2] [⟨7, 4⟩] = true := ⟨by decide, by decide⟩
set_option maxHeartbeats 16000000 in
set_option maxRecDepth 100000 in
theorem wake52_ok (w : World) : Calls Tryz.prog 11 #[] w fun e w' => e = .returned (.bool true) ∧ Below w.heap.size w w' := by
  go_enter Tryz.func11, Tryz.ntmps11
  go_wp2_with fail
  refine (CNew_ok w).mono ?_
  rintro e w0 ⟨p, S0, rfl, hc0, hS0, hb0⟩
  have HC0 := Lib.hid hc0; have HS0 := Lib.hid hS0
  clear hc0 hS0
  go_wp2_with fail
  refine (CClone_nil _).mono ?_
  rintro e v1 ⟨rfl, hv1⟩
  go_wp2_with fail
  refine (CLedger_nil _).mono ?_
  rintro e v2 ⟨rfl, hv2⟩
  go_wp2_with fail
  refine (Remove_nil 1 _).mono ?_
  rintro e w1 ⟨rfl, hv3⟩
  have hv := below_trans hv1 (below_trans hv2 hv3)
  have HC1 := Lib.hid (HC0.out.below hv); have HS1 := HS0
  have hb1 := below_trans hb0 hv
  obtain ⟨S1, hS1⟩ : ∃ z, z = S0 := ⟨_, rfl⟩
  rw [← hS1] at HC1 HS1
  clear HC0 HS0 hb0 hv hv1 hv2 hv3 hS1
  go_wp2_with fail
  refine (coinC_ok 7 3 2 _).mono ?_
  rintro e wc2 ⟨rfl, hbc2⟩
  have hE := Enter_ok S1 p [] [] [] (coinT 7 3 2) _ (HC1.out.below hbc2)
  rw [show enterE [] (coinT 7 3 2) = 0 from by decide, show enterL [] (coinT 7 3 2) = [coinT 7 3 2] from by decide] at hE
  have HE := Lib.hid hE
  clear hE
  go_wp2_with fail
  refine HE.out.mono ?_
  clear HE
  rintro e w2 ⟨rfl, S2, hc', ht', hs'⟩
  obtain ⟨hb2, hS'⟩ := stepC (below_trans hb1 hbc2) HS1.out ht' hs'
  have HC2 := Lib.hid hc'; have HS2 := Lib.hid hS'
  clear hc' ht' hs' hS' HC1 HS1 hb1 hbc2
  go_wp2_with fail
  refine (coinC_ok 9 5 2 _).mono ?_
  rintro e wc3 ⟨rfl, hbc3⟩
  have hE := Enter_ok S2 p [coinT 7 3 2] [] [] (coinT 9 5 2) _ (HC2.out.below hbc3)
  rw [show enterE [coinT 7 3 2] (coinT 9 5 2) = 0 from by decide, show enterL [coinT 7 3 2] (coinT 9 5 2) = [coinT 7 3 2, coinT 9 5 2] from by decide] at hE
  have HE := Lib.hid hE
  clear hE
  go_wp2_with fail
  refine HE.out.mono ?_
  clear HE
  rintro e w3 ⟨rfl, S3, hc', ht', hs'⟩
  obtain ⟨hb3, hS'⟩ := stepC (below_trans hb2 hbc3) HS2.out ht' hs'
  have HC3 := Lib.hid hc'; have HS3 := Lib.hid hS'
  clear hc' ht' hs' hS' HC2 HS2 hb2 hbc3
  go_wp2_with fail
  refine (coinC_ok 4 1 1 _).mono ?_
  rintro e wc4 ⟨rfl, hbc4⟩
  have hE := Enter_ok S3 p [coinT 7 3 2, coinT 9 5 2] [] [] (coinT 4 1 1) _ (HC3.out.below hbc4)
  rw [show enterE [coinT 7 3 2, coinT 9 5 2] (coinT 4 1 1) = 0 from by decide, show enterL [coinT 7 3 2, coinT 9 5 2] (coinT 4 1 1) = lC3 from by decide] at hE
  have HE := Lib.hid hE
  clear hE
  go_wp2_with fail
  refine HE.out.mono ?_
  clear HE
  rintro e w4 ⟨rfl, S4, hc', ht', hs'⟩
  obtain ⟨hb4, hS'⟩ := stepC (below_trans hb3 hbc4) HS3.out ht' hs'
  have HC4 := Lib.hid hc'; have HS4 := Lib.hid hS'
  clear hc' ht' hs' hS' HC3 HS3 hb3 hbc4
  go_wp2_with fail
  refine (coinC_ok 4 2 2 _).mono ?_
  rintro e wc5 ⟨rfl, hbc5⟩
  have hE := Enter_ok S4 p lC3 [] [] (coinT 4 2 2) _ (HC4.out.below hbc5)
  rw [show enterE lC3 (coinT 4 2 2) = 8 from by decide, show enterL lC3 (coinT 4 2 2) = lC3 from by decide] at hE
  have HE := Lib.hid hE
  clear hE
  go_wp2_with fail
  refine HE.out.mono ?_
  clear HE
  rintro e w5 ⟨rfl, S5, hc', ht', hs'⟩
  obtain ⟨hb5, hS'⟩ := stepC (below_trans hb4 hbc5) HS4.out ht' hs'
  have HC5 := Lib.hid hc'; have HS5 := Lib.hid hS'
  clear hc' ht' hs' hS' HC4 HS4 hb4 hbc5
  go_wp2_with fail
  have hE := CMake_ok S5 p lC3 [] [] dC1 _ HC5.out (by unfold wfDc; decide)
  rw [show makeE [] dC1 = 0 from by decide, show makeL [] dC1 = [dC1] from by decide] at hE
  refine hE.mono ?_
  clear hE
  rintro e w6 ⟨rfl, S6, hc', ht', hs'⟩
  obtain ⟨hb6, hS'⟩ := stepC hb5 HS5.out ht' hs'
  have HC6 := Lib.hid hc'; have HS6 := Lib.hid hS'
  clear hc' ht' hs' hS' HC5 HS5 hb5
  go_wp2_with fail
  have hE := CMake_ok S6 p lC3 [dC1] [] dC2 _ HC6.out (by unfold wfDc; decide)
  rw [show makeE [dC1] dC2 = 0 from by decide, show makeL [dC1] dC2 = [dC1, dC2] from by decide] at hE
  refine hE.mono ?_
  clear hE
  rintro e w7 ⟨rfl, S7, hc', ht', hs'⟩
  obtain ⟨hb7, hS'⟩ := stepC hb6 HS6.out ht' hs'
  have HC7 := Lib.hid hc'; have HS7 := Lib.hid hS'
  clear hc' ht' hs' hS' HC6 HS6 hb6
  go_wp2_with fail
  have hE := CMake_ok S7 p lC3 [dC1, dC2] [] dC3 _ HC7.out (by unfold wfDc; decide)
  rw [show makeE [dC1, dC2] dC3 = 0 from by decide, show makeL [dC1, dC2] dC3 = [dC1, dC2, dC3] from by decide] at hE
  refine hE.mono ?_
  clear hE
  rintro e w8 ⟨rfl, S8, hc', ht', hs'⟩
  obtain ⟨hb8, hS'⟩ := stepC hb7 HS7.out ht' hs'
  have HC8 := Lib.hid hc'; have HS8 := Lib.hid hS'
  clear hc' ht' hs' hS' HC7 HS7 hb7
  go_wp2_with fail
  have hE := Effective_ok _ lC3 [dC1, dC2, dC3] [] w8 HC8.out.O
  rw [effC1] at hE
  refine hE.mono ?_
  clear hE
  rintro e w9 ⟨uE, rfl, hoE, hb9⟩
  have HC9 := Lib.hid (HC8.out.below hb9); have HoE := Lib.hid hoE.slOf
  replace hb9 := below_trans hb8 hb9
  clear HC8 hb8 hoE
  go_wp2_with fail
  refine (Claims_ok _ lC3 [dC1, dC2, dC3] [] w9 HC9.out.O).mono ?_
  rintro e w10 ⟨uP, out, rfl, hoP, hcl, _, hb10⟩
  obtain rfl := claC1 hcl
  have HC10 := Lib.hid (HC9.out.below hb10); have HoP := Lib.hid hoP.slOf; have HoE2 := Lib.hid (HoE.out.below hb10)
  replace hb10 := below_trans hb9 hb10
  clear HC9 hb9 hoP hcl HoE
  go_wp2_with fail
  have hE := CChains_ok _ lC3 [dC1, dC2, dC3] [] w10 HC10.out.O
  rw [effC1, chaC1.1] at hE
  refine hE.mono ?_
  clear hE
  rintro e w11 ⟨uC, rfl, hR, hb11⟩
  obtain ⟨AC, cC, rfl, _⟩ := hR.rows.cells
  rw [chaC1.2] at hR ⊢
  have HC11 := Lib.hid (HC10.out.below hb11); have HoP2 := Lib.hid (HoP.out.below hb11); have HoE3 := Lib.hid (HoE2.out.below hb11)
  replace hb11 := below_trans hb10 hb11
  clear HC10 hb10 HoP HoE2 hR
  go_wp2_with fail
  refine (CCons_ok _ lC3 [dC1, dC2, dC3] [] w11 HC11.out.O).mono ?_
  rintro e w12 ⟨C, hcl, rfl, hb12⟩
  obtain rfl := claC1 hcl
  rw [effC1, conC1.1, conC1.2]
  have HC12 := Lib.hid (HC11.out.below hb12); have HoP3 := Lib.hid (HoP2.out.below hb12); have HoE4 := Lib.hid (HoE3.out.below hb12)
  replace hb12 := below_trans hb11 hb12
  clear HC11 hb11 HoP2 HoE3 hcl
  go_wp2_with fail
  refine (coinC_ok 4 1 1 _).mono ?_
  rintro e w13 ⟨rfl, hb13⟩
  go_wp2_with fail
  refine (coinC_ok 7 3 2 _).mono ?_
  rintro e w14 ⟨rfl, hb14⟩
  obtain ⟨W15, hW15, Hz15, hb15, hlt15, _⟩ := boxed w14 #[.int .i64 (coinT 4 1 1).id, .int .i64 (coinT 4 1 1).obv, .int .i64 (coinT 4 1 1).rev, .int .i64 (coinT 4 1 1).os, .int .i64 (coinT 4 1 1).rs, .int .i64 (coinT 4 1 1).ax, .int .i64 (coinT 4 1 1).wt, .int .i64 (coinT 7 3 2).id, .int .i64 (coinT 7 3 2).obv, .int .i64 (coinT 7 3 2).rev, .int .i64 (coinT 7 3 2).os, .int .i64 (coinT 7 3 2).rs, .int .i64 (coinT 7 3 2).ax, .int .i64 (coinT 7 3 2).wt] 31
  have s15 : Specs W15 (.slice (some ⟨w14.heap.size, 0, none⟩) 2 2) [coinT 4 1 1, coinT 7 3 2] := slOf_blkC (t := 31) lenS (by rw [← hW15]; exact heap_alloc_new _ _) rfl (by decide) (by decide)
  have hw15 := below_trans hb13 (below_trans hb14 hb15)
  have HP := Lib.hid (baseSpecs_ok _ _ _ _ W15 (HoE4.out.below hw15) s15)
  rw [decide_eq_true rfl] at HP
  clear s15
  go_wp2_with fail
  refine HP.out.mono ?_
  rintro e w16 ⟨rfl, hb16⟩
  obtain ⟨W17, hW17, Hz17, hb17, hlt17, _⟩ := boxed w16 #[.int .i64 7, .int .i64 4] 87
  have s17 : Pairs W17 (.slice (some ⟨w16.heap.size, 0, none⟩) 1 1) [⟨7, 4⟩] := slOf_blkC (t := 87) lenP (by rw [← hW17]; exact heap_alloc_new _ _) rfl (by decide) (by decide)
  have hw17 := below_trans hw15 (below_trans hb16 hb17)
  have HQ := Lib.hid (basePairs_ok _ _ _ _ W17 (HoP3.out.below hw17) s17)
  rw [decide_eq_true rfl] at HQ
  clear s17 HP hW15
  go_wp2_with fail
  refine HQ.out.mono ?_
  rintro e w18 ⟨rfl, hb18⟩
  have hw18 := below_trans hw17 hb18
  have HC18 := Lib.hid (HC12.out.below hw18)
  have hb18 := below_trans hb12 hw18
  clear HQ hW17 HoE4 HoP3 HC12 hb12 hw17 hw18
  go_wp2_with fail
  have hE := CDraw_ok S8 p lC3 [dC1, dC2, dC3] [] ⟨0, 2⟩ _ HC18.out (by unfold wfMk; decide)
  rw [show drawE [] ⟨0, 2⟩ = 0 from by decide, show drawL [] ⟨0, 2⟩ = [⟨0, 2⟩] from by decide] at hE
  refine hE.mono ?_
  clear hE
  rintro e w19 ⟨rfl, S19, hc', ht', hs'⟩
  obtain ⟨hb19, _⟩ := stepC hb18 HS8.out ht' hs'
  have HC19 := Lib.hid hc'
  clear hc' ht' hs' HC18 hb18 HS8
  go_wp2_with fail
  have hE := Effective_ok _ lC3 [dC1, dC2, dC3] [⟨0, 2⟩] w19 HC19.out.O
  rw [effC2] at hE
  refine hE.mono ?_
  clear hE
  rintro e w20 ⟨uF, rfl, hoF, hb20⟩
  have HoF := Lib.hid hoF.slOf
  clear hoF
  go_wp2_with fail
  refine (coinC_ok 4 1 1 _).mono ?_
  rintro e w21 ⟨rfl, hb21⟩
  go_wp2_with fail
  refine (coinC_ok 7 3 2 _).mono ?_
  rintro e w22 ⟨rfl, hb22⟩
  go_wp2_with fail
  refine (coinC_ok 9 3 2 _).mono ?_
  rintro e w23 ⟨rfl, hb23⟩
  obtain ⟨W24, hW24, Hz24, hb24, hlt24, _⟩ := boxed w23 #[.int .i64 (coinT 4 1 1).id, .int .i64 (coinT 4 1 1).obv, .int .i64 (coinT 4 1 1).rev, .int .i64 (coinT 4 1 1).os, .int .i64 (coinT 4 1 1).rs, .int .i64 (coinT 4 1 1).ax, .int .i64 (coinT 4 1 1).wt, .int .i64 (coinT 7 3 2).id, .int .i64 (coinT 7 3 2).obv, .int .i64 (coinT 7 3 2).rev, .int .i64 (coinT 7 3 2).os, .int .i64 (coinT 7 3 2).rs, .int .i64 (coinT 7 3 2).ax, .int .i64 (coinT 7 3 2).wt, .int .i64 (coinT 9 3 2).id, .int .i64 (coinT 9 3 2).obv, .int .i64 (coinT 9 3 2).rev, .int .i64 (coinT 9 3 2).os, .int .i64 (coinT 9 3 2).rs, .int .i64 (coinT 9 3 2).ax, .int .i64 (coinT 9 3 2).wt] 31
  have s24 : Specs W24 (.slice (some ⟨w23.heap.size, 0, none⟩) 3 3) [coinT 4 1 1, coinT 7 3 2, coinT 9 3 2] := slOf_blkC (t := 31) lenS (by rw [← hW24]; exact heap_alloc_new _ _) rfl (by decide) (by decide)
  have hw24 := below_trans hb21 (below_trans hb22 (below_trans hb23 hb24))
  have HP := Lib.hid (baseSpecs_ok _ _ _ _ W24 (HoF.out.below hw24) s24)
  rw [decide_eq_true rfl] at HP
  clear s24
  go_wp2_with fail
  refine HP.out.mono ?_
  rintro e w25 ⟨rfl, hb25⟩
  have hw25 := below_trans hb20 (below_trans hw24 hb25)
  have HC25 := Lib.hid (HC19.out.below hw25)
  have hb25 := below_trans hb19 hw25
  clear HP hW24 HoF HC19 hb19 hw25 hw24 hb20
  go_wp2_with fail
  refine (Claims_ok _ lC3 [dC1, dC2, dC3] [⟨0, 2⟩] w25 HC25.out.O).mono ?_
  rintro e w26 ⟨uG, out, rfl, hoG, hcl, _, hb26⟩
  obtain rfl := claC2 hcl
  obtain ⟨W27, hW27, Hz27, hb27, hlt27, _⟩ := boxed w26 #[.int .i64 9, .int .i64 4] 87
  have s27 : Pairs W27 (.slice (some ⟨w26.heap.size, 0, none⟩) 1 1) [⟨9, 4⟩] := slOf_blkC (t := 87) lenP (by rw [← hW27]; exact heap_alloc_new _ _) rfl (by decide) (by decide)
  have HQ := Lib.hid (basePairs_ok _ _ _ _ W27 (hoG.slOf.below hb27) s27)
  rw [decide_eq_true rfl] at HQ
  clear s27 hoG hcl
  go_wp2_with fail
  refine HQ.out.mono ?_
  rintro e w28 ⟨rfl, hb28⟩
  have hw28 := below_trans hb26 (below_trans hb27 hb28)
  have HC28 := Lib.hid (HC25.out.below hw28)
  have hb28 := below_trans hb25 hw28
  clear HQ hW27 HC25 hb25 hw28
  go_wp2_with fail
  refine (CClone_ok S19 p lC3 [dC1, dC2, dC3] [⟨0, 2⟩] _ HC28.out).mono ?_
  rintro e w29 ⟨p', S', rfl, hc', _, hb29⟩
  have HC29 := Lib.hid (HC28.out.below hb29)
  have hE := CSame_ok _ _ _ _ _ _ _ _ w29 HC29.out.O hc'.O
  rw [show (decide (lC3 = lC3) && (decide ([dC1, dC2, dC3] = [dC1, dC2, dC3]) && decide (([⟨0, 2⟩] : List Mrk) = [⟨0, 2⟩]))) = true from by simp] at hE
  have HE := Lib.hid hE
  clear hE hc'
  go_wp2_with fail
  refine HE.out.mono ?_
  rintro e w30 ⟨rfl, hb30⟩
  have hE := CSame_ok _ (.pointer none) _ _ _ _ _ _ w30 (HC29.out.below hb30).O (.inl ⟨rfl, rfl, rfl, rfl⟩)
  rw [show (decide (lC3 = []) && (decide ([dC1, dC2, dC3] = []) && decide (([⟨0, 2⟩] : List Mrk) = []))) = false from by decide] at hE
  clear HE
  have HE := Lib.hid hE
  clear hE
  go_wp2_with fail
  refine HE.out.mono ?_
  rintro e w31 ⟨rfl, hb31⟩
  go_wp2_with fail
  go_ret
  exact ⟨rfl, below_trans hb28 (below_trans hb29 (below_trans hb30 hb31))⟩
end Go.Proofs.YthnckicnnhkkaaaGreat
