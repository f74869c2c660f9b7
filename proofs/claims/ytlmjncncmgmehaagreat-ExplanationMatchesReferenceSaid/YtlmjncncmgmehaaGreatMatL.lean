/- The law ExplanationMatchesReference. No condition. -/
import Derived.Test.YtlmjncncmgmehaaGreatAwkX
import Derived.Test.YtlmjncncmgmehaaGreatExrI
import Derived.Test.YtlmjncncmgmehaaGreatRows
namespace Go.Proofs.YtlmjncncmgmehaaGreat
open Go.RowKit Go.Shelf Go.ChangeShapes Go.WideShapes Go.ChangeAt Go.Maps

set_option maxHeartbeats 8000000 in
set_option maxRecDepth 100000 in
theorem match51_walk0 (v : Value) (l : List Spec) (da db : Die) (w : World) (h : Specs w v l) (hda : wfD da) (hdb : wfD db) :
    Calls Tryz.prog 4 #[v, vlD da, vlD db] w fun e w' => e = .returned (.bool true) ∧ Below w.heap.size w w' := by
  obtain ⟨Y0, hY0, HzY0, hbY0, hltY0, hcY0⟩ := boxed w #[.int .i64 da.side, .int .i64 da.num] 24
  obtain ⟨X0, hX0, HzX0, hbX0, hltX0, hcX0⟩ := boxed Y0 #[.int .i64 db.side, .int .i64 db.num] 24
  have hX := below_trans hbY0 hbX0
  have a0 := cell_later hbX0 (hcY0 0 _ rfl); have a1 := cell_later hbX0 (hcY0 1 _ rfl)
  have b0 := hcX0 0 _ rfl; have b1 := hcX0 1 _ rfl
  obtain ⟨A, c, rfl, _⟩ := id h
  have Hh := Lib.hid h
  clear hcX0 hcY0 h
  go_enter Tryz.func4, Tryz.ntmps4
  go_wp2_with fail
  refine (wake51_ok _).mono ?_
  rintro e w1 ⟨rfl, hb1⟩
  have hw1 := below_trans hX hb1
  have a0 := cell_later hb1 a0; have a1 := cell_later hb1 a1; have b0 := cell_later hb1 b0; have b1 := cell_later hb1 b1
  have hF := Few51_ok _ l w1 (Hh.out.below hw1)
  cases hf : fewB51 l
  · rw [hf] at hF
    have HF := Lib.hid hF; clear hF hf a0 a1 b0 b1
    go_wp2_with fail
    refine HF.out.mono ?_
    rintro e w2 ⟨rfl, rfl⟩
    go_wp2_with fail
    refine (wake51_ok _).mono ?_
    rintro e w3 ⟨rfl, hb3⟩
    go_wp2_with fail
    go_ret
    exact ⟨rfl, below_trans hw1 hb3⟩
  rw [hf] at hF
  have hl : l.length < 200 := by
    simp only [fewB51, Bool.or_eq_true, Bool.and_eq_true, decide_eq_true_eq] at hf
    omega
  have HF := Lib.hid hF; have Hf := Lib.hid hf; clear hF hf hX0
  have H1 := Lib.hid (LeastX_ok _ l da db w1 (Hh.out.below hw1) hda hdb)
  obtain ⟨E, hE⟩ : ∃ E, leastE l da db = E := ⟨_, rfl⟩
  rw [hE] at H1
  have HE := Lib.hid hE
  clear hE hY0
  go_wp2_with fail
  refine HF.out.mono ?_
  rintro e w2 ⟨rfl, rfl⟩
  go_wp2_with fail
  refine H1.out.mono ?_
  rintro e w3 ⟨u3, L, rfl, hi3, hL, hb3⟩
  have a0 := cell_later hb3 a0; have a1 := cell_later hb3 a1; have b0 := cell_later hb3 b0; have b1 := cell_later hb3 b1
  have hw3 := below_trans hw1 hb3
  have H2 := LeastR_ok _ l da db w3 (Hh.out.below hw3) (by omega)
  rw [HE.out] at H2
  have H2' := Lib.hid H2
  have HL := Lib.hid hL
  clear H1 HF H2 hL
  go_wp2_with fail
  refine H2'.out.mono ?_
  rintro e w4 ⟨u4, L4, rfl, hi4, hL4, hb4⟩
  obtain rfl := hL4.uniq HL.out
  have a0 := cell_later hb4 a0; have a1 := cell_later hb4 a1; have b0 := cell_later hb4 b0; have b1 := cell_later hb4 b1
  have hw4 := below_trans hw3 hb4
  have hi3 := hi3.below hb4
  have H3 := NeedX_ok _ l da db w4 (Hh.out.below hw4) hda hdb
  rw [HE.out] at H3
  have H3' := Lib.hid H3
  clear hL4 H2' H3
  go_wp2_with fail
  refine H3'.out.mono ?_
  rintro e w5 ⟨u5, rfl, hn5, hb5⟩
  have a0 := cell_later hb5 a0; have a1 := cell_later hb5 a1; have b0 := cell_later hb5 b0; have b1 := cell_later hb5 b1
  have hw5 := below_trans hw4 hb5
  have hi3 := hi3.below hb5; have hi4 := hi4.below hb5
  have H4 := NeedR_ok _ l da db w5 (Hh.out.below hw5) (by omega)
  rw [HE.out] at H4
  have H4' := Lib.hid H4
  clear H3' H4
  go_wp2_with fail
  refine H4'.out.mono ?_
  rintro e w6 ⟨u6, rfl, hn6, hb6⟩
  have hw6 := below_trans hw5 hb6
  have HB := Lib.hid (baseInts_ok _ _ _ _ w6 (hi3.below hb6) (hi4.below hb6))
  have Hn5 := Lib.hid (hn5.below hb6); have Hn6 := Lib.hid hn6
  clear H4' hi3 hi4 hn5 hn6 a0 a1 b0 b1
  go_wp2_with fail
  refine HB.out.mono ?_
  rintro e w7 ⟨rfl, hb7⟩
  have HB2 := Lib.hid (baseInts_ok _ _ _ _ w7 (Hn5.out.below hb7) (Hn6.out.below hb7))
  go_wp2_with fail
  refine HB2.out.mono ?_
  rintro e w8 ⟨rfl, hb8⟩
  go_wp2_with fail
  go_ret
  exact ⟨rfl, below_trans hw6 (below_trans hb7 hb8)⟩

theorem match51_walk (v : Value) (l : List Spec) (da db : Die) (w : World) (h : Specs w v l) (a1 : wfI da.side) (a2 : wfI da.num) (b1 : wfI db.side) (b2 : wfI db.num) :
    Calls Tryz.prog 4 #[v, vlD da, vlD db] w fun e w' => e = .returned (.bool true) ∧ Below w.heap.size w w' := match51_walk0 v l da db w h ⟨a1, a2⟩ ⟨b1, b2⟩
set_option maxRecDepth 100000 in
theorem match51_lifted (os : Os) (started : os.Started) (H : Type) (enc : TypeId × Value → H) :
    ReturnsInHanded {} Tryz.checked os 4 .any (Rows.explanationMatchesReferenceSpec.pre6 enc Tryz.prog Tryz.f4 Rows.explanationMatchesReferenceRow.domain false) (Rows.explanationMatchesReferenceSpec.post enc Tryz.prog Tryz.f4 false true false false) := by
  refine returnsInHanded_of_change (C := Tryz.checked) Try.own started (by kernel_rfl) Tryz.func4
    (ChangeSpec.witness6 (enc := enc) (C := Tryz.checked) false ⟨#[], #[.slice none 0 0, .agg #[.int .i64 0, .int .i64 0], .agg #[.int .i64 0, .int .i64 0]], []⟩ 8 (by kernel_rfl) (by kernel_rfl) (by kernel_rfl) (by kernel_rfl)) ?_
  intro W base args ds gs before hval0 hW hcnd _
  have hval : ∀ (j : Nat) t v, Tryz.f4.params[j]? = some t → args[j]? = some v → Value.okWide Tryz.prog W .any base t v := hval0
  have hW' := hW
  obtain ⟨p, q, hA0, hV, rfl, hfz, hnd⟩ := hW
  have hA : DataW.TrodAll enc Tryz.prog W 0 (fun _ => true) true Tryz.f4.params.toList args.toList ds p := hA0
  rw [Tryz.params4] at hA hval
  obtain ⟨v0, v1, v2, d0, d1, d2, p0, p1, p2, rfl, rfl, rfl, h0, h1, h2⟩ := trodAll_three hA
  obtain ⟨rfl, rfl⟩ := trodVars_none hV
  have k0 := h0
  have lt0 : ∀ x ∈ p0, x.block < W.heap.size := by obtain ⟨m, hm⟩ := k0; exact DataW.trod_lt m _ _ _ hm
  obtain ⟨x0, hx0⟩ := opens_specs (hval 0 22 v0 rfl rfl) h0
  have k1 := h1
  have lt1 : ∀ x ∈ p1, x.block < W.heap.size := by obtain ⟨m, hm⟩ := k1; exact DataW.trod_lt m _ _ _ hm
  obtain ⟨x1, rfl, wa1, wb1⟩ := opens_die (hval 1 24 v1 rfl rfl) h1
  have k2 := h2
  have lt2 : ∀ x ∈ p2, x.block < W.heap.size := by obtain ⟨m, hm⟩ := k2; exact DataW.trod_lt m _ _ _ hm
  obtain ⟨x2, rfl, wa2, wb2⟩ := opens_die (hval 2 24 v2 rfl rfl) h2
  clear hA0 hval0
  refine (match51_walk v0 x0 x1 x2 W hx0 wa1 wb1 wa2 wb2).mono fun e W' ⟨he, bel⟩ => ?_
  subst he
  exact ⟨_, rfl, _, _, _, [], _, [], hW', trodAll_mk1 (shut_bool Tryz.underlying4 _), trodAll_mk3 (Below.trod Try.laidOut (by kernel_rfl) (of_decide_eq_true (by kernel_rfl)) k0 bel lt0) (Below.trod Try.laidOut (by kernel_rfl) (of_decide_eq_true (by kernel_rfl)) k1 bel lt1) (Below.trod Try.laidOut (by kernel_rfl) (of_decide_eq_true (by kernel_rfl)) k2 bel lt2), rfl, bel.frame _, fun h => by cases h⟩

theorem match51_holds : Rows.ExplanationMatchesReferenceSaid :=
  OpenClaim.holds_of_wide 4 Tryz.f4 rfl rfl rfl rfl rfl rfl rfl ⟨rfl, rfl, rfl, rfl, rfl⟩ rfl rfl rfl rfl rfl (by kernel_rfl) Tryz.func4 (by kernel_rfl)
    (of_decide_eq_true (by kernel_rfl)) (by unfold Func.isWrapper; first | (rw [if_pos (by decide +kernel)]; kernel_rfl) | (rw [if_neg (by decide +kernel)]; exact ⟨rfl, rfl⟩))
    (fun os started H enc _ => match51_lifted os started H enc)
end Go.Proofs.YtlmjncncmgmehaaGreat
