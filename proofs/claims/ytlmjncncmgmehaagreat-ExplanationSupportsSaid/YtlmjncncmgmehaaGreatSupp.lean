/- The law ExplanationSupports. No condition. -/
import Derived.Test.YtlmjncncmgmehaaGreatAwkX
import Derived.Test.YtlmjncncmgmehaaGreatRows
namespace Go.Proofs.YtlmjncncmgmehaaGreat
open Go.RowKit Go.Shelf Go.ChangeShapes Go.WideShapes Go.ChangeAt Go.Maps

set_option maxHeartbeats 8000000 in
set_option maxRecDepth 100000 in
theorem supports_walk (v iv : Value) (l : List Spec) (da db : Die) (set : List Int) (w : World) (h : Specs w v l) (hi : Ints w iv set) (hda : wfD da) (hdb : wfD db) :
    Calls Tryz.prog 3 #[v, .agg #[.int .i64 da.side, .int .i64 da.num, .int .i64 db.side, .int .i64 db.num], iv] w fun e w' => e = .returned (.bool true) ∧ Below w.heap.size w w' := by
  obtain ⟨X0, hX0, HzX0, hX, hltX0, hcX0⟩ := boxed w #[.int .i64 da.side, .int .i64 da.num, .int .i64 db.side, .int .i64 db.num] 25
  have a0 := hcX0 0 _ rfl; have a1 := hcX0 1 _ rfl; have b0 := hcX0 2 _ rfl; have b1 := hcX0 3 _ rfl
  have h0 := h.below hX
  have hi0 := hi.below hX
  obtain ⟨A, c, rfl, _⟩ := id h
  obtain ⟨Ai, ci, rfl, _⟩ := id hi
  have Hh := Lib.hid h; have Hi := Lib.hid hi
  clear hcX0 h hi
  go_enter Tryz.func3, Tryz.ntmps3
  go_wp2_with fail
  refine (wake51_ok _).mono ?_
  rintro e w1 ⟨rfl, hb1⟩
  have hw1 := below_trans hX hb1
  have a0 := cell_later hb1 a0; have a1 := cell_later hb1 a1; have b0 := cell_later hb1 b0; have b1 := cell_later hb1 b1
  have hF := Few51_ok _ l w1 (Hh.out.below hw1)
  cases hf : fewB51 l
  · rw [hf] at hF
    have HF := Lib.hid hF; clear hF hf a0 a1 b0 b1
    go_wp2_with fail
    refine HF.out.mono ?_
    rintro e w2 ⟨rfl, rfl⟩
    go_wp2_with fail
    refine (wake51_ok _).mono ?_
    rintro e w3 ⟨rfl, hb3⟩
    go_wp2_with fail
    go_ret
    exact ⟨rfl, below_trans hw1 hb3⟩
  rw [hf] at hF
  have hl : l.length < 200 := by
    simp only [fewB51, Bool.or_eq_true, Bool.and_eq_true, decide_eq_true_eq] at hf
    omega
  have HF := Lib.hid hF; have Hf := Lib.hid hf; clear hF hf hX0
  by_cases hs : set.length ≤ 100
  case neg =>
    have t : (100 : Int) < (set.length : Int) := by omega
    clear a0 a1 b0 b1
    go_wp2_with fail
    refine HF.out.mono ?_
    rintro e w2 ⟨rfl, rfl⟩
    go_wp2_with fail
    refine (wake51_ok _).mono ?_
    rintro e w3 ⟨rfl, hb3⟩
    go_wp2_with fail
    go_ret
    exact ⟨rfl, below_trans hw1 hb3⟩
  have t : (set.length : Int) ≤ 100 := by omega
  go_wp2_with fail
  refine HF.out.mono ?_
  rintro e w2 ⟨rfl, rfl⟩
  have H1 := fun y : Later w1 => IsE_ok _ _ l da db set y.to ((Hh.out.below hw1).below y.h) ((Hi.out.below hw1).below y.h) hda hdb (by omega)
  have H2 := fun y : Later w1 => IsR_ok _ _ l da db set y.to ((Hh.out.below hw1).below y.h) ((Hi.out.below hw1).below y.h) (by omega)
  have H3 := fun y : Later w1 => MinE_ok _ _ l da db set y.to ((Hh.out.below hw1).below y.h) ((Hi.out.below hw1).below y.h) hda hdb (by omega) (by omega)
  have H4 := fun y : Later w1 => MinR_ok _ _ l da db set y.to ((Hh.out.below hw1).below y.h) ((Hi.out.below hw1).below y.h) (by omega) (by omega)
  obtain ⟨B1, hB1⟩ : ∃ B, isS l da db set = B := ⟨_, rfl⟩
  obtain ⟨B2, hB2⟩ : ∃ B, minS l da db set = B := ⟨_, rfl⟩
  rw [hB1] at H1 H2
  rw [hB2] at H3 H4
  have K1 := Lib.hid H1; have K2 := Lib.hid H2; have K3 := Lib.hid H3; have K4 := Lib.hid H4
  have P0 := Later.cell_all a0; have P1 := Later.cell_all a1; have Q0 := Later.cell_all b0; have Q1 := Later.cell_all b1
  clear H1 H2 H3 H4 a0 a1 b0 b1 hB1 hB2 h0 hi0
  go_wp2_with fail
  refine wp_region_later (by kernel_rfl) (by kernel_rfl) ?_
  repeat (go_big_quiet_step (first | (go_at_call 12; with_reducible exact calls_later (K1.out _)) | (go_at_call 13; with_reducible exact calls_later (K2.out _)) | (go_at_call 14; with_reducible exact calls_later (K3.out _)) | (go_at_call 15; with_reducible exact calls_later (K4.out _))))
  refine wpQuiet_nil ?_
  intro _ hw'
  obtain ⟨xq, hw''⟩ := hw'
  subst hw''
  have hb3 := xq.h
  generalize xq.to = w3 at hb3 ⊢
  clear P0 P1 Q0 Q1
  go_wp2_with fail
  go_ret
  exact ⟨rfl, below_trans hw1 hb3⟩
theorem supports_walk' (v : Value) (l : List Spec) (da db : Die) (iv : Value) (set : List Int) (w : World) (h : Specs w v l) (hda : wfD da) (hdb : wfD db) (hi : Ints w iv set) :
    Calls Tryz.prog 3 #[v, .agg #[.int .i64 da.side, .int .i64 da.num, .int .i64 db.side, .int .i64 db.num], iv] w fun e w' => e = .returned (.bool true) ∧ Below w.heap.size w w' := supports_walk v iv l da db set w h hi hda hdb

set_option maxRecDepth 100000 in
theorem supports_lifted (os : Os) (started : os.Started) (H : Type) (enc : TypeId × Value → H) :
    ReturnsInHanded {} Tryz.checked os 3 .any (Rows.explanationSupportsSpec.pre6 enc Tryz.prog Tryz.f3 Rows.explanationSupportsRow.domain false) (Rows.explanationSupportsSpec.post enc Tryz.prog Tryz.f3 false true false false) := by
  refine returnsInHanded_of_change (C := Tryz.checked) Try.own started (by kernel_rfl) Tryz.func3
    (ChangeSpec.witness6 (enc := enc) (C := Tryz.checked) false ⟨#[], #[.slice none 0 0, .agg #[.int .i64 0, .int .i64 0, .int .i64 0, .int .i64 0], .slice none 0 0], []⟩ 8 (by kernel_rfl) (by kernel_rfl) (by kernel_rfl) (by kernel_rfl)) ?_
  intro W base args ds gs before hval0 hW hcnd _
  have hval : ∀ (j : Nat) t v, Tryz.f3.params[j]? = some t → args[j]? = some v → Value.okWide Tryz.prog W .any base t v := hval0
  have hW' := hW
  obtain ⟨p, q, hA0, hV, rfl, hfz, hnd⟩ := hW
  have hA : DataW.TrodAll enc Tryz.prog W 0 (fun _ => true) true Tryz.f3.params.toList args.toList ds p := hA0
  rw [Tryz.params3] at hA hval
  obtain ⟨v0, v1, v2, d0, d1, d2, p0, p1, p2, rfl, rfl, rfl, h0, h1, h2⟩ := trodAll_three hA
  obtain ⟨rfl, rfl⟩ := trodVars_none hV
  have k0 := h0
  have lt0 : ∀ x ∈ p0, x.block < W.heap.size := by obtain ⟨m, hm⟩ := k0; exact DataW.trod_lt m _ _ _ hm
  obtain ⟨x0, hx0⟩ := opens_specs (hval 0 22 v0 rfl rfl) h0
  have k1 := h1
  have lt1 : ∀ x ∈ p1, x.block < W.heap.size := by obtain ⟨m, hm⟩ := k1; exact DataW.trod_lt m _ _ _ hm
  obtain ⟨x1, y1, rfl, wa1, wb1⟩ := opens_dd (hval 1 25 v1 rfl rfl) h1
  have k2 := h2
  have lt2 : ∀ x ∈ p2, x.block < W.heap.size := by obtain ⟨m, hm⟩ := k2; exact DataW.trod_lt m _ _ _ hm
  obtain ⟨x2, hx2⟩ := opens_ints (hval 2 26 v2 rfl rfl) h2
  clear hA0 hval0
  refine (supports_walk' v0 x0 x1 y1 v2 x2 W hx0 wa1 wb1 hx2).mono fun e W' ⟨he, bel⟩ => ?_
  subst he
  exact ⟨_, rfl, _, _, _, [], _, [], hW', trodAll_mk1 (shut_bool Tryz.underlying4 _), trodAll_mk3 (Below.trod Try.laidOut (by kernel_rfl) (of_decide_eq_true (by kernel_rfl)) k0 bel lt0) (Below.trod Try.laidOut (by kernel_rfl) (of_decide_eq_true (by kernel_rfl)) k1 bel lt1) (Below.trod Try.laidOut (by kernel_rfl) (of_decide_eq_true (by kernel_rfl)) k2 bel lt2), rfl, bel.frame _, fun h => by cases h⟩

theorem supports_holds : Rows.ExplanationSupportsSaid :=
  OpenClaim.holds_of_wide 3 Tryz.f3 rfl rfl rfl rfl rfl rfl rfl ⟨rfl, rfl, rfl, rfl, rfl⟩ rfl rfl rfl rfl rfl (by kernel_rfl) Tryz.func3 (by kernel_rfl)
    (of_decide_eq_true (by kernel_rfl)) (by unfold Func.isWrapper; first | (rw [if_pos (by decide +kernel)]; kernel_rfl) | (rw [if_neg (by decide +kernel)]; exact ⟨rfl, rfl⟩))
    (fun os started H enc _ => supports_lifted os started H enc)
end Go.Proofs.YtlmjncncmgmehaaGreat
