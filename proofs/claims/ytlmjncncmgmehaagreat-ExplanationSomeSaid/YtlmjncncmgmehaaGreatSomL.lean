/- The law ExplanationSome. No condition. -/
import Derived.Test.YtlmjncncmgmehaaGreatAwkX
import Derived.Test.YtlmjncncmgmehaaGreatExrI
import Derived.Test.YtlmjncncmgmehaaGreatRows
namespace Go.Proofs.YtlmjncncmgmehaaGreat
open Go.RowKit Go.Shelf Go.ChangeShapes Go.WideShapes Go.ChangeAt Go.Maps

theorem someS_uniq {l : List Spec} {a b : Die} {set L M : List Int} (h : SomeS l a b set L) (k : SomeS l a b set M) : L = M := by
  unfold SomeS at h k
  split at h
  · rename_i h0
    rw [if_pos h0] at k
    exact h.uniq k
  · rename_i h0
    rw [if_neg h0] at k
    rw [h, k]
set_option maxHeartbeats 8000000 in
set_option maxRecDepth 100000 in
theorem some_walk (v : Value) (l : List Spec) (da db : Die) (iv : Value) (set : List Int) (w : World) (h : Specs w v l) (hda : wfD da) (hdb : wfD db) (hi : Ints w iv set) :
    Calls Tryz.prog 7 #[v, .agg #[.int .i64 da.side, .int .i64 da.num, .int .i64 db.side, .int .i64 db.num], iv] w fun e w' => e = .returned (.bool true) ∧ Below w.heap.size w w' := by
  obtain ⟨X0, hX0, HzX0, hX, hltX0, hcX0⟩ := boxed w #[.int .i64 da.side, .int .i64 da.num, .int .i64 db.side, .int .i64 db.num] 25
  have a0 := hcX0 0 _ rfl; have a1 := hcX0 1 _ rfl; have b0 := hcX0 2 _ rfl; have b1 := hcX0 3 _ rfl
  obtain ⟨A, c, rfl, _⟩ := id h
  obtain ⟨Ai, ci, rfl, _⟩ := id hi
  have Hh := Lib.hid h; have Hi := Lib.hid hi
  clear hcX0 h hi
  go_enter Tryz.func7, Tryz.ntmps7
  go_wp2_with fail
  refine (wake51_ok _).mono ?_
  rintro e w1 ⟨rfl, hb1⟩
  have hw1 := below_trans hX hb1
  have a0 := cell_later hb1 a0; have a1 := cell_later hb1 a1; have b0 := cell_later hb1 b0; have b1 := cell_later hb1 b1
  have hF := Few51_ok _ l w1 (Hh.out.below hw1)
  cases hf : fewB51 l
  · rw [hf] at hF
    have HF := Lib.hid hF; clear hF hf a0 a1 b0 b1
    go_wp2_with fail
    refine HF.out.mono ?_
    rintro e w2 ⟨rfl, rfl⟩
    go_wp2_with fail
    refine (wake51_ok _).mono ?_
    rintro e w3 ⟨rfl, hb3⟩
    go_wp2_with fail
    go_ret
    exact ⟨rfl, below_trans hw1 hb3⟩
  rw [hf] at hF
  have hl : l.length < 200 := by
    simp only [fewB51, Bool.or_eq_true, Bool.and_eq_true, decide_eq_true_eq] at hf
    omega
  have HF := Lib.hid hF; have Hf := Lib.hid hf; clear hF hf hX0
  by_cases hs : set.length ≤ 100
  case neg =>
    have t : (100 : Int) < (set.length : Int) := by omega
    clear a0 a1 b0 b1
    go_wp2_with fail
    refine HF.out.mono ?_
    rintro e w2 ⟨rfl, rfl⟩
    go_wp2_with fail
    refine (wake51_ok _).mono ?_
    rintro e w3 ⟨rfl, hb3⟩
    go_wp2_with fail
    go_ret
    exact ⟨rfl, below_trans hw1 hb3⟩
  have t : (set.length : Int) ≤ 100 := by omega
  have H1 := Lib.hid (SomeX_ok _ _ l set da db w1 (Hh.out.below hw1) (Hi.out.below hw1) hda hdb)
  obtain ⟨E, hE⟩ : ∃ E, someE l da db set = E := ⟨_, rfl⟩
  rw [hE] at H1
  have HE := Lib.hid hE
  clear hE
  go_wp2_with fail
  refine HF.out.mono ?_
  rintro e w2 ⟨rfl, rfl⟩
  go_wp2_with fail
  refine H1.out.mono ?_
  rintro e w3 ⟨u3, L, rfl, hi3, hL, hb3⟩
  have a0 := cell_later hb3 a0; have a1 := cell_later hb3 a1; have b0 := cell_later hb3 b0; have b1 := cell_later hb3 b1
  have hw3 := below_trans hw1 hb3
  have H2 := SomeR_ok _ _ l set da db w3 (Hh.out.below hw3) (Hi.out.below hw3) (by omega)
  rw [HE.out] at H2
  have H2' := Lib.hid H2
  have HL := Lib.hid hL
  clear H1 HF H2 hL
  go_wp2_with fail
  refine H2'.out.mono ?_
  rintro e w4 ⟨u4, L4, rfl, hi4, hL4, hb4⟩
  obtain rfl := someS_uniq hL4 HL.out
  have hw4 := below_trans hw3 hb4
  have HB := Lib.hid (baseInts_ok _ _ _ _ w4 (hi3.below hb4) hi4)
  clear hL4 H2' hi3 hi4 a0 a1 b0 b1
  go_wp2_with fail
  refine HB.out.mono ?_
  rintro e w5 ⟨rfl, hb5⟩
  go_wp2_with fail
  go_ret
  exact ⟨rfl, below_trans hw4 hb5⟩

set_option maxRecDepth 100000 in
theorem some51_lifted (os : Os) (started : os.Started) (H : Type) (enc : TypeId × Value → H) :
    ReturnsInHanded {} Tryz.checked os 7 .any (Rows.explanationSomeSpec.pre6 enc Tryz.prog Tryz.f7 Rows.explanationSomeRow.domain false) (Rows.explanationSomeSpec.post enc Tryz.prog Tryz.f7 false true false false) := by
  refine returnsInHanded_of_change (C := Tryz.checked) Try.own started (by kernel_rfl) Tryz.func7
    (ChangeSpec.witness6 (enc := enc) (C := Tryz.checked) false ⟨#[], #[.slice none 0 0, .agg #[.int .i64 0, .int .i64 0, .int .i64 0, .int .i64 0], .slice none 0 0], []⟩ 8 (by kernel_rfl) (by kernel_rfl) (by kernel_rfl) (by kernel_rfl)) ?_
  intro W base args ds gs before hval0 hW hcnd _
  have hval : ∀ (j : Nat) t v, Tryz.f7.params[j]? = some t → args[j]? = some v → Value.okWide Tryz.prog W .any base t v := hval0
  have hW' := hW
  obtain ⟨p, q, hA0, hV, rfl, hfz, hnd⟩ := hW
  have hA : DataW.TrodAll enc Tryz.prog W 0 (fun _ => true) true Tryz.f7.params.toList args.toList ds p := hA0
  rw [Tryz.params7] at hA hval
  obtain ⟨v0, v1, v2, d0, d1, d2, p0, p1, p2, rfl, rfl, rfl, h0, h1, h2⟩ := trodAll_three hA
  obtain ⟨rfl, rfl⟩ := trodVars_none hV
  have k0 := h0
  have lt0 : ∀ x ∈ p0, x.block < W.heap.size := by obtain ⟨m, hm⟩ := k0; exact DataW.trod_lt m _ _ _ hm
  obtain ⟨x0, hx0⟩ := opens_specs (hval 0 22 v0 rfl rfl) h0
  have k1 := h1
  have lt1 : ∀ x ∈ p1, x.block < W.heap.size := by obtain ⟨m, hm⟩ := k1; exact DataW.trod_lt m _ _ _ hm
  obtain ⟨x1, y1, rfl, wa1, wb1⟩ := opens_dd (hval 1 25 v1 rfl rfl) h1
  have k2 := h2
  have lt2 : ∀ x ∈ p2, x.block < W.heap.size := by obtain ⟨m, hm⟩ := k2; exact DataW.trod_lt m _ _ _ hm
  obtain ⟨x2, hx2⟩ := opens_ints (hval 2 26 v2 rfl rfl) h2
  clear hA0 hval0
  refine (some_walk v0 x0 x1 y1 v2 x2 W hx0 wa1 wb1 hx2).mono fun e W' ⟨he, bel⟩ => ?_
  subst he
  exact ⟨_, rfl, _, _, _, [], _, [], hW', trodAll_mk1 (shut_bool Tryz.underlying4 _), trodAll_mk3 (Below.trod Try.laidOut (by kernel_rfl) (of_decide_eq_true (by kernel_rfl)) k0 bel lt0) (Below.trod Try.laidOut (by kernel_rfl) (of_decide_eq_true (by kernel_rfl)) k1 bel lt1) (Below.trod Try.laidOut (by kernel_rfl) (of_decide_eq_true (by kernel_rfl)) k2 bel lt2), rfl, bel.frame _, fun h => by cases h⟩

theorem some51_holds : Rows.ExplanationSomeSaid :=
  OpenClaim.holds_of_wide 7 Tryz.f7 rfl rfl rfl rfl rfl rfl rfl ⟨rfl, rfl, rfl, rfl, rfl⟩ rfl rfl rfl rfl rfl (by kernel_rfl) Tryz.func7 (by kernel_rfl)
    (of_decide_eq_true (by kernel_rfl)) (by unfold Func.isWrapper; first | (rw [if_pos (by decide +kernel)]; kernel_rfl) | (rw [if_neg (by decide +kernel)]; exact ⟨rfl, rfl⟩))
    (fun os started H enc _ => some51_lifted os started H enc)
end Go.Proofs.YtlmjncncmgmehaaGreat
