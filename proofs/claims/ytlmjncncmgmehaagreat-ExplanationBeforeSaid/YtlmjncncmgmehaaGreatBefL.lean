/- The law ExplanationBefore. No condition. -/
import Derived.Test.YtlmjncncmgmehaaGreatAwkX
import Derived.Test.YtlmjncncmgmehaaGreatBefA
import Derived.Test.YtlmjncncmgmehaaGreatRows
namespace Go.Proofs.YtlmjncncmgmehaaGreat
open Go.RowKit Go.Shelf Go.ChangeShapes Go.WideShapes Go.ChangeAt Go.Maps Go.Deep

section
variable {H : Type} {enc : TypeId × Value → H} {w : World} {base : Nat} {spare : Nat → Bool} {held : Bool}
set_option maxRecDepth 100000 in
theorem opens_ii {r : Reach} {b0 : Nat} {v : Value} {d : DataW H} {p : List MemPlace} (hv : Value.okWide Tryz.prog w r b0 42 v) (h : DataW.Trod enc Tryz.prog w base spare held 42 v d p) :
    ∃ x y : Int, v = .agg #[.int .i64 x, .int .i64 y] := by
  have c2 : Tryz.prog.cellsOf 42 = 2 := by kernel_rfl
  have c1 : Tryz.prog.cellsOf 3 = 1 := by kernel_rfl
  obtain ⟨cs, rfl, hsz⟩ := okWide_arr Tryz.underlying42 hv
  rw [c2] at hsz
  obtain ⟨fuel, hf⟩ := h
  obtain ⟨L, hL⟩ : ∃ L, cs = L.toArray := ⟨cs.toList, by simp⟩
  subst hL
  have hf' : DataW.trod enc Tryz.prog w base spare held fuel 42 L = some (d, p) := by simpa [Value.cells] using hf
  obtain ⟨xs, m, _, _, _, hl, hel⟩ := DataW.trod_array Tryz.underlying42 hf'
  rw [c1] at hel
  have hsz' : L.length = 2 := by simpa using hsz
  match L, hsz' with
  | [a, b], _ =>
    have h0 : DataW.trod enc Tryz.prog w base spare held m 3 [a] = xs[0]? := hel 0 (by omega)
    have h1 : DataW.trod enc Tryz.prog w base spare held m 3 [b] = xs[1]? := hel 1 (by omega)
    rw [List.getElem?_eq_getElem (by omega)] at h0 h1
    obtain ⟨x, e1, _, _⟩ := DataW.trod_int Tryz.underlying3 h0
    obtain ⟨y, e2, _, _⟩ := DataW.trod_int Tryz.underlying3 h1
    simp at e1 e2
    exact ⟨x, y, by rw [e1, e2]⟩
end
set_option maxHeartbeats 8000000 in
set_option maxRecDepth 100000 in
theorem bef_walk (v : Value) (l : List Spec) (cv : Value) (C : List Pair) (a b : Int) (w : World) (h : Specs w v l) (hC : Pairs w cv C) :
    Calls Tryz.prog 8 #[v, cv, .agg #[.int .i64 a, .int .i64 b]] w fun e w' => e = .returned (.bool true) ∧ Below w.heap.size w w' := by
  obtain ⟨X0, hX0, HzX0, hX, hltX0, hcX0⟩ := boxed w #[.int .i64 a, .int .i64 b] 42
  have a0 := hcX0 0 _ rfl; have a1 := hcX0 1 _ rfl
  obtain ⟨A, c, rfl, _⟩ := id h
  obtain ⟨Ac, cc, rfl, _⟩ := id hC
  have Hh := Lib.hid h; have HC := Lib.hid (show Pairs w _ C from hC)
  clear hcX0 h hC
  go_enter Tryz.func8, Tryz.ntmps8
  go_wp2_with fail
  refine (wake51_ok _).mono ?_
  rintro e w1 ⟨rfl, hb1⟩
  have hw1 := below_trans hX hb1
  have a0 := cell_later hb1 a0; have a1 := cell_later hb1 a1
  have hF := Few51_ok _ l w1 (Hh.out.below hw1)
  cases hf : fewB51 l
  · rw [hf] at hF
    have HF := Lib.hid hF; clear hF hf a0 a1
    go_wp2_with fail
    refine HF.out.mono ?_
    rintro e w2 ⟨rfl, rfl⟩
    go_wp2_with fail
    refine (wake51_ok _).mono ?_
    rintro e w3 ⟨rfl, hb3⟩
    go_wp2_with fail
    go_ret
    exact ⟨rfl, below_trans hw1 hb3⟩
  rw [hf] at hF
  have HF := Lib.hid hF; clear hF hf hX0
  by_cases hc : C.length ≤ 20 ∨ C.length = 65
  case neg =>
    have t1 : (20 : Int) < (C.length : Int) := by omega
    have t2 : ((C.length : Int) == 65) = false := by simp; omega
    have t3 : ((C.length : Int) != 65) = true := by simp [bne, t2]
    clear hc a0 a1
    go_wp2_with fail
    refine HF.out.mono ?_
    rintro e w2 ⟨rfl, rfl⟩
    go_wp2_with fail
    refine (wake51_ok _).mono ?_
    rintro e w3 ⟨rfl, hb3⟩
    go_wp2_with fail
    go_ret
    exact ⟨rfl, below_trans hw1 hb3⟩
  have H1 := Lib.hid (BeforeX_ok A c l _ C a b w1 (Hh.out.below hw1) (show Pairs w1 _ C from HC.out.below hw1))
  rcases hc with hc | hc
  · have t1 : (C.length : Int) ≤ 20 := by omega
    clear hc
    go_wp2_with fail
    refine HF.out.mono ?_
    rintro e w2 ⟨rfl, rfl⟩
    go_wp2_with fail
    refine H1.out.mono ?_
    rintro e w3 ⟨u3, E, L, rfl, hi3, hR, hb3⟩
    have a0 := cell_later hb3 a0; have a1 := cell_later hb3 a1
    have hw3 := below_trans hw1 hb3
    have HR := Lib.hid hR
    have H2 := Lib.hid (Before51_ok A c l _ C a b w3 (Hh.out.below hw3) (show Pairs w3 _ C from HC.out.below hw3))
    clear hR H1 HF
    go_wp2_with fail
    refine H2.out.mono ?_
    rintro e w4 ⟨u4, E4, L4, rfl, hi4, hR4, hb4⟩
    obtain ⟨rfl, rfl⟩ := hR4.uniq HR.out
    have a0 := cell_later hb4 a0; have a1 := cell_later hb4 a1
    have hw4 := below_trans hw3 hb4
    have hi3 := hi3.below hb4
    have HB := Lib.hid (baseInts_ok _ _ _ _ w4 hi3 hi4)
    have H3 := Lib.hid hi3
    clear hR4 H2 hi3 hi4
    go_wp2_with fail
    refine HB.out.mono ?_
    rintro e w5 ⟨rfl, hb5⟩
    have a0 := cell_later hb5 a0; have a1 := cell_later hb5 a1
    have hw5 := below_trans hw4 hb5
    have hEE : (E4 == E4) = true := by simp
    by_cases hE0 : E4 = 0
    case neg =>
      have t : (E4 != 0) = true := by simpa using hE0
      clear hE0 a0 a1
      go_wp2_with fail
      go_ret
      exact ⟨rfl, hw5⟩
    have t : (E4 != 0) = false := by simp [hE0]
    obtain ⟨_, m1, m2⟩ := HR.out.ids.2.1 hE0
    have h1 := Has_ok _ (withs (whyIds L4)) a w5 (H3.out.below hb5)
    have h2 := Has_ok _ (withs (whyIds L4)) b w5 (H3.out.below hb5)
    rw [(hasB_iff _ _).2 ((withs_mem _ _).2 m1)] at h1
    rw [(hasB_iff _ _).2 ((withs_mem _ _).2 m2)] at h2
    have HA := Lib.hid h1; have HB2 := Lib.hid h2
    clear h1 h2 m1 m2 HB
    subst hE0
    go_wp2_with fail
    refine HA.out.mono ?_
    rintro e w6 ⟨rfl, rfl⟩
    go_wp2_with fail
    refine HB2.out.mono ?_
    rintro e w6 ⟨rfl, rfl⟩
    go_wp2_with fail
    go_ret
    exact ⟨rfl, hw5⟩
  · have t1 : (20 : Int) < (C.length : Int) := by omega
    have t2 : ((C.length : Int) == 65) = true := by simp; omega
    have t3 : ((C.length : Int) != 65) = false := by simp [bne, t2]
    clear hc
    go_wp2_with fail
    refine HF.out.mono ?_
    rintro e w2 ⟨rfl, rfl⟩
    go_wp2_with fail
    refine H1.out.mono ?_
    rintro e w3 ⟨u3, E, L, rfl, hi3, hR, hb3⟩
    have a0 := cell_later hb3 a0; have a1 := cell_later hb3 a1
    have hw3 := below_trans hw1 hb3
    have HR := Lib.hid hR
    have H2 := Lib.hid (Before51_ok A c l _ C a b w3 (Hh.out.below hw3) (show Pairs w3 _ C from HC.out.below hw3))
    clear hR H1 HF
    go_wp2_with fail
    refine H2.out.mono ?_
    rintro e w4 ⟨u4, E4, L4, rfl, hi4, hR4, hb4⟩
    obtain ⟨rfl, rfl⟩ := hR4.uniq HR.out
    have a0 := cell_later hb4 a0; have a1 := cell_later hb4 a1
    have hw4 := below_trans hw3 hb4
    have hi3 := hi3.below hb4
    have HB := Lib.hid (baseInts_ok _ _ _ _ w4 hi3 hi4)
    have H3 := Lib.hid hi3
    clear hR4 H2 hi3 hi4
    go_wp2_with fail
    refine HB.out.mono ?_
    rintro e w5 ⟨rfl, hb5⟩
    have a0 := cell_later hb5 a0; have a1 := cell_later hb5 a1
    have hw5 := below_trans hw4 hb5
    have hEE : (E4 == E4) = true := by simp
    by_cases hE0 : E4 = 0
    case neg =>
      have t : (E4 != 0) = true := by simpa using hE0
      clear hE0 a0 a1
      go_wp2_with fail
      go_ret
      exact ⟨rfl, hw5⟩
    have t : (E4 != 0) = false := by simp [hE0]
    obtain ⟨_, m1, m2⟩ := HR.out.ids.2.1 hE0
    have h1 := Has_ok _ (withs (whyIds L4)) a w5 (H3.out.below hb5)
    have h2 := Has_ok _ (withs (whyIds L4)) b w5 (H3.out.below hb5)
    rw [(hasB_iff _ _).2 ((withs_mem _ _).2 m1)] at h1
    rw [(hasB_iff _ _).2 ((withs_mem _ _).2 m2)] at h2
    have HA := Lib.hid h1; have HB2 := Lib.hid h2
    clear h1 h2 m1 m2 HB
    subst hE0
    go_wp2_with fail
    refine HA.out.mono ?_
    rintro e w6 ⟨rfl, rfl⟩
    go_wp2_with fail
    refine HB2.out.mono ?_
    rintro e w6 ⟨rfl, rfl⟩
    go_wp2_with fail
    go_ret
    exact ⟨rfl, hw5⟩

set_option maxRecDepth 100000 in
theorem bef51_lifted (os : Os) (started : os.Started) (H : Type) (enc : TypeId × Value → H) :
    ReturnsInHanded {} Tryz.checked os 8 .any (Rows.explanationBeforeSpec.pre6 enc Tryz.prog Tryz.f8 Rows.explanationBeforeRow.domain false) (Rows.explanationBeforeSpec.post enc Tryz.prog Tryz.f8 false true false false) := by
  refine returnsInHanded_of_change (C := Tryz.checked) Try.own started (by kernel_rfl) Tryz.func8
    (ChangeSpec.witness6 (enc := enc) (C := Tryz.checked) false ⟨#[], #[.slice none 0 0, .slice none 0 0, .agg #[.int .i64 0, .int .i64 0]], []⟩ 8 (by kernel_rfl) (by kernel_rfl) (by kernel_rfl) (by kernel_rfl)) ?_
  intro W base args ds gs before hval0 hW hcnd _
  have hval : ∀ (j : Nat) t v, Tryz.f8.params[j]? = some t → args[j]? = some v → Value.okWide Tryz.prog W .any base t v := hval0
  have hW' := hW
  obtain ⟨p, q, hA0, hV, rfl, hfz, hnd⟩ := hW
  have hA : DataW.TrodAll enc Tryz.prog W 0 (fun _ => true) true Tryz.f8.params.toList args.toList ds p := hA0
  rw [Tryz.params8] at hA hval
  obtain ⟨v0, v1, v2, d0, d1, d2, p0, p1, p2, rfl, rfl, rfl, h0, h1, h2⟩ := trodAll_three hA
  obtain ⟨rfl, rfl⟩ := trodVars_none hV
  have k0 := h0
  have lt0 : ∀ x ∈ p0, x.block < W.heap.size := by obtain ⟨m, hm⟩ := k0; exact DataW.trod_lt m _ _ _ hm
  obtain ⟨x0, hx0⟩ := opens_specs (hval 0 22 v0 rfl rfl) h0
  have k1 := h1
  have lt1 : ∀ x ∈ p1, x.block < W.heap.size := by obtain ⟨m, hm⟩ := k1; exact DataW.trod_lt m _ _ _ hm
  obtain ⟨x1, hx1, _⟩ := opens_pairs_wf (hval 1 41 v1 rfl rfl) h1
  have k2 := h2
  have lt2 : ∀ x ∈ p2, x.block < W.heap.size := by obtain ⟨m, hm⟩ := k2; exact DataW.trod_lt m _ _ _ hm
  obtain ⟨x2, y2, rfl⟩ := opens_ii (hval 2 42 v2 rfl rfl) h2
  clear hA0 hval0
  refine (bef_walk v0 x0 v1 x1 x2 y2 W hx0 hx1).mono fun e W' ⟨he, bel⟩ => ?_
  subst he
  exact ⟨_, rfl, _, _, _, [], _, [], hW', trodAll_mk1 (shut_bool Tryz.underlying4 _), trodAll_mk3 (Below.trod Try.laidOut (by kernel_rfl) (of_decide_eq_true (by kernel_rfl)) k0 bel lt0) (Below.trod Try.laidOut (by kernel_rfl) (of_decide_eq_true (by kernel_rfl)) k1 bel lt1) (Below.trod Try.laidOut (by kernel_rfl) (of_decide_eq_true (by kernel_rfl)) k2 bel lt2), rfl, bel.frame _, fun h => by cases h⟩

theorem bef51_holds : Rows.ExplanationBeforeSaid :=
  OpenClaim.holds_of_wide 8 Tryz.f8 rfl rfl rfl rfl rfl rfl rfl ⟨rfl, rfl, rfl, rfl, rfl⟩ rfl rfl rfl rfl rfl (by kernel_rfl) Tryz.func8 (by kernel_rfl)
    (of_decide_eq_true (by kernel_rfl)) (by unfold Func.isWrapper; first | (rw [if_pos (by decide +kernel)]; kernel_rfl) | (rw [if_neg (by decide +kernel)]; exact ⟨rfl, rfl⟩))
    (fun os started H enc _ => bef51_lifted os started H enc)
end Go.Proofs.YtlmjncncmgmehaaGreat
