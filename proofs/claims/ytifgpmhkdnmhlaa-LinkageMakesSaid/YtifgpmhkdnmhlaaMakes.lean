/- For every list of specimens, LinkageMakes returns true, and the list reads as it did. No condition. -/
import Derived.Test.YtifgpmhkdnmhlaaRows
import Derived.Test.YtifgpmhkdnmhlaaAwake
import Derived.Test.YtifgpmhkdnmhlaaOpen
namespace Go.Proofs.Ytifgpmhkdnmhlaa
open Go.RowKit Go.Shelf Go.ChangeShapes Go.WideShapes Go.ChangeAt

theorem Try.own : ownKnob Try.prog.godebug = none := by kernel_rfl
theorem Try.laidOut : laidOutB Try.prog = true := by kernel_rfl

set_option maxHeartbeats 4000000 in
theorem makes_walk (v : Value) (l : List Spec) (w : World) (h : Specs w v l) :
    Calls Try.prog 3 #[v] w fun e w' => e = .returned (.bool true) ∧ Below w.heap.size w w' := by
  have h0 := h
  obtain ⟨A, c, rfl, h1, h2, _⟩ := h.cells
  by_cases hlen : l.length ≤ 100
  case neg =>
    have hd : decide ((100 : Int) < (l.length : Int)) = true := by simp; omega
    go_enter Try.func3, Try.ntmps3
    go_wp2_with fail
    refine (awake_ok _).mono ?_
    rintro e w1 ⟨rfl, hb1⟩
    go_wp2_with fail
    refine (awake_ok _).mono ?_
    rintro e w2 ⟨rfl, hb2⟩
    go_wp2_with fail
    go_ret
    exact ⟨rfl, below_trans hb1 hb2⟩
  have hd : decide ((100 : Int) < (l.length : Int)) = false := by simp; omega
  obtain ⟨iS, hiS, hzS, hkS, hbS⟩ := info_parts infoS
  go_enter Try.func3, Try.ntmps3
  go_wp2_with fail
  refine (awake_ok _).mono ?_
  rintro e w1 ⟨rfl, hb1⟩
  obtain ⟨W2, hW2⟩ : ∃ W2, w1.alloc (.cells #[] 35) = W2 := ⟨_, rfl⟩
  have hem : W2.heap[w1.heap.size]? = some (.cells #[] 35 (0, 0)) := by rw [← hW2]; exact heap_alloc_new _ _
  have hb2 : Below w1.heap.size w1 W2 := by rw [← hW2]; exact (Below.refl _ _).alloc (Nat.le_refl _) _
  have hbw2 := below_trans hb1 hb2
  have hsl := SlOf.sl (h0.below hbw2)
  have hown0 : OwnS w.heap.size W2 (.slice (some ⟨w1.heap.size, 0, none⟩) 0 0) [] := own_empty hem hb1.size
  have Hem := Lib.hid hem; clear hem
  go_wp2_with (at_builtin; refine wpList_append_sl rfl (.tmp 16) (.tmp 17) 22 rfl iS _ 56 Try.underlying22 hiS hzS hkS hbS rfl (by decide) oneS rfl hown0 A c l.length l rfl rfl hsl (by simp; omega) (by simp; omega) hbw2.size ?_; intro v' w3 hown3 hgrow3 _)
  have hb3 : Below w.heap.size W2 w3 := (Below.refl _ _).grown hgrow3 hbw2.size (fun g hg => by have := (hown0.lt g hg).1; exact this)
  have hbw3 := hbw2.trans hb3
  rw [List.nil_append] at hown3
  go_wp2_with fail
  refine (Of_ok _ l _ hown3.slOf).mono ?_
  rintro e w4 ⟨u1, rfl, hg1, hb4⟩
  have hg1' := hg1
  obtain ⟨x1, x2, x3, rfl, ho1, hr1, hl1⟩ := hg1
  obtain ⟨A1, c1, rfl, _, _, _⟩ := ho1.cells
  obtain ⟨A2, c2, rfl, _, _, _⟩ := hr1.cells
  obtain ⟨A3, c3, rfl, _, _, _⟩ := hl1.cells
  clear ho1 hr1 hl1
  obtain ⟨W5, hW5, Hz5, hb5, hlt5, hc5⟩ := boxed w4 #[.slice A1 (ofG l).obv.length c1, .slice A2 (ofG l).rev.length c2, .slice A3 (ofG l).links.length c3] 27
  have s0 := hc5 0 _ rfl; have s1 := hc5 1 _ rfl; have s2 := hc5 2 _ rfl
  clear hc5
  have hbw5 := hbw3.trans ((below_trans hb4 hb5).mono hbw3.size)
  go_wp2_with fail
  refine (Of_ok13 _ l _ (h0.below hbw5) (by omega)).mono ?_
  rintro e w6 ⟨u2, rfl, hg2, hb6⟩
  have hg2' := hg2
  obtain ⟨x1, x2, x3, rfl, ho2, hr2, hl2⟩ := hg2
  obtain ⟨B1, e1, rfl, _, _, _⟩ := ho2.cells
  obtain ⟨B2, e2, rfl, _, _, _⟩ := hr2.cells
  obtain ⟨B3, e3, rfl, _, _, _⟩ := hl2.cells
  clear ho2 hr2 hl2
  have t0 := cell_later hb6 s0; have t1 := cell_later hb6 s1; have t2 := cell_later hb6 s2
  clear s0 s1 s2 hW5
  obtain ⟨W7, hW7, Hz7, hb7, hlt7, hc7⟩ := boxed w6 #[.slice B1 (ofG l).obv.length e1, .slice B2 (ofG l).rev.length e2, .slice B3 (ofG l).links.length e3] 27
  have q0 := hc7 0 _ rfl; have q1 := hc7 1 _ rfl; have q2 := hc7 2 _ rfl
  have r0 := cell_later hb7 t0; have r1 := cell_later hb7 t1; have r2 := cell_later hb7 t2
  clear hc7 t0 t1 t2
  have h57 := below_trans hb6 hb7
  have h47 := below_trans hb5 h57
  have hbw7 := hbw5.trans (h57.mono hbw5.size)
  have he : (ofE l == ofE l) = true := by simp
  have hG := Graphs_ok _ _ _ _ W7 (hg1'.below h47) (hg2'.below hb7)
  rw [show decide (ofG l = ofG l) = true by simp] at hG
  have HG := Lib.hid hG; clear hG
  go_wp2_with fail
  refine HG.out.mono ?_
  rintro e w8 ⟨rfl, hb8⟩
  have hS := baseSpecs_ok _ _ _ _ w8 ((show Specs _ _ _ from hown3.slOf).below (below_trans hb4 (below_trans h47 hb8))) (h0.below (hbw7.trans (hb8.mono hbw7.size)))
  rw [show decide (l = l) = true by simp] at hS
  have HS := Lib.hid hS; clear hS
  go_wp2_with fail
  refine HS.out.mono ?_
  rintro e w9 ⟨rfl, hb9⟩
  go_wp2_with fail
  go_ret
  exact ⟨rfl, hbw7.trans ((below_trans hb8 hb9).mono hbw7.size)⟩

set_option maxRecDepth 100000 in
theorem makes_lifted (os : Os) (started : os.Started) (H : Type) (enc : TypeId × Value → H) :
    ReturnsInHanded {} Try.checked os 3 .any (Rows.linkageMakesSpec.pre6 enc Try.prog Try.f3 Rows.linkageMakesRow.domain false) (Rows.linkageMakesSpec.post enc Try.prog Try.f3 false true false false) := by
  refine returnsInHanded_of_change (C := Try.checked) Try.own started (by kernel_rfl) Try.func3
    (ChangeSpec.witness6 (enc := enc) (C := Try.checked) false ⟨#[], #[.slice none 0 0], []⟩ 8 (by kernel_rfl) (by kernel_rfl) (by kernel_rfl) (by kernel_rfl)) ?_
  intro W base args ds gs before hval0 hW hcnd _
  have hval : ∀ (j : Nat) t v, Try.f3.params[j]? = some t → args[j]? = some v → Value.okWide Try.prog W .any base t v := hval0
  have hW' := hW
  obtain ⟨p, q, hA0, hV, rfl, hfz, hnd⟩ := hW
  have hA : DataW.TrodAll enc Try.prog W 0 (fun _ => true) true Try.f3.params.toList args.toList ds p := hA0
  rw [Try.params3] at hA hval
  obtain ⟨v0, d0, rfl, rfl, h0⟩ := trodAll_one hA
  obtain ⟨rfl, rfl⟩ := trodVars_none hV
  have k0 := h0
  have lt0 : ∀ x ∈ p, x.block < W.heap.size := by obtain ⟨m, hm⟩ := k0; exact DataW.trod_lt m _ _ _ hm
  obtain ⟨l, hl⟩ := opens_specs (hval 0 22 v0 rfl rfl) h0
  clear hA0 hval0
  refine (makes_walk v0 l W hl).mono fun e W' ⟨he, bel⟩ => ?_
  subst he
  exact ⟨_, rfl, _, _, _, [], _, [], hW', trodAll_mk1 (shut_bool Try.underlying4 _), trodAll_mk1 (Below.trod Try.laidOut (by kernel_rfl) (of_decide_eq_true (by kernel_rfl)) k0 bel lt0), rfl, bel.frame _, fun h => by cases h⟩

theorem makes_holds : Rows.LinkageMakesSaid :=
  OpenClaim.holds_of_wide 3 Try.f3 rfl rfl rfl rfl rfl rfl rfl ⟨rfl, rfl, rfl, rfl, rfl⟩ rfl rfl rfl rfl rfl (by kernel_rfl) Try.func3 (by kernel_rfl)
    (of_decide_eq_true (by kernel_rfl)) (by unfold Func.isWrapper; first | (rw [if_pos (by decide +kernel)]; kernel_rfl) | (rw [if_neg (by decide +kernel)]; exact ⟨rfl, rfl⟩))
    (fun os started H enc _ => makes_lifted os started H enc)
end Go.Proofs.Ytifgpmhkdnmhlaa
