/- JoiningLists. No condition. -/
import Derived.Test.YtcpobcfncmcakaaGreatAwkT
import Derived.Test.YtcpobcfncmcakaaGreatRefY
import Derived.Test.YtcpobcfncmcakaaGreatOpenW
import Derived.Test.YtcpobcfncmcakaaGreatRows
namespace Go.Proofs.YtcpobcfncmcakaaGreat
open Go.RowKit Go.Shelf Go.ChangeShapes Go.WideShapes Go.ChangeAt Go.Maps

set_option maxHeartbeats 8000000 in
set_option maxRecDepth 100000 in
theorem lists_walk (v : Value) (l : List Spec) (w : World) (h : Specs w v l) :
    Calls Tryz.prog 4 #[v] w fun e w' => e = .returned (.bool true) ∧ Below w.heap.size w w' := by
  have h0 := h
  obtain ⟨A, c, rfl, _, _, _⟩ := h.cells
  go_enter Tryz.func4, Tryz.ntmps4
  go_wp2_with fail
  refine (wake17_ok _).mono ?_
  rintro e w1 ⟨rfl, hb1⟩
  have hF := few17_ok _ l w1 (h0.below hb1)
  cases hf : few17B l.length
  · rw [hf] at hF
    have HF := Lib.hid hF; clear hF hf
    go_wp2_with fail
    refine HF.out.mono ?_
    rintro e w2 ⟨rfl, hb2⟩
    go_wp2_with fail
    refine (wake17_ok _).mono ?_
    rintro e w3 ⟨rfl, hb3⟩
    go_wp2_with fail
    go_ret
    exact ⟨rfl, below_trans hb1 (below_trans hb2 hb3)⟩
  rw [hf] at hF
  have HF := Lib.hid hF; have Hf := Lib.hid hf; clear hF hf
  go_wp2_with fail
  refine HF.out.mono ?_
  rintro e w2 ⟨rfl, hb2⟩
  have hw2 := below_trans hb1 hb2
  clear HF
  have hl100 : l.length ≤ 100 := by have := Hf.out; simp [few17B] at this; omega
  obtain ⟨iS, hiS, hzS, hkS, hbS⟩ := info_parts infoS
  obtain ⟨W2, hW2⟩ : ∃ W2, w2.alloc (.cells #[] 43) = W2 := ⟨_, rfl⟩
  have hem : W2.heap[w2.heap.size]? = some (.cells #[] 43 (0, 0)) := by rw [← hW2]; exact heap_alloc_new _ _
  have hbW : Below w2.heap.size w2 W2 := by rw [← hW2]; exact (Below.refl _ _).alloc (Nat.le_refl _) _
  have hbw2 := below_trans hw2 hbW
  have hsl := SlOf.sl (h0.below hbw2)
  have hown0 : OwnS w.heap.size W2 (.slice (some ⟨w2.heap.size, 0, none⟩) 0 0) [] := own_empty hem hw2.size
  have Hem := Lib.hid hem; clear hem
  go_wp2_with (at_builtin; refine wpList_append_sl rfl (.tmp 24) (.tmp 25) 22 rfl iS _ 56 Tryz.underlying22 hiS hzS hkS hbS rfl (by decide) oneS rfl hown0 A c l.length l rfl rfl hsl (by simp; omega) (by simp; omega) hbw2.size ?_; intro v' w3 hown3 hgrow3 _)
  have hb3 : Below w.heap.size W2 w3 := (Below.refl _ _).grown hgrow3 hbw2.size (fun g hg => by have := (hown0.lt g hg).1; exact this)
  have hw3 := hbw2.trans hb3
  rw [List.nil_append] at hown3
  have hS3 : Specs w3 v' l := hown3.slOf
  obtain ⟨Ao, co, rfl, _⟩ := id hS3
  clear hW2 hsl hown0 hgrow3 hown3
  go_wp2_with fail
  refine (History_ok _ l _ hS3).mono ?_
  rintro e w4 ⟨u1, rfl, i1, hb4⟩
  have hS4 := hS3.below hb4
  have hw4 := below_trans hw3 hb4
  go_wp2_with fail
  refine (Joiners_ok _ l _ hS4).mono ?_
  rintro e w5 ⟨u2, rfl, i2, hb5⟩
  have hS5 := hS4.below hb5; have i1 := i1.below hb5
  have hw5 := below_trans hw4 hb5
  go_wp2_with fail
  refine (Forest_ok _ l _ hS5).mono ?_
  rintro e w6 ⟨u3, rfl, i3, hb6⟩
  have hS6 := hS5.below hb6; have i1 := i1.below hb6; have i2 := i2.below hb6
  have hw6 := below_trans hw5 hb6
  go_wp2_with fail
  refine (History17_ok _ l _ (h0.below hw6) hl100).mono ?_
  rintro e w7 ⟨u4, rfl, i4, hb7⟩
  have hS7 := hS6.below hb7; have i1 := i1.below hb7; have i2 := i2.below hb7; have i3 := i3.below hb7
  have hw7 := below_trans hw6 hb7
  go_wp2_with fail
  refine (Joiners17_ok _ l _ (h0.below hw7) hl100).mono ?_
  rintro e w8 ⟨u5, rfl, i5, hb8⟩
  have hS8 := hS7.below hb8; have i1 := i1.below hb8; have i2 := i2.below hb8; have i3 := i3.below hb8; have i4 := i4.below hb8
  have hw8 := below_trans hw7 hb8
  go_wp2_with fail
  refine (Forest17_ok _ l _ (h0.below hw8) hl100).mono ?_
  rintro e w9 ⟨u6, rfl, i6, hb9⟩
  have hS9 := hS8.below hb9; have i1 := i1.below hb9; have i2 := i2.below hb9; have i3 := i3.below hb9; have i4 := i4.below hb9; have i5 := i5.below hb9
  have hw9 := below_trans hw8 hb9
  have q1 := baseInts_ok _ _ _ _ w9 i1 i4
  rw [show decide (histR l = histR l) = true by simp] at q1
  have Q1 := Lib.hid q1
  generalize ofE l = E
  clear q1 hS3 hS4 hS5 hS6 hS7 hS8
  go_wp2_with fail
  refine Q1.out.mono ?_
  rintro e wa ⟨rfl, hba⟩
  have q2 := baseInts_ok _ _ _ _ wa (i2.below hba) (i5.below hba)
  rw [show decide (choR pickJ l = choR pickJ l) = true by simp] at q2
  have Q2 := Lib.hid q2
  clear q2
  go_wp2_with fail
  refine Q2.out.mono ?_
  rintro e wb ⟨rfl, hbb⟩
  have hbab := below_trans hba hbb
  have q3 := baseInts_ok _ _ _ _ wb (i3.below hbab) (i6.below hbab)
  rw [show decide (choR pickF l = choR pickF l) = true by simp] at q3
  have Q3 := Lib.hid q3
  clear q3
  go_wp2_with fail
  refine Q3.out.mono ?_
  rintro e wc ⟨rfl, hbc⟩
  have hbac := below_trans hbab hbc
  have q4 := baseSpecs_ok _ _ _ _ wc (hS9.below hbac) (h0.below (below_trans hw9 hbac))
  rw [show decide (l = l) = true by simp] at q4
  have Q4 := Lib.hid q4
  clear q4
  go_wp2_with fail
  refine Q4.out.mono ?_
  rintro e wd ⟨rfl, hbd⟩
  go_wp2_with fail
  go_ret
  exact ⟨rfl, below_trans hw9 (below_trans hbac hbd)⟩

set_option maxRecDepth 100000 in
theorem lists_lifted (os : Os) (started : os.Started) (H : Type) (enc : TypeId × Value → H) :
    ReturnsInHanded {} Tryz.checked os 4 .any (Rows.joiningListsSpec.pre6 enc Tryz.prog Tryz.f4 Rows.joiningListsRow.domain false) (Rows.joiningListsSpec.post enc Tryz.prog Tryz.f4 false true false false) := by
  refine returnsInHanded_of_change (C := Tryz.checked) Try.own started (by kernel_rfl) Tryz.func4
    (ChangeSpec.witness6 (enc := enc) (C := Tryz.checked) false ⟨#[], #[.slice none 0 0], []⟩ 8 (by kernel_rfl) (by kernel_rfl) (by kernel_rfl) (by kernel_rfl)) ?_
  intro W base args ds gs before hval0 hW hcnd _
  have hval : ∀ (j : Nat) t v, Tryz.f4.params[j]? = some t → args[j]? = some v → Value.okWide Tryz.prog W .any base t v := hval0
  have hW' := hW
  obtain ⟨p, q, hA0, hV, rfl, hfz, hnd⟩ := hW
  have hA : DataW.TrodAll enc Tryz.prog W 0 (fun _ => true) true Tryz.f4.params.toList args.toList ds p := hA0
  rw [Tryz.params4] at hA hval
  obtain ⟨v0, d0, rfl, rfl, h0⟩ := trodAll_one hA
  obtain ⟨rfl, rfl⟩ := trodVars_none hV
  have k0 := h0
  have lt0 : ∀ x ∈ p, x.block < W.heap.size := by obtain ⟨m, hm⟩ := k0; exact DataW.trod_lt m _ _ _ hm
  obtain ⟨x0, hx0⟩ := opens_specs (hval 0 22 v0 rfl rfl) h0
  clear hA0 hval0
  refine (lists_walk v0 x0 W hx0).mono fun e W' ⟨he, bel⟩ => ?_
  subst he
  exact ⟨_, rfl, _, _, _, [], _, [], hW', trodAll_mk1 (shut_bool Tryz.underlying4 _), trodAll_mk1 (Below.trod Try.laidOut (by kernel_rfl) (of_decide_eq_true (by kernel_rfl)) k0 bel lt0), rfl, bel.frame _, fun h => by cases h⟩

theorem lists_holds : Rows.JoiningListsSaid :=
  OpenClaim.holds_of_wide 4 Tryz.f4 rfl rfl rfl rfl rfl rfl rfl ⟨rfl, rfl, rfl, rfl, rfl⟩ rfl rfl rfl rfl rfl (by kernel_rfl) Tryz.func4 (by kernel_rfl)
    (of_decide_eq_true (by kernel_rfl)) (by unfold Func.isWrapper; first | (rw [if_pos (by decide +kernel)]; kernel_rfl) | (rw [if_neg (by decide +kernel)]; exact ⟨rfl, rfl⟩))
    (fun os started H enc _ => lists_lifted os started H enc)
end Go.Proofs.YtcpobcfncmcakaaGreat
