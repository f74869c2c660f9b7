/- JoiningFirst. No condition. -/
import Derived.Test.YtcpobcfncmcakaaGreatAwkT
import Derived.Test.YtcpobcfncmcakaaGreatRefP
import Derived.Test.YtcpobcfncmcakaaGreatOpenW
import Derived.Test.YtcpobcfncmcakaaGreatRows
namespace Go.Proofs.YtcpobcfncmcakaaGreat
open Go.RowKit Go.Shelf Go.ChangeShapes Go.WideShapes Go.ChangeAt Go.Maps

set_option maxHeartbeats 8000000 in
set_option maxRecDepth 100000 in
theorem first_walk (v : Value) (l : List Spec) (da db : Die) (w : World) (h : Specs w v l) (hda : wfD da) (hdb : wfD db) :
    Calls Tryz.prog 3 #[v, vlD da, vlD db] w fun e w' => e = .returned (.bool true) ∧ Below w.heap.size w w' := by
  obtain ⟨X0, hX0, HzX0, hbX0, hltX0, hcX0⟩ := boxed w #[.int .i64 da.side, .int .i64 da.num] 24
  obtain ⟨X1, hX1, HzX1, hbX1, hltX1, hcX1⟩ := boxed X0 #[.int .i64 db.side, .int .i64 db.num] 24
  have hX := below_trans hbX0 hbX1
  have h0 := h
  have a0 := cell_later hbX1 (hcX0 0 _ rfl); have a1 := cell_later hbX1 (hcX0 1 _ rfl)
  have b0 := hcX1 0 _ rfl; have b1 := hcX1 1 _ rfl
  clear hcX0 hcX1
  obtain ⟨A, c, rfl, _, _, _⟩ := h.cells
  have hX' : ∀ w', Below X1.heap.size X1 w' → Below w.heap.size w w' := fun _ hb => below_trans hX hb
  have HX' := Lib.hid hX'
  clear hX'
  go_enter Tryz.func3, Tryz.ntmps3
  go_wp2_with fail
  refine (wake17_ok _).mono ?_
  rintro e w1 ⟨rfl, hb1⟩
  have hF := few17_ok _ l w1 (h0.below (HX'.out _ hb1))
  cases hf : few17B l.length
  · rw [hf] at hF
    have HF := Lib.hid hF; clear hF hf
    go_wp2_with fail
    refine HF.out.mono ?_
    rintro e w2 ⟨rfl, hb2⟩
    go_wp2_with fail
    refine (wake17_ok _).mono ?_
    rintro e w3 ⟨rfl, hb3⟩
    go_wp2_with fail
    go_ret
    exact ⟨rfl, below_trans (HX'.out _ hb1) (below_trans hb2 hb3)⟩
  rw [hf] at hF
  have HF := Lib.hid hF; have Hf := Lib.hid hf; clear hF hf
  go_wp2_with fail
  refine HF.out.mono ?_
  rintro e w2 ⟨rfl, hb2⟩
  have hw2 := below_trans (HX'.out _ hb1) hb2
  clear HF
  have hl100 : l.length ≤ 100 := by have := Hf.out; simp [few17B] at this; omega
  have hb12 := below_trans hb1 hb2
  have a0 := cell_later hb12 a0; have a1 := cell_later hb12 a1; have b0 := cell_later hb12 b0; have b1 := cell_later hb12 b1
  clear hX0 hX1 hb1 hb2 hb12
  go_wp2_with fail
  refine (First_ok _ l da db _ (h0.below hw2) hda hdb).mono ?_
  rintro e w3 ⟨rfl, hb3⟩
  have hw3 := below_trans hw2 hb3
  have a0 := cell_later hb3 a0; have a1 := cell_later hb3 a1; have b0 := cell_later hb3 b0; have b1 := cell_later hb3 b1
  go_wp2_with fail
  refine (Bottleneck_ok _ l da db _ (h0.below hw3) hda hdb).mono ?_
  rintro e w4 ⟨up, rfl, hb4, hno, hyes⟩
  have hw4 := below_trans hw3 hb4
  have a0 := cell_later hb4 a0; have a1 := cell_later hb4 a1; have b0 := cell_later hb4 b0; have b1 := cell_later hb4 b1
  have Hno := Lib.hid hno; have Hyes := Lib.hid hyes
  clear hno hyes
  go_wp2_with fail
  refine (First17_ok _ l da db _ (h0.below hw4) hl100).mono ?_
  rintro e w5 ⟨rfl, hb5⟩
  have hw5 := below_trans hw4 hb5
  have a0 := cell_later hb5 a0; have a1 := cell_later hb5 a1; have b0 := cell_later hb5 b0; have b1 := cell_later hb5 b1
  go_wp2_with fail
  refine (Bottleneck17_ok _ l da db _ (h0.below hw5) hl100).mono ?_
  rintro e w6 ⟨uq, xs, rfl, hxs, hb6, hn2, hy2⟩
  have hip : Ints w4 up xs := by
    by_cases hE : (firstR l da db).2 = 0
    · obtain ⟨p, hp, hi⟩ := Hyes.out hE
      rw [hy2 hE p hp]; exact hi
    · rw [hn2 hE]; exact Hno.out hE
  have q1 := baseInts_ok _ _ _ _ w6 (hip.below (below_trans hb5 hb6)) hxs
  rw [show decide (xs = xs) = true by simp] at q1
  have Q1 := Lib.hid q1
  generalize (firstR l da db).1 = F1
  generalize (firstR l da db).2 = F2
  clear q1 hip hxs hn2 hy2 a0 a1 b0 b1
  go_wp2_with fail
  refine Q1.out.mono ?_
  rintro e w7 ⟨rfl, hb7⟩
  go_wp2_with fail
  go_ret
  exact ⟨rfl, below_trans hw5 (below_trans hb6 hb7)⟩
theorem first_walk' (v : Value) (l : List Spec) (da db : Die) (w : World) (h : Specs w v l) (a1 : wfI da.side) (a2 : wfI da.num) (b1 : wfI db.side) (b2 : wfI db.num) :
    Calls Tryz.prog 3 #[v, vlD da, vlD db] w fun e w' => e = .returned (.bool true) ∧ Below w.heap.size w w' := first_walk v l da db w h ⟨a1, a2⟩ ⟨b1, b2⟩

set_option maxRecDepth 100000 in
theorem firs_lifted (os : Os) (started : os.Started) (H : Type) (enc : TypeId × Value → H) :
    ReturnsInHanded {} Tryz.checked os 3 .any (Rows.joiningFirstSpec.pre6 enc Tryz.prog Tryz.f3 Rows.joiningFirstRow.domain false) (Rows.joiningFirstSpec.post enc Tryz.prog Tryz.f3 false true false false) := by
  refine returnsInHanded_of_change (C := Tryz.checked) Try.own started (by kernel_rfl) Tryz.func3
    (ChangeSpec.witness6 (enc := enc) (C := Tryz.checked) false ⟨#[], #[.slice none 0 0, .agg #[.int .i64 0, .int .i64 0], .agg #[.int .i64 0, .int .i64 0]], []⟩ 8 (by kernel_rfl) (by kernel_rfl) (by kernel_rfl) (by kernel_rfl)) ?_
  intro W base args ds gs before hval0 hW hcnd _
  have hval : ∀ (j : Nat) t v, Tryz.f3.params[j]? = some t → args[j]? = some v → Value.okWide Tryz.prog W .any base t v := hval0
  have hW' := hW
  obtain ⟨p, q, hA0, hV, rfl, hfz, hnd⟩ := hW
  have hA : DataW.TrodAll enc Tryz.prog W 0 (fun _ => true) true Tryz.f3.params.toList args.toList ds p := hA0
  rw [Tryz.params3] at hA hval
  obtain ⟨v0, v1, v2, d0, d1, d2, p0, p1, p2, rfl, rfl, rfl, h0, h1, h2⟩ := trodAll_three hA
  obtain ⟨rfl, rfl⟩ := trodVars_none hV
  have k0 := h0
  have lt0 : ∀ x ∈ p0, x.block < W.heap.size := by obtain ⟨m, hm⟩ := k0; exact DataW.trod_lt m _ _ _ hm
  obtain ⟨x0, hx0⟩ := opens_specs (hval 0 22 v0 rfl rfl) h0
  have k1 := h1
  have lt1 : ∀ x ∈ p1, x.block < W.heap.size := by obtain ⟨m, hm⟩ := k1; exact DataW.trod_lt m _ _ _ hm
  obtain ⟨x1, rfl, wa1, wb1⟩ := opens_die (hval 1 24 v1 rfl rfl) h1
  have k2 := h2
  have lt2 : ∀ x ∈ p2, x.block < W.heap.size := by obtain ⟨m, hm⟩ := k2; exact DataW.trod_lt m _ _ _ hm
  obtain ⟨x2, rfl, wa2, wb2⟩ := opens_die (hval 2 24 v2 rfl rfl) h2
  clear hA0 hval0
  refine (first_walk' v0 x0 x1 x2 W hx0 wa1 wb1 wa2 wb2).mono fun e W' ⟨he, bel⟩ => ?_
  subst he
  exact ⟨_, rfl, _, _, _, [], _, [], hW', trodAll_mk1 (shut_bool Tryz.underlying4 _), trodAll_mk3 (Below.trod Try.laidOut (by kernel_rfl) (of_decide_eq_true (by kernel_rfl)) k0 bel lt0) (Below.trod Try.laidOut (by kernel_rfl) (of_decide_eq_true (by kernel_rfl)) k1 bel lt1) (Below.trod Try.laidOut (by kernel_rfl) (of_decide_eq_true (by kernel_rfl)) k2 bel lt2), rfl, bel.frame _, fun h => by cases h⟩

theorem firs_holds : Rows.JoiningFirstSaid :=
  OpenClaim.holds_of_wide 3 Tryz.f3 rfl rfl rfl rfl rfl rfl rfl ⟨rfl, rfl, rfl, rfl, rfl⟩ rfl rfl rfl rfl rfl (by kernel_rfl) Tryz.func3 (by kernel_rfl)
    (of_decide_eq_true (by kernel_rfl)) (by unfold Func.isWrapper; first | (rw [if_pos (by decide +kernel)]; kernel_rfl) | (rw [if_neg (by decide +kernel)]; exact ⟨rfl, rfl⟩))
    (fun os started H enc _ => firs_lifted os started H enc)
end Go.Proofs.YtcpobcfncmcakaaGreat
