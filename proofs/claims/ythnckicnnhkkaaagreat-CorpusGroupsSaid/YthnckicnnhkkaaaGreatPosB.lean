/- Package poset: Valid, Acyclic at a digraph. Condition: the arcs are a digraph's. -/
import Derived.Test.YthnckicnnhkkaaaGreatConP
namespace Go.Proofs.YthnckicnnhkkaaaGreat
open Go.RowKit Go.Maps Go.Shelf

set_option maxHeartbeats 8000000 in
set_option maxRecDepth 100000 in
theorem pValid_ok (n : Nat) (v : Value) (a : List Pair) (w : World) (h : Pairs w v a) (hd : DigP n a) :
    Calls Tryz.prog 177 #[.int .i64 n, v] w fun e w' => e = .returned (.bool true) ∧ Below w.heap.size w w' := by
  obtain ⟨A, c, rfl, hlc, hcm, hcl⟩ := h.cells
  have HCl := Lib.hid hcl; have Hd := Lib.hid hd
  have hn := hd.le
  have g0 : decide ((n : Int) < 0) = false := by simp
  have g1 : decide ((24 : Int) < (n : Int)) = false := by simp; omega
  clear h hcl hd
  go_enter Tryz.func177, Tryz.ntmps177
  go_wp2_with fail
  clear g0 g1
  go_loopw [15] (fun t wr => ∃ k : Nat, k ≤ a.length ∧ t = .int .i64 k ∧ Below w.heap.size w wr) (fun t _ => a.length - (intOf t).toNat)
  case atStart => exact ⟨0, Nat.zero_le _, rfl, Below.refl _ _⟩
  case round =>
    obtain ⟨k, hk, rfl, hb⟩ := hrel
    by_cases hlt : k < a.length
    case neg =>
      go_wp2
      go_ret
      exact ⟨rfl, hb⟩
    obtain ⟨x, hx⟩ := get_of_lt hlt
    obtain ⟨b, o, rfl, _, hcc⟩ := HCl.out _ hlt
    obtain ⟨p0, q0, ex, hp0, hq0⟩ := Hd.out.arcs x (List.mem_of_getElem? hx)
    have hpq := Hd.out.ne _ (List.mem_of_getElem? hx)
    obtain ⟨p, q⟩ := x
    have hp : 0 ≤ p ∧ p < (n : Int) := by cases ex; omega
    have hq : 0 ≤ q ∧ q < (n : Int) := by cases ex; omega
    clear ex hp0 hq0
    simp only at hpq
    obtain ⟨c0, c1⟩ := hcc wr hb k _ hx
    have hl1 : (k : Int) < (a.length : Int) := by omega
    have d2 : decide (p < 0) = false := by simp; omega
    have d3 : decide ((n : Int) ≤ p) = false := by simp; omega
    have d4 : decide (q < 0) = false := by simp; omega
    have d5 : decide ((n : Int) ≤ q) = false := by simp; omega
    have d6 : (p == q) = false := by simpa using hpq
    have Hp := Lib.hid hp; have Hq := Lib.hid hq
    clear hp hq p0 q0
    simp only at c0 c1
    obtain ⟨V1, V2, hV1, hV2, HzV2, hkV1, hkV2, hbV2, hltV2⟩ := fresh wr [.int .i64 0, .int .i64 0] [.int .i64 p, .int .i64 q] 177 rfl
    have hsV2 : (V1.setCell ⟨wr.heap.size, 0, none⟩ (.int .i64 p)).setCell ⟨wr.heap.size, 1, none⟩ (.int .i64 q) = V2 := hV2
    clear hV2
    obtain ⟨⟨z0, z1⟩, f0, f1⟩ := cells2 hkV1
    obtain ⟨⟨s0, s1⟩, _⟩ := cells2 hkV2
    clear hkV1
    have hbV := below_trans hb hbV2
    have HPQ := Lib.hid hpq
    have HX := Lib.hid hx; have HC := Lib.hid hcc
    clear hcc hpq hx
    go_wp2_with fail
    clear z0 z1 f0 f1 hsV2 d2 d3 d4 d5 d6 c0 c1
    have Y1 := Later.cell_all s0; have Y2 := Later.cell_all s1
    rcases Nat.eq_zero_or_pos k with hk0 | hk0
    · have k0 : decide ((0 : Int) < (k : Int)) = false := by simp; omega
      refine wp_region_later (by kernel_rfl) (by kernel_rfl) ?_
      repeat (go_big_quiet_step (first | fail))
      refine wpQuiet_nil ?_
      intro _ hw'
      obtain ⟨xq, hw''⟩ := hw'
      subst hw''
      have hba := xq.h
      generalize xq.to = wa at hba ⊢
      clear Y1 Y2 s0 s1 k0
      have hbw := below_trans hbV hba
      go_wp2_with fail
      refine ⟨?rel, ?measure⟩
      case rel => exact ⟨k + 1, by omega, by go_num, hbw⟩
      case measure => simp [intOf]; omega
    obtain ⟨j, hj⟩ : ∃ j, j + 1 = k := ⟨k - 1, by omega⟩
    obtain ⟨y, hy⟩ := get_of_lt (show j < a.length by omega)
    obtain ⟨p', q'⟩ := y
    obtain ⟨e0, e1⟩ := HC.out V2 (below_trans hb hbV2) j _ hy
    simp only at e0 e1
    have hpw : ltP ⟨p', q'⟩ ⟨p, q⟩ := by
      have h1 := List.pairwise_iff_getElem.1 Hd.out.srt j k (lt_of_get hy) hlt (by omega)
      rwa [(List.getElem?_eq_some_iff.1 hy).2, (List.getElem?_eq_some_iff.1 HX.out).2] at h1
    have HW : Hid (p' < p ∨ p' = p ∧ q' < q) := Lib.hid hpw
    have Y3 := Later.cell_all e0; have Y4 := Later.cell_all e1
    have k0 : (0 : Int) < (k : Int) := by omega
    have k1 : decide ((0 : Int) < (k : Int)) = true := by simp; omega
    have hsub : (k : Int) - 1 = (j : Int) := by omega
    have hj0 : (0 : Int) ≤ (j : Int) := by omega
    have hj1 : (j : Int) < (a.length : Int) := by omega
    have d7 : decide (p < p') = false := by have := HW.out; simp; omega
    have Hk1 := Lib.hid hk; have Hj := Lib.hid hj
    clear hpw hy hj hk
    cases d8 : (p == p')
    · refine wp_region_later (by kernel_rfl) (by kernel_rfl) ?_
      repeat (go_big_quiet_step (first | fail))
      refine wpQuiet_nil ?_
      intro _ hw'
      obtain ⟨xq, hw''⟩ := hw'
      subst hw''
      have hba := xq.h
      generalize xq.to = wa at hba ⊢
      clear Y1 Y2 Y3 Y4 s0 s1 e0 e1 k0 k1 hsub hj0 hj1 d7 d8
      have hbw := below_trans hbV hba
      go_wp2_with fail
      refine ⟨?rel, ?measure⟩
      case rel => exact ⟨k + 1, by omega, by go_num, hbw⟩
      case measure => simp [intOf]; omega
    · have d9 : decide (q ≤ q') = false := by
        have := HW.out
        have h9 : p = p' := by simpa using d8
        simp; omega
      refine wp_region_later (by kernel_rfl) (by kernel_rfl) ?_
      repeat (go_big_quiet_step (first | fail))
      refine wpQuiet_nil ?_
      intro _ hw'
      obtain ⟨xq, hw''⟩ := hw'
      subst hw''
      have hba := xq.h
      generalize xq.to = wa at hba ⊢
      clear Y1 Y2 Y3 Y4 s0 s1 e0 e1 k0 k1 hsub hj0 hj1 d7 d8 d9
      have hbw := below_trans hbV hba
      go_wp2_with fail
      refine ⟨?rel, ?measure⟩
      case rel => exact ⟨k + 1, by omega, by go_num, hbw⟩
      case measure => simp [intOf]; omega
set_option maxHeartbeats 4000000 in
theorem pAcyc_ok (n : Nat) (v : Value) (a : List Pair) (w : World) (h : Pairs w v a) (hd : DigP n a) :
    Calls Tryz.prog 134 #[.int .i64 n, v] w fun e w' => e = .returned (.bool (acyA n a)) ∧ Below w.heap.size w w' := by
  have HV := Lib.hid (pValid_ok n v a w h hd)
  have HR := Lib.hid fun w1 (hb : Below w.heap.size w w1) => reach_ok n hd.le v a w1 (h.below hb) hd.arcs
  have hn := hd.le
  obtain ⟨A, c, rfl, _⟩ := h.cells
  clear hd
  go_enter Tryz.func134, Tryz.ntmps134
  go_wp2_with fail
  refine HV.out.mono ?_
  rintro e w1 ⟨rfl, hb1⟩
  go_wp2_with fail
  refine (HR.out w1 hb1).mono ?_
  rintro e w2 ⟨g, zs, rfl, hrow, hbs, _, hb2⟩
  have HA := Lib.hid (acyc_ok n g hn zs _ w2 hrow hbs)
  clear hrow hbs
  go_wp2_with fail
  refine HA.out.mono ?_
  rintro e w3 ⟨rfl, hb3⟩
  go_wp2_with fail
  go_ret
  exact ⟨rfl, below_trans hb1 (below_trans hb2 hb3)⟩
end Go.Proofs.YthnckicnnhkkaaaGreat
