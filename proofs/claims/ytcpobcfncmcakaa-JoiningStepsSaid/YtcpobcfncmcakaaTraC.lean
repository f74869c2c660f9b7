/- The tracker of package joining: Add. Condition: the tracker in its memory. -/
import Derived.Test.YtcpobcfncmcakaaTraB
import Derived.Deep.DeepCutAuto
namespace Go.Proofs.Ytcpobcfncmcakaa
open Go.RowKit Go.Maps

/-- What Add says: the error. -/
def addE (l : List Spec) (s : Spec) : Int := if specB s = true then (if s.id ∈ l.map Spec.id then 8 else if ofE (l ++ [s]) = 0 then 0 else 6) else 1
def addB (l : List Spec) (s : Spec) : Bool := decide (addE l s = 0) && (apartG s (growL l) && thereG s (growL l))
def addL (l : List Spec) (s : Spec) : List Spec := if addE l s = 0 then l ++ [s] else l
theorem addE_1 {l : List Spec} {s : Spec} (h : specB s = false) : addE l s = 1 := by simp [addE, h]
theorem addE_8 {l : List Spec} {s : Spec} (h : specB s = true) (k : s.id ∈ l.map Spec.id) : addE l s = 8 := by rw [addE, if_pos h, if_pos k]
theorem addE_6 {l : List Spec} {s : Spec} (h : specB s = true) (k : s.id ∉ l.map Spec.id) (m : ofE (l ++ [s]) ≠ 0) : addE l s = 6 := by rw [addE, if_pos h, if_neg k, if_neg m]
theorem addE_0 {l : List Spec} {s : Spec} (h : specB s = true) (k : s.id ∉ l.map Spec.id) (m : ofE (l ++ [s]) = 0) : addE l s = 0 := by rw [addE, if_pos h, if_neg k, if_pos m]
theorem add_no {l : List Spec} {s : Spec} (h : addE l s ≠ 0) : addB l s = false ∧ addL l s = l := ⟨by simp [addB, h], by rw [addL, if_neg h]⟩
theorem add_yes {l : List Spec} {s : Spec} (h : addE l s = 0) : addB l s = (apartG s (growL l) && thereG s (growL l)) ∧ addL l s = l ++ [s] := ⟨by simp [addB, h], by rw [addL, if_pos h]⟩

set_option maxHeartbeats 1000000 in
theorem AddN_ok (s : Spec) (w : World) : Calls Try.prog 14 #[.pointer none, valS s] w fun e w' => e = .returned (.tuple #[.bool false, .int .i64 1]) ∧ Below w.heap.size w w' := by
  obtain ⟨W, hW, Hz, hbW, hltW, hc0⟩ := boxed w #[.int .i64 s.id, .int .i64 s.obv, .int .i64 s.rev, .int .i64 s.os, .int .i64 s.rs, .int .i64 s.ax, .int .i64 s.wt] 30
  clear hc0
  go_enter Try.func14, Try.ntmps14
  go_wp2_with fail
  exact bodyPost_ret (v := .tuple #[.bool false, .int .i64 1]) (by simp [results, Try.results14, go_sem]) rfl ⟨rfl, hbW⟩
set_option maxHeartbeats 8000000 in
set_option maxRecDepth 100000 in
theorem Add_ok (q : Nat) (l : List Spec) (s : Spec) (w : World) (h : TrAt w q l) : Calls Try.prog 14 #[.pointer (some ⟨q, 0, none⟩), valS s] w fun e w' => e = .returned (.tuple #[.bool (addB l s), .int .i64 (addE l s)]) ∧ TrAt w' q (addL l s) ∧ Touch w w' [q] := by
  obtain ⟨W, hW, Hz, hbW, hltW, hc0⟩ := boxed w #[.int .i64 s.id, .int .i64 s.obv, .int .i64 s.rev, .int .i64 s.os, .int .i64 s.rs, .int .i64 s.ax, .int .i64 s.wt] 30
  have a0 := hc0 0 _ rfl; have a1 := hc0 1 _ rfl; have a2 := hc0 2 _ rfl; have a3 := hc0 3 _ rfl; have a4 := hc0 4 _ rfl; have a5 := hc0 5 _ rfl; have a6 := hc0 6 _ rfl
  have hT := h.below hbW
  clear hc0
  go_enter Try.func14, Try.ntmps14
  go_wp2_with fail
  refine (SValid_ok s _).mono ?_
  rintro e w1 ⟨rfl, hb1⟩
  have a0 := cell_later hb1 a0; have a1 := cell_later hb1 a1; have a2 := cell_later hb1 a2; have a3 := cell_later hb1 a3; have a4 := cell_later hb1 a4; have a5 := cell_later hb1 a5; have a6 := cell_later hb1 a6
  have hT := hT.below hb1
  have hw1 := below_trans hbW hb1
  clear hW
  cases hv : specB s
  · have HE := Lib.hid (addE_1 (l := l) hv)
    clear a0 a1 a2 a3 a4 a5 a6 hv
    go_wp2_with fail
    have hA := add_no (l := l) (s := s) (by rw [HE.out]; decide)
    exact bodyPost_ret (v := .tuple #[.bool false, .int .i64 1]) (by simp [results, Try.results14, go_sem]) rfl ⟨by rw [hA.1, HE.out], by rw [hA.2]; exact hT, touch_below hw1 _⟩
  have Hv := Lib.hid hv; clear hv
  go_wp2_with fail
  obtain ⟨D, hD⟩ : ∃ D, decide (s.id ∈ l.map Spec.id) = D := ⟨_, rfl⟩
  have HD := Lib.hid hD; clear hD
  go_cut [7] (fun s7 wc => s7 = .bool D ∧ Below w1.heap.size w1 wc)
  case first =>
    have hba : Below w1.heap.size w1 w1.drew := (Below.refl _ _).drew
    obtain ⟨wa, hwa⟩ : ∃ W, w1.drew = W := ⟨_, rfl⟩
    rw [hwa] at hba
    obtain ⟨A, c, hq, hS⟩ := (hT.below hba).ex
    have q0 : wa.cell? ⟨q, 0, none⟩ = some (.slice A l.length c) := heap_cell hq
    have hHeld : wa.cell? ⟨q, 0, none⟩ = some (.slice A l.length c) ∧ wa.cell? ⟨w.heap.size, 0, none⟩ = some (.int .i64 s.id) := ⟨q0, cell_later hba a0⟩
    have HH := Lib.hid hHeld
    refine wp_region_S 12 (fun w' => w'.cell? ⟨q, 0, none⟩ = some (.slice A l.length c) ∧ w'.cell? ⟨w.heap.size, 0, none⟩ = some (.int .i64 s.id)) (by kernel_rfl) (by decide) ?_
    rw [hwa]
    clear hwa q0 hq hT a0 a1 a2 a3 a4 a5 a6
    refine wpAnyS_takeD 0 (some 21) (.pointer (some ⟨q, 0, none⟩)) (by rfl) (by rfl) (by kernel_rfl) (by exact fun _ _ _ h => h) (by rfl) (fun w' hS => by go_simp) hHeld ?_
    simp only [Act.put, List.setIfInBounds_toArray, List.set_cons_succ, List.set_cons_zero]
    refine wpAnyS_takeD 1 (some 22) (.pointer (some ⟨q, 0, none⟩)) (by rfl) (by rfl) (by kernel_rfl) (by exact fun _ _ _ h => h) (by rfl) (fun w' hS => by go_simp) hHeld ?_
    simp only [Act.put, List.setIfInBounds_toArray, List.set_cons_succ, List.set_cons_zero]
    refine wpAnyS_takeD 2 (some 23) (.pointer (some ⟨q, 0, none⟩)) (by rfl) (by rfl) (by kernel_rfl) (by exact fun _ _ _ h => h) (by rfl) (fun w' hS => by go_simp) hHeld ?_
    simp only [Act.put, List.setIfInBounds_toArray, List.set_cons_succ, List.set_cons_zero]
    refine wpAnyS_takeD 3 (some 24) (.slice A l.length c) (by rfl) (by rfl) (by kernel_rfl) (by exact fun _ _ _ h => h) (by rfl) (fun w' hS => by (obtain ⟨x0, x1⟩ := hS; go_simp)) hHeld ?_
    simp only [Act.put, List.setIfInBounds_toArray, List.set_cons_succ, List.set_cons_zero]
    refine wpAnyS_takeD 4 (some 25) (.pointer (some ⟨w.heap.size, 0, none⟩)) (by rfl) (by rfl) (by kernel_rfl) (by exact fun _ _ _ h => h) (by rfl) (fun w' hS => by go_simp) hHeld ?_
    simp only [Act.put, List.setIfInBounds_toArray, List.set_cons_succ, List.set_cons_zero]
    refine wpAnyS_takeD 5 (some 26) (.int .i64 s.id) (by rfl) (by rfl) (by kernel_rfl) (by exact fun _ _ _ h => h) (by rfl) (fun w' hS => by (obtain ⟨x0, x1⟩ := hS; go_simp)) hHeld ?_
    simp only [Act.put, List.setIfInBounds_toArray, List.set_cons_succ, List.set_cons_zero]
    clear hHeld
    refine wpAnyS_two 6 10 (by kernel_rfl) (by rfl) (by rfl) (by decide) (by decide) (fun K hK => ?_) (fun K hK => ?_)
    · have HK := Lib.hid hK; clear hK
      rw [if_pos (by rfl)]
      go_simp
      have hF := Find_ok _ l s.id wa hS
      rw [HD.out] at hF
      refine hF.mono ?_
      rintro e w3 ⟨s', rfl, hb3⟩
      have hHeld : w3.cell? ⟨q, 0, none⟩ = some (.slice A l.length c) ∧ w3.cell? ⟨w.heap.size, 0, none⟩ = some (.int .i64 s.id) := ⟨cell_later hb3 HH.out.1, cell_later hb3 HH.out.2⟩
      refine HK.out _ _ hHeld ?_
      clear HK
      refine wpAnyS_takeD 7 (some 20) (.tuple #[valS s', .bool D]) (by rfl) (by rfl) (by kernel_rfl) (by exact fun _ _ _ h => h) (by rfl) (fun w' hS => by go_simp) hHeld ?_
      simp only [Act.put, List.setIfInBounds_toArray, List.set_cons_succ, List.set_cons_zero]
      refine wpAnyS_takeD 8 (some 28) (valS s') (by rfl) (by rfl) (by kernel_rfl) (by exact fun _ _ _ h => h) (by rfl) (fun w' hS => by go_simp) hHeld ?_
      simp only [Act.put, List.setIfInBounds_toArray, List.set_cons_succ, List.set_cons_zero]
      refine wpAnyS_takeD 9 (some 29) (.bool D) (by rfl) (by rfl) (by kernel_rfl) (by exact fun _ _ _ h => h) (by rfl) (fun w' hS => by go_simp) hHeld ?_
      simp only [Act.put, List.setIfInBounds_toArray, List.set_cons_succ, List.set_cons_zero]
      have H3 := Lib.hid hHeld; clear hHeld
      obtain ⟨V1, V2, hV1, hV2, HzV2, hkV1, hkV2, hbV2, hltV2⟩ := fresh w3 [.int .i64 0, .int .i64 0, .int .i64 0, .int .i64 0, .int .i64 0, .int .i64 0, .int .i64 0] [.int .i64 (s').id, .int .i64 (s').obv, .int .i64 (s').rev, .int .i64 (s').os, .int .i64 (s').rs, .int .i64 (s').ax, .int .i64 (s').wt] 30 rfl
      have hsV2 : ((((((V1.setCell ⟨w3.heap.size, 0, none⟩ (.int .i64 (s').id)).setCell ⟨w3.heap.size, 1, none⟩ (.int .i64 (s').obv)).setCell ⟨w3.heap.size, 2, none⟩ (.int .i64 (s').rev)).setCell ⟨w3.heap.size, 3, none⟩ (.int .i64 (s').os)).setCell ⟨w3.heap.size, 4, none⟩ (.int .i64 (s').rs)).setCell ⟨w3.heap.size, 5, none⟩ (.int .i64 (s').ax)).setCell ⟨w3.heap.size, 6, none⟩ (.int .i64 (s').wt) = V2 := hV2
      clear hV2
      obtain ⟨⟨z0, z1, z2, z3, z4, z5, z6⟩, f0, f1, f2, f3, f4, f5, f6⟩ := cellsS hkV1
      clear hkV1
      obtain ⟨⟨s0, s1, s2, s3, s4, s5, s6⟩, _⟩ := cellsS hkV2
      refine wpAnyS_one 10 (by kernel_rfl) (by rfl) (by decide) (fun K hK => ?_)
      have HK := Lib.hid hK; clear hK
      rw [if_pos (by rfl)]
      go_simp
      have hbV1 : Below w3.heap.size w3 V1 := by rw [← hV1]; exact (Below.refl _ _).alloc (Nat.le_refl _) _
      refine HK.out _ _ ⟨cell_later hbV1 H3.out.1, cell_later hbV1 H3.out.2⟩ ?_
      clear HK
      refine wpAnyS_one 11 (by kernel_rfl) (by rfl) (by decide) (fun K hK => ?_)
      have HK := Lib.hid hK; clear hK
      rw [if_pos (by rfl)]
      go_simp
      refine HK.out _ _ ⟨cell_later hbV2 H3.out.1, cell_later hbV2 H3.out.2⟩ ?_
      clear HK
      refine (show tailOf _ _ _ _ _ _ _ _ from ⟨by kernel_rfl, ?_⟩)
      simp only [List.drop_succ_cons, List.drop_zero]
      go_wp2_with fail
      go_meet
      exact ⟨rfl, below_trans hba (below_trans hb3 hbV2)⟩
    · have HK := Lib.hid hK; clear hK
      obtain ⟨V1, hV1⟩ : ∃ z, wa.alloc (.cells #[.int .i64 0, .int .i64 0, .int .i64 0, .int .i64 0, .int .i64 0, .int .i64 0, .int .i64 0] 30) = z := ⟨_, rfl⟩
      have hkV : V1.heap[wa.heap.size]? = some (.cells [.int .i64 0, .int .i64 0, .int .i64 0, .int .i64 0, .int .i64 0, .int .i64 0, .int .i64 0].toArray 30 (0, 0)) := by rw [← hV1]; exact heap_alloc_new _ _
      have hbV1 : Below wa.heap.size wa V1 := by rw [← hV1]; exact (Below.refl _ _).alloc (Nat.le_refl _) _
      rw [if_pos (by rfl)]
      go_simp
      refine HK.out _ _ ⟨cell_later hbV1 HH.out.1, cell_later hbV1 HH.out.2⟩ ?_
      clear HK
      refine wpAnyS_one 6 (by kernel_rfl) (by rfl) (by decide) (fun K hK => ?_)
      have HK := Lib.hid hK; clear hK
      rw [if_pos (by rfl)]
      go_simp
      have hF := Find_ok _ l s.id V1 (hS.below hbV1)
      rw [HD.out] at hF
      refine hF.mono ?_
      rintro e w3 ⟨s', rfl, hb3⟩
      have hHeld : w3.cell? ⟨q, 0, none⟩ = some (.slice A l.length c) ∧ w3.cell? ⟨w.heap.size, 0, none⟩ = some (.int .i64 s.id) := ⟨cell_later hb3 (cell_later hbV1 HH.out.1), cell_later hb3 (cell_later hbV1 HH.out.2)⟩
      refine HK.out _ _ hHeld ?_
      clear HK
      have hk3 := heap_below hkV hb3 (heap_lt hkV)
      refine wpAnyS_takeD 7 (some 20) (.tuple #[valS s', .bool D]) (by rfl) (by rfl) (by kernel_rfl) (by exact fun _ _ _ h => h) (by rfl) (fun w' hS => by go_simp) hHeld ?_
      simp only [Act.put, List.setIfInBounds_toArray, List.set_cons_succ, List.set_cons_zero]
      refine wpAnyS_takeD 8 (some 28) (valS s') (by rfl) (by rfl) (by kernel_rfl) (by exact fun _ _ _ h => h) (by rfl) (fun w' hS => by go_simp) hHeld ?_
      simp only [Act.put, List.setIfInBounds_toArray, List.set_cons_succ, List.set_cons_zero]
      refine wpAnyS_takeD 9 (some 29) (.bool D) (by rfl) (by rfl) (by kernel_rfl) (by exact fun _ _ _ h => h) (by rfl) (fun w' hS => by go_simp) hHeld ?_
      simp only [Act.put, List.setIfInBounds_toArray, List.set_cons_succ, List.set_cons_zero]
      clear hHeld
      obtain ⟨⟨r0, r1, r2, r3, r4, r5, r6⟩, g0, g1, g2, g3, g4, g5, g6⟩ := cellsS hk3
      obtain ⟨V3, hV3⟩ : ∃ z, (((((((w3.setCell ⟨wa.heap.size, 0, none⟩ (.int .i64 s'.id)).setCell ⟨wa.heap.size, 1, none⟩ (.int .i64 s'.obv)).setCell ⟨wa.heap.size, 2, none⟩ (.int .i64 s'.rev)).setCell ⟨wa.heap.size, 3, none⟩ (.int .i64 s'.os)).setCell ⟨wa.heap.size, 4, none⟩ (.int .i64 s'.rs)).setCell ⟨wa.heap.size, 5, none⟩ (.int .i64 s'.ax)).setCell ⟨wa.heap.size, 6, none⟩ (.int .i64 s'.wt)) = z := ⟨_, rfl⟩
      have hb9 := hbV1.trans (hb3.mono hbV1.size)
      have hbV3 : Below wa.heap.size wa V3 := by rw [← hV3]; exact below_set7 hb9 (Nat.le_refl _) hb9.size
      clear hk3 hkV
      refine wpAnyS_one 11 (by kernel_rfl) (by rfl) (by decide) (fun K hK => ?_)
      have HK := Lib.hid hK; clear hK
      rw [if_pos (by rfl)]
      go_simp
      refine HK.out _ _ ⟨cell_later hbV3 HH.out.1, cell_later hbV3 HH.out.2⟩ ?_
      clear HK
      refine (show tailOf _ _ _ _ _ _ _ _ from ⟨by kernel_rfl, ?_⟩)
      simp only [List.drop_succ_cons, List.drop_zero]
      go_wp2_with fail
      go_meet
      exact ⟨rfl, below_trans hba hbV3⟩
  case rest =>
    obtain ⟨rfl, hbc⟩ := hcut
    obtain ⟨wd, hwd⟩ : ∃ z, z = wc := ⟨_, rfl⟩
    subst hwd
    have a0 := cell_later hbc a0; have a1 := cell_later hbc a1; have a2 := cell_later hbc a2; have a3 := cell_later hbc a3; have a4 := cell_later hbc a4; have a5 := cell_later hbc a5; have a6 := cell_later hbc a6
    have hTc := hT.below hbc
    have hwc := below_trans hw1 hbc
    have HDu := Lib.hid hTc
    cases D
    case true =>
      have HE := Lib.hid (addE_8 Hv.out (of_decide_eq_true HD.out))
      clear a0 a1 a2 a3 a4 a5 a6
      go_wp2_with fail
      have hA := add_no (l := l) (s := s) (by rw [HE.out]; decide)
      exact bodyPost_ret (v := .tuple #[.bool false, .int .i64 8]) (by simp [results, Try.results14, go_sem]) rfl ⟨by rw [hA.1, HE.out], by rw [hA.2]; exact HDu.out, touch_below hwc _⟩
    have HD := Lib.hid (of_decide_eq_false HD.out)
    clear hTc hT
    go_wp2_with fail
    go_cut [8] (fun s8 w2 => OwnS wd.heap.size w2 s8 (l ++ [s]) ∧ Below wd.heap.size wd w2)
    case first =>
      have hba : Below wd.heap.size wd wd.drew := (Below.refl _ _).drew
      obtain ⟨wa, hwa⟩ : ∃ W, wd.drew = W := ⟨_, rfl⟩
      rw [hwa] at hba
      obtain ⟨A, c, hq, hS⟩ := (HDu.out.below hba).ex
      have hll := HDu.out.len
      have q0 : wa.cell? ⟨q, 0, none⟩ = some (.slice A l.length c) := heap_cell hq
      have hHeld : (fun w' : World => w'.cell? ⟨q, 0, none⟩ = some (.slice A l.length c) ∧ w'.cell? ⟨w.heap.size, 0, none⟩ = some (.int .i64 s.id) ∧ w'.cell? ⟨w.heap.size, 1, none⟩ = some (.int .i64 s.obv) ∧ w'.cell? ⟨w.heap.size, 2, none⟩ = some (.int .i64 s.rev) ∧ w'.cell? ⟨w.heap.size, 3, none⟩ = some (.int .i64 s.os) ∧ w'.cell? ⟨w.heap.size, 4, none⟩ = some (.int .i64 s.rs) ∧ w'.cell? ⟨w.heap.size, 5, none⟩ = some (.int .i64 s.ax) ∧ w'.cell? ⟨w.heap.size, 6, none⟩ = some (.int .i64 s.wt)) wa := ⟨q0, cell_later hba a0, cell_later hba a1, cell_later hba a2, cell_later hba a3, cell_later hba a4, cell_later hba a5, cell_later hba a6⟩
      have HH := Lib.hid (fun (w' : World) (hb : Below wa.heap.size wa w') => (show (fun w' : World => w'.cell? ⟨q, 0, none⟩ = some (.slice A l.length c) ∧ w'.cell? ⟨w.heap.size, 0, none⟩ = some (.int .i64 s.id) ∧ w'.cell? ⟨w.heap.size, 1, none⟩ = some (.int .i64 s.obv) ∧ w'.cell? ⟨w.heap.size, 2, none⟩ = some (.int .i64 s.rev) ∧ w'.cell? ⟨w.heap.size, 3, none⟩ = some (.int .i64 s.os) ∧ w'.cell? ⟨w.heap.size, 4, none⟩ = some (.int .i64 s.rs) ∧ w'.cell? ⟨w.heap.size, 5, none⟩ = some (.int .i64 s.ax) ∧ w'.cell? ⟨w.heap.size, 6, none⟩ = some (.int .i64 s.wt)) w' from ⟨cell_later hb hHeld.1, cell_later hb hHeld.2.1, cell_later hb hHeld.2.2.1, cell_later hb hHeld.2.2.2.1, cell_later hb hHeld.2.2.2.2.1, cell_later hb hHeld.2.2.2.2.2.1, cell_later hb hHeld.2.2.2.2.2.2.1, cell_later hb hHeld.2.2.2.2.2.2.2⟩))
      obtain ⟨iS, hiS, hzS, hkS, hbS⟩ := info_parts infoS
      refine wp_region_S 8 (fun w' => w'.cell? ⟨q, 0, none⟩ = some (.slice A l.length c) ∧ w'.cell? ⟨w.heap.size, 0, none⟩ = some (.int .i64 s.id) ∧ w'.cell? ⟨w.heap.size, 1, none⟩ = some (.int .i64 s.obv) ∧ w'.cell? ⟨w.heap.size, 2, none⟩ = some (.int .i64 s.rev) ∧ w'.cell? ⟨w.heap.size, 3, none⟩ = some (.int .i64 s.os) ∧ w'.cell? ⟨w.heap.size, 4, none⟩ = some (.int .i64 s.rs) ∧ w'.cell? ⟨w.heap.size, 5, none⟩ = some (.int .i64 s.ax) ∧ w'.cell? ⟨w.heap.size, 6, none⟩ = some (.int .i64 s.wt)) (by kernel_rfl) (by decide) ?_
      rw [hwa]
      clear hwa q0 hq a0 a1 a2 a3 a4 a5 a6
      refine wpAnyS_takeD 0 (some 31) (.pointer (some ⟨q, 0, none⟩)) (by rfl) (by rfl) (by kernel_rfl) (by exact fun _ _ _ h => h) (by rfl) (fun w' hS => by go_simp) hHeld ?_
      simp only [Act.put, List.setIfInBounds_toArray, List.set_cons_succ, List.set_cons_zero]
      refine wpAnyS_takeD 1 (some 32) (.pointer (some ⟨q, 0, none⟩)) (by rfl) (by rfl) (by kernel_rfl) (by exact fun _ _ _ h => h) (by rfl) (fun w' hS => by go_simp) hHeld ?_
      simp only [Act.put, List.setIfInBounds_toArray, List.set_cons_succ, List.set_cons_zero]
      refine wpAnyS_takeD 2 (some 33) (.pointer (some ⟨q, 0, none⟩)) (by rfl) (by rfl) (by kernel_rfl) (by exact fun _ _ _ h => h) (by rfl) (fun w' hS => by go_simp) hHeld ?_
      simp only [Act.put, List.setIfInBounds_toArray, List.set_cons_succ, List.set_cons_zero]
      refine wpAnyS_takeD 3 (some 34) (.slice A l.length c) (by rfl) (by rfl) (by kernel_rfl) (by exact fun _ _ _ h => h) (by rfl) (fun w' hS => by (obtain ⟨x0, x1⟩ := hS; go_simp)) hHeld ?_
      simp only [Act.put, List.setIfInBounds_toArray, List.set_cons_succ, List.set_cons_zero]
      refine wpAnyS_takeD 5 (some 36) (valS s) (by rfl) (by rfl) (by kernel_rfl) (by exact fun _ _ _ h => h) (by rfl) (fun w' hS => by (obtain ⟨x0, x1, x2, x3, x4, x5, x6, x7⟩ := hS; go_simp)) hHeld ?_
      simp only [Act.put, List.setIfInBounds_toArray, List.set_cons_succ, List.set_cons_zero]
      clear hHeld
      refine wpAnyS_two 4 6 (by kernel_rfl) (by rfl) (by rfl) (by decide) (by decide) (fun K hK => ?_) (fun K hK => ?_)
      · have HK := Lib.hid hK; clear hK
        rw [if_pos (by rfl)]
        go_simp
        refine (cloneS_ok _ l wa hS (by omega)).mono ?_
        rintro e w3 ⟨x, rfl, hx, hb3⟩
        refine HK.out _ _ (HH.out _ hb3) ?_
        clear HK
        obtain ⟨V, hV, HzV, hbV, hltV, _⟩ := boxed w3 #[.int .i64 s.id, .int .i64 s.obv, .int .i64 s.rev, .int .i64 s.os, .int .i64 s.rs, .int .i64 s.ax, .int .i64 s.wt] 30
        have hkV : V.heap[w3.heap.size]? = some (.cells (encS s).toArray 30 (0, 0)) := by rw [← hV]; exact heap_alloc_new _ _
        have hxV := hx.below hbV
        have hb4 := below_trans hb3 hbV
        have hsz := hb4.size
        refine wpAnyS_one 6 (by kernel_rfl) (by rfl) (by decide) (fun K hK => ?_)
        have HK := Lib.hid hK; clear hK
        rw [if_pos (by rfl)]
        go_simp
        refine HK.out _ _ (HH.out _ hb4) ?_
        clear HK
        refine wpAnyS_one 7 (by kernel_rfl) (by rfl) (by decide) (fun K hK => ?_)
        have HK := Lib.hid hK; clear hK
        refine step_append_sl (by rfl) (.tmp 35) (.tmp 37) _ (by rfl) iS _ 56 Try.underlying22 hiS hzS hkS hbS (by rfl) (by decide) oneS (by rfl) hxV _ 1 1 [s] (by rfl) (by rfl) (sl_one (by rfl) hkV) (by simp; omega) (by simp; omega) (by omega) ?_
        intro v' w5 ho5 hg5 _
        have hb5 := hb4.grown hg5 hb4.size (fun j e => (hxV.lt j e).1)
        refine HK.out _ _ (HH.out _ hb5) ?_
        clear HK
        refine (show tailOf _ _ _ _ _ _ _ _ from ⟨by kernel_rfl, ?_⟩)
        simp only [List.drop_succ_cons, List.drop_zero]
        go_wp2_with fail
        go_meet
        exact ⟨ho5.base hba.size, hba.trans (hb5.mono hba.size)⟩
      · have HK := Lib.hid hK; clear hK
        obtain ⟨V, hV, HzV, hbV, hltV, _⟩ := boxed wa #[.int .i64 s.id, .int .i64 s.obv, .int .i64 s.rev, .int .i64 s.os, .int .i64 s.rs, .int .i64 s.ax, .int .i64 s.wt] 30
        have hkV : V.heap[wa.heap.size]? = some (.cells (encS s).toArray 30 (0, 0)) := by rw [← hV]; exact heap_alloc_new _ _
        rw [if_pos (by rfl)]
        go_simp
        refine HK.out _ _ (HH.out _ hbV) ?_
        clear HK
        refine wpAnyS_one 4 (by kernel_rfl) (by rfl) (by decide) (fun K hK => ?_)
        have HK := Lib.hid hK; clear hK
        rw [if_pos (by rfl)]
        go_simp
        refine (cloneS_ok _ l V (hS.below hbV) (by omega)).mono ?_
        rintro e w3 ⟨x, rfl, hx, hb3⟩
        have hb4 := below_trans hbV hb3
        have hk3 := heap_below hkV hb3 (heap_lt hkV)
        have hx3 := hx.base (B' := wa.heap.size) (by omega)
        have hsz := hb4.size
        refine HK.out _ _ (HH.out _ hb4) ?_
        clear HK
        refine wpAnyS_one 7 (by kernel_rfl) (by rfl) (by decide) (fun K hK => ?_)
        have HK := Lib.hid hK; clear hK
        refine step_append_sl (by rfl) (.tmp 35) (.tmp 37) _ (by rfl) iS _ 56 Try.underlying22 hiS hzS hkS hbS (by rfl) (by decide) oneS (by rfl) hx3 _ 1 1 [s] (by rfl) (by rfl) (sl_one (by rfl) hk3) (by simp; omega) (by simp; omega) (by omega) ?_
        intro v' w5 ho5 hg5 _
        have hb5 := hb4.grown hg5 hb4.size (fun j e => (hx3.lt j e).1)
        refine HK.out _ _ (HH.out _ hb5) ?_
        clear HK
        refine (show tailOf _ _ _ _ _ _ _ _ from ⟨by kernel_rfl, ?_⟩)
        simp only [List.drop_succ_cons, List.drop_zero]
        go_wp2_with fail
        go_meet
        exact ⟨ho5.base hba.size, hba.trans (hb5.mono hba.size)⟩
    case rest =>
      obtain ⟨hown, hbo⟩ := hcut
      obtain ⟨L, hL⟩ : ∃ z, l ++ [s] = z := ⟨_, rfl⟩
      have hnx : Specs wc u8 L := by rw [← hL]; exact hown.slOf
      have HL := Lib.hid hL
      clear hown hL
      obtain ⟨An, cn, rfl, _⟩ := id hnx
      have hll := HDu.out.len
      go_wp2_with fail
      refine (Of_ok _ L _ hnx).mono ?_
      rintro e w3 ⟨ug, rfl, ⟨v1, v2, v3, rfl, ⟨A1, c1, rfl, _⟩, ⟨A2, c2, rfl, _⟩, ⟨A3, c3, rfl, _⟩⟩, hb3⟩
      obtain ⟨W1, W2, hW1, hW2, HzW2, hkW1, hkW2, hbW2, hltW2⟩ := fresh w3 [.slice none 0 0, .slice none 0 0, .slice none 0 0] [.slice A1 (ofG (L)).obv.length c1, .slice A2 (ofG (L)).rev.length c2, .slice A3 (ofG (L)).links.length c3] 49 rfl
      have hsW2 : ((W1.setCell ⟨w3.heap.size, 0, none⟩ (.slice A1 (ofG (L)).obv.length c1)).setCell ⟨w3.heap.size, 1, none⟩ (.slice A2 (ofG (L)).rev.length c2)).setCell ⟨w3.heap.size, 2, none⟩ (.slice A3 (ofG (L)).links.length c3) = W2 := hW2
      clear hW2
      obtain ⟨⟨z0, z1, z2⟩, f0, f1, f2⟩ := cells3 hkW1
      clear hkW1 hkW2
      have hbx := below_trans hb3 hbW2
      have hby : Below wd.heap.size wd W2 := hbo.trans (hbx.mono hbo.size)
      have hwy := below_trans hwc hby
      by_cases hE : ofE L = 0
      case neg =>
        have hd : (ofE L != 0) = true := by simpa using hE
        have HE := Lib.hid (addE_6 Hv.out HD.out (by rw [HL.out]; exact hE))
        clear hE a0 a1 a2 a3 a4 a5 a6
        have hTy := Lib.hid (HDu.out.below hby)
        go_wp2_with fail
        have hA := add_no (l := l) (s := s) (by rw [HE.out]; decide)
        exact bodyPost_ret (v := .tuple #[.bool false, .int .i64 6]) (by simp [results, Try.results14, go_sem]) rfl ⟨by rw [hA.1, HE.out], by rw [hA.2]; exact hTy.out, touch_below hwy _⟩
      have hd : (ofE L != 0) = false := by simp [hE]
      have HE := Lib.hid hE
      have HA := Lib.hid (add_yes (addE_0 Hv.out HD.out (by rw [HL.out]; exact hE)))
      have HA0 := Lib.hid (addE_0 Hv.out HD.out (by rw [HL.out]; exact hE))
      clear hE
      have a0 := cell_later hby a0; have a1 := cell_later hby a1; have a2 := cell_later hby a2; have a3 := cell_later hby a3; have a4 := cell_later hby a4; have a5 := cell_later hby a5; have a6 := cell_later hby a6
      have HTy := Lib.hid (HDu.out.below hby)
      have HNy := Lib.hid (hnx.below hbx)
      clear hnx
      go_wp2_with fail
      clear z0 z1 z2 f0 f1 f2 hsW2 hW1
      have hba : Below W2.heap.size W2 W2.drew := (Below.refl _ _).drew
      obtain ⟨wa, hwa⟩ : ∃ W, W2.drew = W := ⟨_, rfl⟩
      rw [hwa] at hba
      have hHeld : (fun w' : World => w'.cell? ⟨w.heap.size, 0, none⟩ = some (.int .i64 s.id) ∧ w'.cell? ⟨w.heap.size, 1, none⟩ = some (.int .i64 s.obv) ∧ w'.cell? ⟨w.heap.size, 2, none⟩ = some (.int .i64 s.rev) ∧ w'.cell? ⟨w.heap.size, 3, none⟩ = some (.int .i64 s.os) ∧ w'.cell? ⟨w.heap.size, 4, none⟩ = some (.int .i64 s.rs) ∧ w'.cell? ⟨w.heap.size, 5, none⟩ = some (.int .i64 s.ax) ∧ w'.cell? ⟨w.heap.size, 6, none⟩ = some (.int .i64 s.wt)) wa := ⟨cell_later hba a0, cell_later hba a1, cell_later hba a2, cell_later hba a3, cell_later hba a4, cell_later hba a5, cell_later hba a6⟩
      have HH := Lib.hid (fun (w' : World) (hb : Below wa.heap.size wa w') => (show (fun w' : World => w'.cell? ⟨w.heap.size, 0, none⟩ = some (.int .i64 s.id) ∧ w'.cell? ⟨w.heap.size, 1, none⟩ = some (.int .i64 s.obv) ∧ w'.cell? ⟨w.heap.size, 2, none⟩ = some (.int .i64 s.rev) ∧ w'.cell? ⟨w.heap.size, 3, none⟩ = some (.int .i64 s.os) ∧ w'.cell? ⟨w.heap.size, 4, none⟩ = some (.int .i64 s.rs) ∧ w'.cell? ⟨w.heap.size, 5, none⟩ = some (.int .i64 s.ax) ∧ w'.cell? ⟨w.heap.size, 6, none⟩ = some (.int .i64 s.wt)) w' from ⟨cell_later hb hHeld.1, cell_later hb hHeld.2.1, cell_later hb hHeld.2.2.1, cell_later hb hHeld.2.2.2.1, cell_later hb hHeld.2.2.2.2.1, cell_later hb hHeld.2.2.2.2.2.1, cell_later hb hHeld.2.2.2.2.2.2⟩))
      refine wp_region_S 8 (fun w' => w'.cell? ⟨w.heap.size, 0, none⟩ = some (.int .i64 s.id) ∧ w'.cell? ⟨w.heap.size, 1, none⟩ = some (.int .i64 s.obv) ∧ w'.cell? ⟨w.heap.size, 2, none⟩ = some (.int .i64 s.rev) ∧ w'.cell? ⟨w.heap.size, 3, none⟩ = some (.int .i64 s.os) ∧ w'.cell? ⟨w.heap.size, 4, none⟩ = some (.int .i64 s.rs) ∧ w'.cell? ⟨w.heap.size, 5, none⟩ = some (.int .i64 s.ax) ∧ w'.cell? ⟨w.heap.size, 6, none⟩ = some (.int .i64 s.wt)) (by kernel_rfl) (by decide) ?_
      rw [hwa]
      clear hwa a0 a1 a2 a3 a4 a5 a6
      refine wpAnyS_takeD 0 (some 47) (.pointer (some ⟨q, 0, none⟩)) (by rfl) (by rfl) (by kernel_rfl) (by exact fun _ _ _ h => h) (by rfl) (fun w' hS => by go_simp) hHeld ?_
      simp only [Act.put, List.setIfInBounds_toArray, List.set_cons_succ, List.set_cons_zero]
      refine wpAnyS_takeD 2 (some 49) (valS s) (by rfl) (by rfl) (by kernel_rfl) (by exact fun _ _ _ h => h) (by rfl) (fun w' hS => by (obtain ⟨x0, x1, x2, x3, x4, x5, x6⟩ := hS; go_simp)) hHeld ?_
      simp only [Act.put, List.setIfInBounds_toArray, List.set_cons_succ, List.set_cons_zero]
      clear hHeld
      refine wpAnyS_one 1 (by kernel_rfl) (by rfl) (by decide) (fun K hK => ?_)
      have HK := Lib.hid hK; clear hK
      rw [if_pos (by rfl)]
      go_simp
      refine (growth_ok q l _ (HTy.out.below hba)).mono ?_
      rintro e w4 ⟨p, b, rfl, hG, hp0, hb0, hb4⟩
      refine HK.out _ _ (HH.out _ hb4) ?_
      clear HK
      refine wpAnyS_one 3 (by kernel_rfl) (by rfl) (by decide) (fun K hK => ?_)
      have HK := Lib.hid hK; clear hK
      rw [if_pos (by rfl)]
      go_simp
      refine (step_ok p b l s w4 hG Hv.out (by omega)).mono ?_
      rintro e w5 ⟨rfl, _, hT5⟩
      have hb5 : Below wa.heap.size wa w5 := ((touch_below hb4 [p, b]).trans hT5).below (by simp; omega) (Nat.le_refl _)
      have hHeld := HH.out _ hb5
      refine HK.out _ _ hHeld ?_
      obtain ⟨B1, hB1⟩ : ∃ z, apartG s (growL l) = z := ⟨_, rfl⟩
      obtain ⟨B2, hB2⟩ : ∃ z, thereG s (growL l) = z := ⟨_, rfl⟩
      rw [hB1, hB2] at HA ⊢
      clear HK hG hT5 hB1 hB2
      refine wpAnyS_takeD 4 (some 46) (.tuple #[.bool B1, .bool B2]) (by rfl) (by rfl) (by kernel_rfl) (by exact fun _ _ _ h => h) (by rfl) (fun w' hS => by go_simp) hHeld ?_
      simp only [Act.put, List.setIfInBounds_toArray, List.set_cons_succ, List.set_cons_zero]
      refine wpAnyS_takeD 5 (some 51) (.bool B1) (by rfl) (by rfl) (by kernel_rfl) (by exact fun _ _ _ h => h) (by rfl) (fun w' hS => by go_simp) hHeld ?_
      simp only [Act.put, List.setIfInBounds_toArray, List.set_cons_succ, List.set_cons_zero]
      refine wpAnyS_takeD 6 (some 52) (.bool B2) (by rfl) (by rfl) (by kernel_rfl) (by exact fun _ _ _ h => h) (by rfl) (fun w' hS => by go_simp) hHeld ?_
      simp only [Act.put, List.setIfInBounds_toArray, List.set_cons_succ, List.set_cons_zero]
      refine wpAnyS_takeD 7 (some 11) (.bool B1) (by rfl) (by rfl) (by kernel_rfl) (by exact fun _ _ _ h => h) (by rfl) (fun w' hS => by go_simp) hHeld ?_
      simp only [Act.put, List.setIfInBounds_toArray, List.set_cons_succ, List.set_cons_zero]
      clear hHeld HH
      refine (show tailOf _ _ _ _ _ _ _ _ from ⟨by kernel_rfl, ?_⟩)
      simp only [List.drop_succ_cons, List.drop_zero]
      have hb7 := below_trans hba hb5
      obtain ⟨A0, k0, hq, _⟩ := (HTy.out.below hb7).ex
      have q0 : w5.cell? ⟨q, 0, none⟩ = some (.slice A0 l.length k0) := heap_cell hq
      have f0 : w5.frozen? ⟨q, 0, none⟩ = false := heap_free hq
      have HQ := Lib.hid hq; clear hq
      cases B1
      all_goals
        go_wp2_with fail
        refine bodyPost_ret (v := .tuple #[.bool (addB l s), .int .i64 0]) (by simp [results, Try.results14, go_sem, HA.out.1]) rfl ⟨by rw [HA0.out], ?_, (touch_below (below_trans hwy hb7) [q]).trans (touch_set rfl (by simp))⟩
        rw [HA.out.2, HL.out]
        refine ⟨⟨An, cn, ?_, ?_⟩, HE.out⟩
        · have r1 := heap_setCell_same w5 q 0 _ _ (.slice An L.length cn) HQ.out
          simpa using r1
        · refine (HNy.out.below hb7).touch1 (touch_set (S := [q]) rfl (by simp)) fun x hx => ?_
          rw [List.mem_singleton] at hx
          subst hx
          exact ⟨_, _, HQ.out⟩
end Go.Proofs.Ytcpobcfncmcakaa
