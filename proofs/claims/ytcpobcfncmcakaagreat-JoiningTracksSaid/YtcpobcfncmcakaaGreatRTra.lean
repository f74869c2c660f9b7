/- The reference of chapter 17: its tracker. Condition: the tracker in its memory. -/
import Derived.Test.YtcpobcfncmcakaaGreatRefY
import Derived.Test.YtcpobcfncmcakaaGreatTraA
namespace Go.Proofs.YtcpobcfncmcakaaGreat
open Go.RowKit Go.Shelf Go.Maps

/-- The reference's tracker in its memory. -/
structure RAt (w : World) (p : Nat) (l : List Spec) : Prop where
  ex : ∃ A c, w.heap[p]? = some (.cells #[.slice A l.length c] 83 (0, 0)) ∧ Specs w (.slice A l.length c) l
  ok : ofE l = 0
section
variable {w w' : World} {p : Nat} {l : List Spec}
theorem RAt.below (h : RAt w p l) (hb : Below w.heap.size w w') : RAt w' p l := by
  obtain ⟨A, c, h1, h2⟩ := h.ex
  exact ⟨⟨A, c, heap_below h1 hb (heap_lt h1), h2.below hb⟩, h.ok⟩
theorem RAt.one (h : RAt w p l) : ∃ x t, w.heap[p]? = some (.cells #[x] t (0, 0)) := by
  obtain ⟨A, c, h1, _⟩ := h.ex
  exact ⟨_, _, h1⟩
theorem RAt.lt (h : RAt w p l) : p < w.heap.size := by
  obtain ⟨A, c, h1, _⟩ := h.ex
  exact heap_lt h1
theorem RAt.touch {q : Nat} (h : RAt w p l) (ht : Touch w w' [q]) (hq : ∃ x t, w.heap[q]? = some (.cells #[x] t (0, 0))) (hne : p ≠ q) : RAt w' p l := by
  obtain ⟨A, c, h1, h2⟩ := h.ex
  exact ⟨⟨A, c, (ht.block p (heap_lt h1) (by simpa using hne)).trans h1, h2.touch1 ht (by simpa using hq)⟩, h.ok⟩
theorem RAt.len (h : RAt w p l) : l.length ≤ 64 := (checkE_zero (ofE_zero h.ok).1).1
end
set_option maxHeartbeats 1000000 in
theorem NewTracker17_ok (w : World) : Calls Tryz.prog 21 #[] w fun e w' => ∃ p, e = .returned (.pointer (some ⟨p, 0, none⟩)) ∧ RAt w' p [] ∧ w.heap.size ≤ p ∧ Below w.heap.size w w' := by
  obtain ⟨W, hW, Hz, hb, hlt, _⟩ := boxed w #[.slice none 0 0] 83
  have hk : W.heap[w.heap.size]? = some (.cells #[.slice none 0 0] 83 (0, 0)) := by rw [← hW]; exact heap_alloc_new _ _
  have HT := Lib.hid (⟨⟨none, 0, hk, (own_nil _ _ 0 0 _).slOf⟩, ofE_nil⟩ : RAt W w.heap.size [])
  clear hk
  go_enter Tryz.func21, Tryz.ntmps21
  go_wp2_with fail
  go_ret
  exact ⟨_, rfl, HT.out, Nat.le_refl _, hb⟩
set_option maxHeartbeats 1000000 in
theorem Undo170_ok (q : Nat) (w : World) (h : RAt w q []) : Calls Tryz.prog 23 #[.pointer (some ⟨q, 0, none⟩)] w fun e w' => e = .returned (.int .i64 7) ∧ Below w.heap.size w w' := by
  obtain ⟨A, c, hq, hS⟩ := h.ex
  have q0 : w.cell? ⟨q, 0, none⟩ = some (.slice A 0 c) := heap_cell hq
  clear hq hS
  go_enter Tryz.func23, Tryz.ntmps23
  go_wp2_with fail
  go_ret
  exact ⟨rfl, Below.refl _ _⟩
set_option maxHeartbeats 1000000 in
theorem Undo17_ok (q : Nat) (l : List Spec) (s : Spec) (w : World) (h : RAt w q (l ++ [s])) : Calls Tryz.prog 23 #[.pointer (some ⟨q, 0, none⟩)] w fun e w' => e = .returned (.int .i64 0) ∧ RAt w' q l ∧ Touch w w' [q] := by
  have hE := Lib.hid h.ok
  have hll := h.len
  obtain ⟨A, c, hq, hS⟩ := h.ex
  have q0' : w.cell? ⟨q, 0, none⟩ = some (.slice A (l ++ [s]).length c) := heap_cell hq
  obtain ⟨n, hn⟩ : ∃ n, l.length = n := ⟨_, rfl⟩
  have e1 : (l ++ [s]).length = n + 1 := by simp [hn]
  rw [e1] at q0' hll
  have q0 := Later.cell_all q0'
  have hcn : n + 1 ≤ c := by obtain ⟨_, _, e9, h9, _⟩ := id hS; cases e9; omega
  have hcm : (c : Int) ≤ 9223372036854775807 := by obtain ⟨_, _, e9, _, h9, _⟩ := hS.cells; cases e9; exact h9
  have n1 : ((n : Int) + 1) ≤ 64 := by omega
  have n0 : (0 : Int) ≤ (n : Int) := by omega
  have HS := Lib.hid hS; have HQ := Lib.hid hq
  clear hS hq h
  go_enter Tryz.func23, Tryz.ntmps23
  go_wp2_with fail
  refine wp_region_later_tail 14 (by kernel_rfl) (by kernel_rfl) ?_
  simp only [List.take_succ_cons, List.take_zero, List.drop_succ_cons, List.drop_zero]
  repeat (go_big_quiet_step (first | fail))
  refine wpQuiet_nil ?_
  intro _ hw'
  obtain ⟨xq, hw''⟩ := hw'
  subst hw''
  have hba := xq.h
  generalize xq.to = wa at hba ⊢
  have hqa := heap_below HQ.out hba (heap_lt HQ.out)
  have q1 : wa.cell? ⟨q, 0, none⟩ = some (.slice A (l ++ [s]).length c) := heap_cell hqa
  have f1 : wa.frozen? ⟨q, 0, none⟩ = false := heap_free hqa
  have HQA := Lib.hid hqa
  clear hqa q0 q0'
  go_wp2_with fail
  go_ret
  have hset : Touch wa (wa.setCell ⟨q, 0, none⟩ (.slice A n c)) [q] := touch_set rfl (by simp)
  have hone : ∀ x ∈ [q], ∃ y t, wa.heap[x]? = some (.cells #[y] t (0, 0)) := fun x hx => by
    rw [List.mem_singleton] at hx
    subst hx
    exact ⟨_, _, HQA.out⟩
  refine ⟨rfl, ⟨⟨A, c, ?_, ?_⟩, ?_⟩, (touch_below hba [q]).trans hset⟩
  · have r1 := heap_setCell_same wa q 0 _ _ (.slice A n c) HQA.out
    rw [hn]
    simpa using r1
  · have := ((HS.out.below hba).touch1 hset hone).cut (m := n) lenS (by simp; omega)
    rw [List.take_left' hn] at this
    rw [hn]
    exact this
  · have := of_take hE.out n
    rwa [List.take_left' hn] at this
set_option maxHeartbeats 4000000 in
set_option maxRecDepth 100000 in
theorem Components17_ok (q : Nat) (l : List Spec) (w : World) (h : RAt w q l) : Calls Tryz.prog 27 #[.pointer (some ⟨q, 0, none⟩)] w fun e w' => e = .returned (.int .i64 (growL l).count) ∧ Below w.heap.size w w' := by
  have hll := h.len
  have Hnc := Lib.hid (num_count h.ok)
  have Hv := Lib.hid (of_valid h.ok)
  obtain ⟨A, c, hq, hS⟩ := h.ex
  have q0 : w.cell? ⟨q, 0, none⟩ = some (.slice A l.length c) := heap_cell hq
  have hl0 : (0 : Int) ≤ (l.length : Int) := by omega
  have hl1 : (l.length : Int) ≤ 64 := by omega
  clear hq
  go_enter Tryz.func27, Tryz.ntmps27
  go_wp2_with fail
  have hba : Below w.heap.size w w.drew := (Below.refl _ _).drew
  obtain ⟨wa, hwa⟩ : ∃ W, w.drew = W := ⟨_, rfl⟩
  rw [hwa] at hba
  have hHeld : (fun w' : World => w'.cell? ⟨q, 0, none⟩ = some (.slice A l.length c)) wa := cell_later hba q0
  have HH := Lib.hid hHeld
  refine wp_region_S 10 (fun w' => w'.cell? ⟨q, 0, none⟩ = some (.slice A l.length c)) (by kernel_rfl) (by decide) ?_
  rw [hwa]
  clear hwa q0
  refine wpAnyS_takeD 0 (some 5) (.pointer (some ⟨q, 0, none⟩)) (by rfl) (by rfl) (by kernel_rfl) (by exact fun _ _ _ h => h) (by rfl) (fun w' hS => by go_simp) hHeld ?_
  simp only [Act.put, List.setIfInBounds_toArray]
  refine wpAnyS_takeD 1 (some 6) (.pointer (some ⟨q, 0, none⟩)) (by rfl) (by rfl) (by kernel_rfl) (by exact fun _ _ _ h => h) (by rfl) (fun w' hS => by go_simp) hHeld ?_
  simp only [Act.put, List.setIfInBounds_toArray]
  refine wpAnyS_takeD 2 (some 7) (.pointer (some ⟨q, 0, none⟩)) (by rfl) (by rfl) (by kernel_rfl) (by exact fun _ _ _ h => h) (by rfl) (fun w' hS => by go_simp) hHeld ?_
  simp only [Act.put, List.setIfInBounds_toArray]
  refine wpAnyS_takeD 3 (some 8) (.slice A l.length c) (by rfl) (by rfl) (by kernel_rfl) (by exact fun _ _ _ h => h) (by rfl) (fun w' hS => by (have x0 : w'.cell? ⟨q, 0, none⟩ = some (.slice A l.length c) := hS; go_simp)) hHeld ?_
  simp only [Act.put, List.setIfInBounds_toArray]
  refine wpAnyS_takeD 4 (some 9) (.pointer (some ⟨q, 0, none⟩)) (by rfl) (by rfl) (by kernel_rfl) (by exact fun _ _ _ h => h) (by rfl) (fun w' hS => by go_simp) hHeld ?_
  simp only [Act.put, List.setIfInBounds_toArray]
  refine wpAnyS_takeD 5 (some 10) (.pointer (some ⟨q, 0, none⟩)) (by rfl) (by rfl) (by kernel_rfl) (by exact fun _ _ _ h => h) (by rfl) (fun w' hS => by go_simp) hHeld ?_
  simp only [Act.put, List.setIfInBounds_toArray]
  refine wpAnyS_takeD 6 (some 11) (.pointer (some ⟨q, 0, none⟩)) (by rfl) (by rfl) (by kernel_rfl) (by exact fun _ _ _ h => h) (by rfl) (fun w' hS => by go_simp) hHeld ?_
  simp only [Act.put, List.setIfInBounds_toArray]
  refine wpAnyS_takeD 7 (some 12) (.slice A l.length c) (by rfl) (by rfl) (by kernel_rfl) (by exact fun _ _ _ h => h) (by rfl) (fun w' hS => by (have x0 : w'.cell? ⟨q, 0, none⟩ = some (.slice A l.length c) := hS; go_simp)) hHeld ?_
  simp only [Act.put, List.setIfInBounds_toArray]
  refine wpAnyS_takeD 8 (some 13) (.int .i64 (l.length : Int)) (by rfl) (by rfl) (by kernel_rfl) (by exact fun _ _ _ h => h) (by rfl) (fun w' hS => by go_simp) hHeld ?_
  simp only [Act.put, List.setIfInBounds_toArray]
  clear hHeld
  refine wpAnyS_one 9 (by kernel_rfl) (by rfl) (by decide) (fun K hK => ?_)
  have HK := Lib.hid hK; clear hK
  rw [if_pos (by rfl)]
  go_simp
  have h17 := after17_ok _ l l.length wa (hS.below hba) (Nat.le_refl _) (by omega)
  rw [List.take_length] at h17
  refine h17.mono ?_
  rintro e w1 ⟨u, rfl, hg, hb1⟩
  refine HK.out _ _ (cell_later hb1 HH.out) ?_
  clear HK HH h17
  refine (show tailOf _ _ _ _ _ _ _ _ from ⟨by kernel_rfl, ?_⟩)
  simp only [List.drop_succ_cons, List.drop_zero]
  go_wp2_with fail
  refine (Number14_ok _ (ofG l) Hv.out _ hg).mono ?_
  rintro e w2 ⟨rfl, hb2⟩
  rw [Hnc.out]
  have hw2 := below_trans hba (below_trans hb1 hb2)
  go_wp2_with fail
  go_ret
  exact ⟨rfl, hw2⟩
set_option maxHeartbeats 4000000 in
set_option maxRecDepth 100000 in
theorem Joined17_ok (q : Nat) (l : List Spec) (da db : Die) (w : World) (h : RAt w q l) : Calls Tryz.prog 29 #[.pointer (some ⟨q, 0, none⟩), vlD da, vlD db] w fun e w' => e = .returned (.bool (joinB (edgesS l) da db)) ∧ Below w.heap.size w w' := by
  obtain ⟨X0, hX0, HzX0, hbX0, hltX0, hcX0⟩ := boxed w #[.int .i64 da.side, .int .i64 da.num] 24
  obtain ⟨X1, hX1, HzX1, hbX1, hltX1, hcX1⟩ := boxed X0 #[.int .i64 db.side, .int .i64 db.num] 24
  have hX := below_trans hbX0 hbX1
  have a0 := cell_later hbX1 (hcX0 0 _ rfl); have a1 := cell_later hbX1 (hcX0 1 _ rfl)
  have b0 := hcX1 0 _ rfl; have b1 := hcX1 1 _ rfl
  clear hcX0 hcX1
  have hll := h.len
  have hj := join_of h.ok da db
  have Hv := Lib.hid (of_valid h.ok)
  obtain ⟨A, c, hq, hS⟩ := (h.below hX).ex
  have q0 : X1.cell? ⟨q, 0, none⟩ = some (.slice A l.length c) := heap_cell hq
  have hl0 : (0 : Int) ≤ (l.length : Int) := by omega
  have hl1 : (l.length : Int) ≤ 64 := by omega
  clear hq h
  generalize joinB (edgesS l) da db = J at hj ⊢
  have Hj := Lib.hid hj; clear hj
  go_enter Tryz.func29, Tryz.ntmps29
  go_wp2_with fail
  have hba : Below X1.heap.size X1 X1.drew := (Below.refl _ _).drew
  obtain ⟨wa, hwa⟩ : ∃ W, X1.drew = W := ⟨_, rfl⟩
  rw [hwa] at hba
  have hHeld : (fun w' : World => w'.cell? ⟨q, 0, none⟩ = some (.slice A l.length c) ∧ w'.cell? ⟨w.heap.size, 0, none⟩ = some (.int .i64 da.side) ∧ w'.cell? ⟨w.heap.size, 1, none⟩ = some (.int .i64 da.num) ∧ w'.cell? ⟨X0.heap.size, 0, none⟩ = some (.int .i64 db.side) ∧ w'.cell? ⟨X0.heap.size, 1, none⟩ = some (.int .i64 db.num)) wa := ⟨cell_later hba q0, cell_later hba a0, cell_later hba a1, cell_later hba b0, cell_later hba b1⟩
  have HH := Lib.hid hHeld
  refine wp_region_S 15 (fun w' => w'.cell? ⟨q, 0, none⟩ = some (.slice A l.length c) ∧ w'.cell? ⟨w.heap.size, 0, none⟩ = some (.int .i64 da.side) ∧ w'.cell? ⟨w.heap.size, 1, none⟩ = some (.int .i64 da.num) ∧ w'.cell? ⟨X0.heap.size, 0, none⟩ = some (.int .i64 db.side) ∧ w'.cell? ⟨X0.heap.size, 1, none⟩ = some (.int .i64 db.num)) (by kernel_rfl) (by decide) ?_
  rw [hwa]
  clear hwa q0 hX0 hX1 a0 a1 b0 b1
  refine wpAnyS_takeD 0 (some 7) (.pointer (some ⟨q, 0, none⟩)) (by rfl) (by rfl) (by kernel_rfl) (by exact fun _ _ _ h => h) (by rfl) (fun w' hS => by go_simp) hHeld ?_
  simp only [Act.put, List.setIfInBounds_toArray]
  refine wpAnyS_takeD 1 (some 8) (.bool true) (by rfl) (by rfl) (by kernel_rfl) (by exact fun _ _ _ h => h) (by rfl) (fun w' hS => by go_simp) hHeld ?_
  simp only [Act.put, List.setIfInBounds_toArray]
  refine wpAnyS_takeD 2 (some 9) (.bool true) (by rfl) (by rfl) (by kernel_rfl) (by exact fun _ _ _ h => h) (by rfl) (fun w' hS => by go_simp) hHeld ?_
  simp only [Act.put, List.setIfInBounds_toArray]
  refine wpAnyS_takeG 3 (some 10) (.pointer (some ⟨q, 0, none⟩)) (by rfl) (by rfl) (by kernel_rfl) (by exact fun _ _ _ h => h) (by rfl) (fun w' hS => by go_simp) hHeld ?_
  simp only [Act.put, List.setIfInBounds_toArray]
  refine wpAnyS_takeG 4 (some 11) (.pointer (some ⟨q, 0, none⟩)) (by rfl) (by rfl) (by kernel_rfl) (by exact fun _ _ _ h => h) (by rfl) (fun w' hS => by go_simp) hHeld ?_
  simp only [Act.put, List.setIfInBounds_toArray]
  refine wpAnyS_takeG 5 (some 12) (.pointer (some ⟨q, 0, none⟩)) (by rfl) (by rfl) (by kernel_rfl) (by exact fun _ _ _ h => h) (by rfl) (fun w' hS => by go_simp) hHeld ?_
  simp only [Act.put, List.setIfInBounds_toArray]
  refine wpAnyS_takeG 6 (some 13) (.slice A l.length c) (by rfl) (by rfl) (by kernel_rfl) (by exact fun _ _ _ h => h) (by rfl) (fun w' hS => by (obtain ⟨x0, _⟩ := hS; go_simp)) hHeld ?_
  simp only [Act.put, List.setIfInBounds_toArray]
  refine wpAnyS_takeG 7 (some 14) (.pointer (some ⟨q, 0, none⟩)) (by rfl) (by rfl) (by kernel_rfl) (by exact fun _ _ _ h => h) (by rfl) (fun w' hS => by go_simp) hHeld ?_
  simp only [Act.put, List.setIfInBounds_toArray]
  refine wpAnyS_takeG 8 (some 15) (.pointer (some ⟨q, 0, none⟩)) (by rfl) (by rfl) (by kernel_rfl) (by exact fun _ _ _ h => h) (by rfl) (fun w' hS => by go_simp) hHeld ?_
  simp only [Act.put, List.setIfInBounds_toArray]
  refine wpAnyS_takeG 9 (some 16) (.pointer (some ⟨q, 0, none⟩)) (by rfl) (by rfl) (by kernel_rfl) (by exact fun _ _ _ h => h) (by rfl) (fun w' hS => by go_simp) hHeld ?_
  simp only [Act.put, List.setIfInBounds_toArray]
  refine wpAnyS_takeG 10 (some 17) (.slice A l.length c) (by rfl) (by rfl) (by kernel_rfl) (by exact fun _ _ _ h => h) (by rfl) (fun w' hS => by (obtain ⟨x0, _⟩ := hS; go_simp)) hHeld ?_
  simp only [Act.put, List.setIfInBounds_toArray]
  refine wpAnyS_takeG 11 (some 18) (.int .i64 (l.length : Int)) (by rfl) (by rfl) (by kernel_rfl) (by exact fun _ _ _ h => h) (by rfl) (fun w' hS => by go_simp) hHeld ?_
  simp only [Act.put, List.setIfInBounds_toArray]
  refine wpAnyS_takeG 13 (some 20) (vlD da) (by rfl) (by rfl) (by kernel_rfl) (by exact fun _ _ _ h => h) (by rfl) (fun w' hS => by (obtain ⟨_, x0, x1, x2, x3⟩ := hS; go_simp)) hHeld ?_
  simp only [Act.put, List.setIfInBounds_toArray]
  refine wpAnyS_takeG 14 (some 21) (vlD db) (by rfl) (by rfl) (by kernel_rfl) (by exact fun _ _ _ h => h) (by rfl) (fun w' hS => by (obtain ⟨_, x0, x1, x2, x3⟩ := hS; go_simp)) hHeld ?_
  simp only [Act.put, List.setIfInBounds_toArray]
  clear hHeld
  refine wpAnyS_one 12 (by kernel_rfl) (by rfl) (by decide) (fun K hK => ?_)
  have HK := Lib.hid hK; clear hK
  rw [if_pos (by rfl)]
  go_simp
  have h17 := after17_ok _ l l.length wa (hS.below hba) (Nat.le_refl _) (by omega)
  rw [List.take_length] at h17
  refine h17.mono ?_
  rintro e w1 ⟨u, rfl, hg, hb1⟩
  refine HK.out _ _ ⟨cell_later hb1 HH.out.1, cell_later hb1 HH.out.2.1, cell_later hb1 HH.out.2.2.1, cell_later hb1 HH.out.2.2.2.1, cell_later hb1 HH.out.2.2.2.2⟩ ?_
  clear HK HH h17
  refine (show tailOf _ _ _ _ _ _ _ _ from ⟨by kernel_rfl, ?_⟩)
  simp only [List.drop_succ_cons, List.drop_zero]
  have HJ := Joined14_ok _ (ofG l) Hv.out da db w1 hg
  rw [Hj.out] at HJ
  have HJ' := Lib.hid HJ
  have hw1 := below_trans hX (below_trans hba hb1)
  clear HJ hg hS
  go_wp2_with fail
  refine HJ'.out.mono ?_
  rintro e w2 ⟨rfl, hb2⟩
  have hw2 := below_trans hw1 hb2
  go_wp2_with fail
  go_ret
  exact ⟨rfl, hw2⟩
theorem add_six {l : List Spec} {s : Spec} (h : ofE l = 0) (hv : specB s = true) (hn : s.id ∉ l.map Spec.id) (hE : ofE (l ++ [s]) ≠ 0) : ofE (l ++ [s]) = 6 := by
  obtain ⟨h1, h2, h3⟩ := checkE_zero (ofE_zero h).1
  by_cases hc : checkE (l ++ [s]) = 0
  · rw [ofE, if_pos hc] at hE ⊢
    split at hE
    · rename_i hf; rw [if_pos hf]
    · exact absurd rfl hE
  · rw [ofE, if_neg hc]
    by_cases hl : 64 < (l ++ [s]).length
    · exact checkE_full hl
    · refine absurd (checkE_ok hl ?_ ?_) hc
      · rw [List.all_append, h2]; simp [hv]
      · rw [List.map_append, List.nodup_append]
        refine ⟨h3, by simp, fun a ha b hb e => ?_⟩
        simp at hb
        subst hb; subst e
        exact hn ha
theorem pick_last (l : List Spec) (s : Spec) : (pickJ (apartG s (growL ((l ++ [s]).take l.length))) (thereG s (growL ((l ++ [s]).take l.length)))) = (apartG s (growL l) && thereG s (growL l)) := by
  rw [List.take_left' rfl]; rfl
set_option maxHeartbeats 8000000 in
set_option maxRecDepth 100000 in
theorem Add17_ok (q : Nat) (l : List Spec) (s : Spec) (w : World) (h : RAt w q l) : Calls Tryz.prog 25 #[.pointer (some ⟨q, 0, none⟩), valS s] w fun e w' => e = .returned (.tuple #[.bool (addB l s), .int .i64 (addE l s)]) ∧ RAt w' q (addL l s) ∧ Touch w w' [q] := by
  obtain ⟨W, hW, Hz, hbW, hltW, hc0⟩ := boxed w #[.int .i64 s.id, .int .i64 s.obv, .int .i64 s.rev, .int .i64 s.os, .int .i64 s.rs, .int .i64 s.ax, .int .i64 s.wt] 43
  have a0 := hc0 0 _ rfl; have a1 := hc0 1 _ rfl; have a2 := hc0 2 _ rfl; have a3 := hc0 3 _ rfl; have a4 := hc0 4 _ rfl; have a5 := hc0 5 _ rfl; have a6 := hc0 6 _ rfl
  have hT := h.below hbW
  have hll := h.len
  clear hc0
  go_enter Tryz.func25, Tryz.ntmps25
  go_wp2_with fail
  refine (Specimen_ok s _).mono ?_
  rintro e w1 ⟨rfl, hb1⟩
  have a0 := cell_later hb1 a0; have a1 := cell_later hb1 a1; have a2 := cell_later hb1 a2; have a3 := cell_later hb1 a3; have a4 := cell_later hb1 a4; have a5 := cell_later hb1 a5; have a6 := cell_later hb1 a6
  have hT := hT.below hb1
  have hw1 := below_trans hbW hb1
  clear hW
  cases hv : specB s
  · have HE := Lib.hid (addE_1 (l := l) hv)
    clear a0 a1 a2 a3 a4 a5 a6 hv
    go_wp2_with fail
    have hA := add_no (l := l) (s := s) (by rw [HE.out]; decide)
    exact bodyPost_ret (v := .tuple #[.bool false, .int .i64 1]) (by simp [results, Tryz.results25, go_sem]) rfl ⟨by rw [hA.1, HE.out], by rw [hA.2]; exact hT, touch_below hw1 _⟩
  have Hv := Lib.hid hv; clear hv
  go_wp2_with fail
  go_cut [6] (fun s6 w2 => OwnS w1.heap.size w2 s6 (l ++ [s]) ∧ Below w1.heap.size w1 w2)
  case first =>
    have hba : Below w1.heap.size w1 w1.drew := (Below.refl _ _).drew
    obtain ⟨wa, hwa⟩ : ∃ W, w1.drew = W := ⟨_, rfl⟩
    rw [hwa] at hba
    obtain ⟨A, c, hq, hS⟩ := (hT.below hba).ex
    have q0 : wa.cell? ⟨q, 0, none⟩ = some (.slice A l.length c) := heap_cell hq
    have hHeld : (fun w' : World => w'.cell? ⟨q, 0, none⟩ = some (.slice A l.length c) ∧ w'.cell? ⟨w.heap.size, 0, none⟩ = some (.int .i64 s.id) ∧ w'.cell? ⟨w.heap.size, 1, none⟩ = some (.int .i64 s.obv) ∧ w'.cell? ⟨w.heap.size, 2, none⟩ = some (.int .i64 s.rev) ∧ w'.cell? ⟨w.heap.size, 3, none⟩ = some (.int .i64 s.os) ∧ w'.cell? ⟨w.heap.size, 4, none⟩ = some (.int .i64 s.rs) ∧ w'.cell? ⟨w.heap.size, 5, none⟩ = some (.int .i64 s.ax) ∧ w'.cell? ⟨w.heap.size, 6, none⟩ = some (.int .i64 s.wt)) wa := ⟨q0, cell_later hba a0, cell_later hba a1, cell_later hba a2, cell_later hba a3, cell_later hba a4, cell_later hba a5, cell_later hba a6⟩
    have HH := Lib.hid (fun (w' : World) (hb : Below wa.heap.size wa w') => (show (fun w' : World => w'.cell? ⟨q, 0, none⟩ = some (.slice A l.length c) ∧ w'.cell? ⟨w.heap.size, 0, none⟩ = some (.int .i64 s.id) ∧ w'.cell? ⟨w.heap.size, 1, none⟩ = some (.int .i64 s.obv) ∧ w'.cell? ⟨w.heap.size, 2, none⟩ = some (.int .i64 s.rev) ∧ w'.cell? ⟨w.heap.size, 3, none⟩ = some (.int .i64 s.os) ∧ w'.cell? ⟨w.heap.size, 4, none⟩ = some (.int .i64 s.rs) ∧ w'.cell? ⟨w.heap.size, 5, none⟩ = some (.int .i64 s.ax) ∧ w'.cell? ⟨w.heap.size, 6, none⟩ = some (.int .i64 s.wt)) w' from ⟨cell_later hb hHeld.1, cell_later hb hHeld.2.1, cell_later hb hHeld.2.2.1, cell_later hb hHeld.2.2.2.1, cell_later hb hHeld.2.2.2.2.1, cell_later hb hHeld.2.2.2.2.2.1, cell_later hb hHeld.2.2.2.2.2.2.1, cell_later hb hHeld.2.2.2.2.2.2.2⟩))
    obtain ⟨iS, hiS, hzS, hkS, hbS⟩ := info_parts infoS
    refine wp_region_S 9 (fun w' => w'.cell? ⟨q, 0, none⟩ = some (.slice A l.length c) ∧ w'.cell? ⟨w.heap.size, 0, none⟩ = some (.int .i64 s.id) ∧ w'.cell? ⟨w.heap.size, 1, none⟩ = some (.int .i64 s.obv) ∧ w'.cell? ⟨w.heap.size, 2, none⟩ = some (.int .i64 s.rev) ∧ w'.cell? ⟨w.heap.size, 3, none⟩ = some (.int .i64 s.os) ∧ w'.cell? ⟨w.heap.size, 4, none⟩ = some (.int .i64 s.rs) ∧ w'.cell? ⟨w.heap.size, 5, none⟩ = some (.int .i64 s.ax) ∧ w'.cell? ⟨w.heap.size, 6, none⟩ = some (.int .i64 s.wt)) (by kernel_rfl) (by decide) ?_
    rw [hwa]
    clear hwa q0 hq hT a0 a1 a2 a3 a4 a5 a6
    refine wpAnyS_takeD 1 (some 18) (.pointer (some ⟨q, 0, none⟩)) (by rfl) (by rfl) (by kernel_rfl) (by exact fun _ _ _ h => h) (by rfl) (fun w' hS => by go_simp) hHeld ?_
    simp only [Act.put, List.setIfInBounds_toArray]
    refine wpAnyS_takeD 2 (some 19) (.pointer (some ⟨q, 0, none⟩)) (by rfl) (by rfl) (by kernel_rfl) (by exact fun _ _ _ h => h) (by rfl) (fun w' hS => by go_simp) hHeld ?_
    simp only [Act.put, List.setIfInBounds_toArray]
    refine wpAnyS_takeD 3 (some 20) (.pointer (some ⟨q, 0, none⟩)) (by rfl) (by rfl) (by kernel_rfl) (by exact fun _ _ _ h => h) (by rfl) (fun w' hS => by go_simp) hHeld ?_
    simp only [Act.put, List.setIfInBounds_toArray]
    refine wpAnyS_takeD 4 (some 21) (.slice A l.length c) (by rfl) (by rfl) (by kernel_rfl) (by exact fun _ _ _ h => h) (by rfl) (fun w' hS => by (obtain ⟨x0, x1⟩ := hS; go_simp)) hHeld ?_
    simp only [Act.put, List.setIfInBounds_toArray]
    refine wpAnyS_takeD 6 (some 23) (valS s) (by rfl) (by rfl) (by kernel_rfl) (by exact fun _ _ _ h => h) (by rfl) (fun w' hS => by (obtain ⟨x0, x1, x2, x3, x4, x5, x6, x7⟩ := hS; go_simp)) hHeld ?_
    simp only [Act.put, List.setIfInBounds_toArray]
    clear hHeld
    refine wpAnyS_two 0 7 (by kernel_rfl) (by rfl) (by rfl) (by decide) (by decide) (fun K hK => ?_) (fun K hK => ?_)
    · have HK := Lib.hid hK; clear hK
      obtain ⟨V0, hV0, HzV0, hbV0, hltV0, _⟩ := boxed wa #[] 43
      have hk0 : V0.heap[wa.heap.size]? = some (.cells #[] 43 (0, 0)) := by rw [← hV0]; exact heap_alloc_new _ _
      have hown0 : OwnS wa.heap.size V0 (.slice (some ⟨wa.heap.size, 0, none⟩) 0 0) [] := own_empty hk0 (Nat.le_refl _)
      rw [if_pos (by rfl)]
      go_simp
      refine HK.out _ _ (HH.out _ hbV0) ?_
      clear HK
      refine wpAnyS_two 5 7 (by kernel_rfl) (by rfl) (by rfl) (by decide) (by decide) (fun K hK => ?_) (fun K hK => ?_)
      · have HK := Lib.hid hK; clear hK
        have hsl := SlOf.sl (hS.below hbV0)
        refine step_append_sl (by rfl) (.tmp 17) (.tmp 21) _ (by rfl) iS _ 56 Tryz.underlying22 hiS hzS hkS hbS (by rfl) (by decide) oneS (by rfl) hown0 A c l.length l (by rfl) (by rfl) hsl (by simp; omega) (by simp; omega) (hbV0).size ?_
        intro v5 w5 ho5 hg5 _
        have hb5 := (hbV0).grown hg5 (hbV0).size (fun j e => ((hown0).lt j e).1)
        rw [List.nil_append] at ho5
        refine HK.out _ _ (HH.out _ hb5) ?_
        clear HK
        obtain ⟨V, hV, HzV, hbV, hltV, _⟩ := boxed w5 #[.int .i64 s.id, .int .i64 s.obv, .int .i64 s.rev, .int .i64 s.os, .int .i64 s.rs, .int .i64 s.ax, .int .i64 s.wt] 43
        have hkV : V.heap[w5.heap.size]? = some (.cells (encS s).toArray 43 (0, 0)) := by rw [← hV]; exact heap_alloc_new _ _
        have hxV := ho5.below hbV
        have hb6 := below_trans hb5 hbV
        refine wpAnyS_one 7 (by kernel_rfl) (by rfl) (by decide) (fun K hK => ?_)
        have HK := Lib.hid hK; clear hK
        rw [if_pos (by rfl)]
        go_simp
        refine HK.out _ _ (HH.out _ hb6) ?_
        clear HK
        refine wpAnyS_one 8 (by kernel_rfl) (by rfl) (by decide) (fun K hK => ?_)
        have HK := Lib.hid hK; clear hK
        refine step_append_sl (by rfl) (.tmp 22) (.tmp 24) _ (by rfl) iS _ 56 Tryz.underlying22 hiS hzS hkS hbS (by rfl) (by decide) oneS (by rfl) hxV _ 1 1 [s] (by rfl) (by rfl) (sl_one (by rfl) hkV) (by simp; omega) (by simp; omega) (hb6).size ?_
        intro v8 w8 ho8 hg8 _
        have hb8 := (hb6).grown hg8 (hb6).size (fun j e => ((hxV).lt j e).1)
        refine HK.out _ _ (HH.out _ hb8) ?_
        clear HK
        refine (show tailOf _ _ _ _ _ _ _ _ from ⟨by kernel_rfl, ?_⟩)
        simp only [List.drop_succ_cons, List.drop_zero]
        go_wp2_with fail
        go_meet
        exact ⟨ho8.base hba.size, hba.trans (hb8.mono hba.size)⟩
      · have HK := Lib.hid hK; clear hK
        obtain ⟨V, hV, HzV, hbV, hltV, _⟩ := boxed V0 #[.int .i64 s.id, .int .i64 s.obv, .int .i64 s.rev, .int .i64 s.os, .int .i64 s.rs, .int .i64 s.ax, .int .i64 s.wt] 43
        have hkV : V.heap[V0.heap.size]? = some (.cells (encS s).toArray 43 (0, 0)) := by rw [← hV]; exact heap_alloc_new _ _
        have hxV := hown0.below hbV
        have hb6 := below_trans hbV0 hbV
        rw [if_pos (by rfl)]
        go_simp
        refine HK.out _ _ (HH.out _ hb6) ?_
        clear HK
        refine wpAnyS_one 5 (by kernel_rfl) (by rfl) (by decide) (fun K hK => ?_)
        have HK := Lib.hid hK; clear hK
        have hsl := SlOf.sl (hS.below hb6)
        refine step_append_sl (by rfl) (.tmp 17) (.tmp 21) _ (by rfl) iS _ 56 Tryz.underlying22 hiS hzS hkS hbS (by rfl) (by decide) oneS (by rfl) hxV A c l.length l (by rfl) (by rfl) hsl (by simp; omega) (by simp; omega) (hb6).size ?_
        intro v5 w5 ho5 hg5 _
        have hb5 := (hb6).grown hg5 (hb6).size (fun j e => ((hxV).lt j e).1)
        rw [List.nil_append] at ho5
        refine HK.out _ _ (HH.out _ hb5) ?_
        clear HK
        have hkV5 := (hg5.block V0.heap.size (by omega) (fun e => by simp [Value.ownBlock] at e; omega)).trans hkV
        refine wpAnyS_one 8 (by kernel_rfl) (by rfl) (by decide) (fun K hK => ?_)
        have HK := Lib.hid hK; clear hK
        refine step_append_sl (by rfl) (.tmp 22) (.tmp 24) _ (by rfl) iS _ 56 Tryz.underlying22 hiS hzS hkS hbS (by rfl) (by decide) oneS (by rfl) ho5 _ 1 1 [s] (by rfl) (by rfl) (sl_one (by rfl) hkV5) (by simp; omega) (by simp; omega) (hb5).size ?_
        intro v8 w8 ho8 hg8 _
        have hb8 := (hb5).grown hg8 (hb5).size (fun j e => ((ho5).lt j e).1)
        refine HK.out _ _ (HH.out _ hb8) ?_
        clear HK
        refine (show tailOf _ _ _ _ _ _ _ _ from ⟨by kernel_rfl, ?_⟩)
        simp only [List.drop_succ_cons, List.drop_zero]
        go_wp2_with fail
        go_meet
        exact ⟨ho8.base hba.size, hba.trans (hb8.mono hba.size)⟩
    · have HK := Lib.hid hK; clear hK
      obtain ⟨V, hV, HzV, hbV, hltV, _⟩ := boxed wa #[.int .i64 s.id, .int .i64 s.obv, .int .i64 s.rev, .int .i64 s.os, .int .i64 s.rs, .int .i64 s.ax, .int .i64 s.wt] 43
      have hkV : V.heap[wa.heap.size]? = some (.cells (encS s).toArray 43 (0, 0)) := by rw [← hV]; exact heap_alloc_new _ _
      rw [if_pos (by rfl)]
      go_simp
      refine HK.out _ _ (HH.out _ hbV) ?_
      clear HK
      obtain ⟨V0, hV0, HzV0, hbV0, hltV0, _⟩ := boxed V #[] 43
      have hk0 : V0.heap[V.heap.size]? = some (.cells #[] 43 (0, 0)) := by rw [← hV0]; exact heap_alloc_new _ _
      have hown0 : OwnS wa.heap.size V0 (.slice (some ⟨V.heap.size, 0, none⟩) 0 0) [] := own_empty hk0 (by omega)
      have hk1 := heap_below hkV hbV0 (heap_lt hkV)
      have hb6 := below_trans hbV hbV0
      refine wpAnyS_one 0 (by kernel_rfl) (by rfl) (by decide) (fun K hK => ?_)
      have HK := Lib.hid hK; clear hK
      rw [if_pos (by rfl)]
      go_simp
      refine HK.out _ _ (HH.out _ hb6) ?_
      clear HK
      refine wpAnyS_one 5 (by kernel_rfl) (by rfl) (by decide) (fun K hK => ?_)
      have HK := Lib.hid hK; clear hK
      have hsl := SlOf.sl (hS.below hb6)
      refine step_append_sl (by rfl) (.tmp 17) (.tmp 21) _ (by rfl) iS _ 56 Tryz.underlying22 hiS hzS hkS hbS (by rfl) (by decide) oneS (by rfl) hown0 A c l.length l (by rfl) (by rfl) hsl (by simp; omega) (by simp; omega) (hb6).size ?_
      intro v5 w5 ho5 hg5 _
      have hb5 := (hb6).grown hg5 (hb6).size (fun j e => ((hown0).lt j e).1)
      rw [List.nil_append] at ho5
      refine HK.out _ _ (HH.out _ hb5) ?_
      clear HK
      have hkV5 := (hg5.block wa.heap.size (by omega) (fun e => by simp [Value.ownBlock] at e; omega)).trans hk1
      refine wpAnyS_one 8 (by kernel_rfl) (by rfl) (by decide) (fun K hK => ?_)
      have HK := Lib.hid hK; clear hK
      refine step_append_sl (by rfl) (.tmp 22) (.tmp 24) _ (by rfl) iS _ 56 Tryz.underlying22 hiS hzS hkS hbS (by rfl) (by decide) oneS (by rfl) ho5 _ 1 1 [s] (by rfl) (by rfl) (sl_one (by rfl) hkV5) (by simp; omega) (by simp; omega) (hb5).size ?_
      intro v8 w8 ho8 hg8 _
      have hb8 := (hb5).grown hg8 (hb5).size (fun j e => ((ho5).lt j e).1)
      refine HK.out _ _ (HH.out _ hb8) ?_
      clear HK
      refine (show tailOf _ _ _ _ _ _ _ _ from ⟨by kernel_rfl, ?_⟩)
      simp only [List.drop_succ_cons, List.drop_zero]
      go_wp2_with fail
      go_meet
      exact ⟨ho8.base hba.size, hba.trans (hb8.mono hba.size)⟩
  case rest =>
    obtain ⟨hown, hbo⟩ := hcut
    have hwc := below_trans hw1 hbo
    have hTc := hT.below hbo
    obtain ⟨n, hn⟩ : ∃ n, l.length = n := ⟨_, rfl⟩
    have Hn := Lib.hid hn
    obtain ⟨L, hL⟩ : ∃ z, l ++ [s] = z := ⟨_, rfl⟩
    have hLn : L.length = n + 1 := by rw [← hL, List.length_append, hn]; rfl
    have hnx : Specs wc u6 L := by rw [← hL]; exact hown.slOf
    have HL := Lib.hid hL
    have HLn := Lib.hid hLn
    clear hown hL hT
    obtain ⟨An, cn, rfl, _⟩ := id hnx
    rw [hLn] at hnx ⊢
    have n1 : ((n : Int) + 1) ≤ 65 := by omega
    have n0 : (0 : Int) ≤ (n : Int) := by omega
    have hac : ∀ w', Below wc.heap.size wc w' → w'.cell? ⟨w.heap.size, 0, none⟩ = some (.int .i64 s.id) := fun w' hb => cell_later hb (cell_later hbo a0)
    have HAc := Lib.hid hac
    have HA := Lib.hid (fun (w' : World) (hb : Below wc.heap.size wc w') => (show (fun w' : World => w'.cell? ⟨w.heap.size, 0, none⟩ = some (.int .i64 s.id) ∧ w'.cell? ⟨w.heap.size, 1, none⟩ = some (.int .i64 s.obv) ∧ w'.cell? ⟨w.heap.size, 2, none⟩ = some (.int .i64 s.rev) ∧ w'.cell? ⟨w.heap.size, 3, none⟩ = some (.int .i64 s.os) ∧ w'.cell? ⟨w.heap.size, 4, none⟩ = some (.int .i64 s.rs) ∧ w'.cell? ⟨w.heap.size, 5, none⟩ = some (.int .i64 s.ax) ∧ w'.cell? ⟨w.heap.size, 6, none⟩ = some (.int .i64 s.wt)) w' from ⟨cell_later hb (cell_later hbo a0), cell_later hb (cell_later hbo a1), cell_later hb (cell_later hbo a2), cell_later hb (cell_later hbo a3), cell_later hb (cell_later hbo a4), cell_later hb (cell_later hbo a5), cell_later hb (cell_later hbo a6)⟩))
    clear hac hLn hn a0 a1 a2 a3 a4 a5 a6
    go_wp2_with fail
    go_loopw [7] (fun i wr => ∃ k : Nat, k ≤ n ∧ i = .int .i64 k ∧ Below wc.heap.size wc wr ∧ Hid (∀ y ∈ l.take k, y.id ≠ s.id)) (fun i _ => n - (intOf i).toNat)
    case atStart => exact ⟨0, Nat.zero_le _, rfl, Below.refl _ _, Lib.hid (fun y hy => by simp at hy)⟩
    case round =>
      obtain ⟨k, hk, rfl, hb, HN⟩ := hrel
      have HTr := Lib.hid (hTc.below hb)
      obtain ⟨A, c, hq, hS⟩ := HTr.out.ex
      have q0 : wr.cell? ⟨q, 0, none⟩ = some (.slice A l.length c) := heap_cell hq
      rw [Hn.out] at q0
      have a0 := HAc.out wr hb
      have hwr := below_trans hwc hb
      have Hq := Lib.hid hq
      obtain ⟨_, _, e9, _, _, hc⟩ := hS.cells
      cases e9
      clear hTc hq
      by_cases hlt : k < n
      · obtain ⟨bo, o, rfl, _, hcb⟩ := hc k (by rw [Hn.out]; exact hlt)
        obtain ⟨x, hx⟩ := get_of_lt (show k < l.length by rw [Hn.out]; exact hlt)
        have y0 := (hcb wr (Below.refl _ _) k x hx).1
        have Hx := Lib.hid hx
        have hk1 : (k : Int) < (n : Int) := by omega
        have hk0 : (0 : Int) ≤ (k : Int) := by omega
        clear hx hc hcb hS
        cases hid : (x.id == s.id)
        · have Hne := Lib.hid (show x.id ≠ s.id by simpa using hid)
          have Q0 := Later.cell_all q0; have Y0 := Later.cell_all y0; have A0 := Later.cell_all a0
          go_wp2_with fail
          refine wp_region_later (by kernel_rfl) (by kernel_rfl) ?_
          repeat (go_big_quiet_step (first | fail))
          refine wpQuiet_nil ?_
          intro _ hw'
          obtain ⟨xq, hw''⟩ := hw'
          subst hw''
          have hb2 := xq.h
          generalize xq.to = w2 at hb2 ⊢
          clear Q0 Y0 A0 q0 y0 a0
          go_wp2_with fail
          refine ⟨?rel, ?measure⟩
          case rel => exact ⟨k + 1, by omega, by go_num, below_trans hb hb2, Lib.hid (mem_snoc (P := fun y => y.id ≠ s.id) Hx.out HN.out Hne.out)⟩
          case measure => first | (simp [intOf]; done) | (simp [intOf]; omega)
        · have HE := Lib.hid (addE_8 (l := l) Hv.out (by rw [← show x.id = s.id by simpa using hid]; exact List.mem_map_of_mem (f := Spec.id) (List.mem_of_getElem? Hx.out)))
          have Q0 := Later.cell_all q0; have Y0 := Later.cell_all y0; have A0 := Later.cell_all a0
          go_wp2_with fail
          refine wp_region_later (by kernel_rfl) (by kernel_rfl) ?_
          repeat (go_big_quiet_step (first | fail))
          refine wpQuiet_nil ?_
          intro _ hw'
          obtain ⟨xq, hw''⟩ := hw'
          subst hw''
          have hb2 := xq.h
          generalize xq.to = w2 at hb2 ⊢
          have hT2 := HTr.out.below hb2
          have hw2 := below_trans hwr hb2
          clear Q0 Y0 A0 q0 y0 a0 hid
          go_wp2_with fail
          have hA := add_no (l := l) (s := s) (by rw [HE.out]; decide)
          exact bodyPost_ret (v := .tuple #[.bool false, .int .i64 8]) (by simp [results, Tryz.results25, go_sem]) rfl ⟨by rw [hA.1, HE.out], by rw [hA.2]; exact hT2, touch_below hw2 _⟩
      · have ek : k = n := by omega
        subst ek
        have Hno := Lib.hid (show s.id ∉ l.map Spec.id from fun hm => by
          obtain ⟨y, hy, e⟩ := List.mem_map.1 hm
          exact HN.out y (by rw [List.take_of_length_le (by rw [Hn.out]; exact Nat.le_refl _)]; exact hy) e)
        have hnr := hnx.below hb
        clear hc hS a0 hnx
        go_wp2_with fail
        have hof := Of_ok13 _ L wr hnr (by rw [HLn.out]; omega)
        refine hof.mono ?_
        rintro e w3 ⟨ug, rfl, ⟨v1, v2, v3, rfl, ⟨A1, c1, rfl, _⟩, ⟨A2, c2, rfl, _⟩, ⟨A3, c3, rfl, _⟩⟩, hb3⟩
        obtain ⟨W1, W2, hW1, hW2, HzW2, hkW1, hkW2, hbW2, hltW2⟩ := fresh w3 [.slice none 0 0, .slice none 0 0, .slice none 0 0] [.slice A1 (ofG (L)).obv.length c1, .slice A2 (ofG (L)).rev.length c2, .slice A3 (ofG (L)).links.length c3] 55 rfl
        have hsW2 : ((W1.setCell ⟨w3.heap.size, 0, none⟩ (.slice A1 (ofG (L)).obv.length c1)).setCell ⟨w3.heap.size, 1, none⟩ (.slice A2 (ofG (L)).rev.length c2)).setCell ⟨w3.heap.size, 2, none⟩ (.slice A3 (ofG (L)).links.length c3) = W2 := hW2
        clear hW2
        obtain ⟨⟨z0, z1, z2⟩, f0, f1, f2⟩ := cells3 hkW1
        clear hkW1 hkW2
        have hbx := below_trans hb3 hbW2
        have hw2 := below_trans hwr hbx
        have hT2 := HTr.out.below hbx
        clear hof
        by_cases hE : ofE L = 0
        case neg =>
          have hd : (ofE L != 0) = true := by simpa using hE
          have H6 := add_six HTr.out.ok Hv.out Hno.out (by rw [HL.out]; exact hE)
          rw [HL.out] at H6
          have H6' := Lib.hid H6
          have HE := Lib.hid (addE_6 Hv.out Hno.out (by rw [HL.out]; exact hE))
          rw [H6]
          clear hE q0 hd H6
          go_wp2_with fail
          have hA := add_no (l := l) (s := s) (by rw [HE.out]; decide)
          exact bodyPost_ret (v := .tuple #[.bool false, .int .i64 6]) (by simp [results, Tryz.results25, go_sem]) rfl ⟨by rw [hA.1, HE.out], by rw [hA.2]; exact hT2, touch_below hw2 _⟩
        have hd : (ofE L != 0) = false := by simp [hE]
        have HE := Lib.hid hE
        have HAy := Lib.hid (add_yes (addE_0 Hv.out Hno.out (by rw [HL.out]; exact hE)))
        have HA0 := Lib.hid (addE_0 Hv.out Hno.out (by rw [HL.out]; exact hE))
        have hq2 := heap_below Hq.out hbx (heap_lt Hq.out)
        have q0 := heap_cell (i := 0) hq2
        have f0 := heap_free (i := 0) hq2
        have HQ2 := Lib.hid hq2
        have Hnr := Lib.hid (hnr.below hbx)
        clear hE hq2 hnr
        go_wp2_with fail
        have hset : Touch W2 (W2.setCell ⟨q, 0, none⟩ (.slice An (k + 1) cn)) [q] := touch_set rfl (by simp)
        have hq3 : (W2.setCell ⟨q, 0, none⟩ (.slice An (k + 1) cn)).heap[q]? = some (.cells #[.slice An (k + 1) cn] 83 (0, 0)) := by
          have r1 := heap_setCell_same W2 q 0 _ _ (.slice An (k + 1) cn) HQ2.out
          simpa using r1
        obtain ⟨W3, hW3⟩ : ∃ z, W2.setCell ⟨q, 0, none⟩ (.slice An (k + 1) cn) = z := ⟨_, rfl⟩
        rw [hW3] at hset hq3 ⊢
        have hn3 : Specs W3 (.slice An (k + 1) cn) L := Hnr.out.touch1 hset (fun x hx => by
          rw [List.mem_singleton] at hx
          subst hx
          exact ⟨_, _, HQ2.out⟩)
        have hR3 : RAt W3 q L := ⟨⟨An, cn, by rw [HLn.out]; exact hq3, by rw [HLn.out]; exact hn3⟩, HE.out⟩
        have hj := Joins17_ok _ L k s W3 hn3 HE.out (by rw [← HL.out, ← Hn.out]; simp)
        have hp := pick_last l s
        rw [HL.out, Hn.out, ← HAy.out.1] at hp
        rw [hp] at hj
        have hTW := (touch_below hw2 [q]).trans hset
        have Hj := Lib.hid hj
        clear hj hp hq3 hn3 hset hW3 q0 f0 hT2
        refine Hj.out.mono ?_
        rintro e w4 ⟨rfl, hb4⟩
        have hR4 := hR3.below hb4
        have hT4 := hTW.trans (touch_below hb4 [q])
        clear Hj hR3 hTW
        go_wp2_with fail
        refine bodyPost_ret (v := .tuple #[.bool (addB l s), .int .i64 0]) (by simp [results, Tryz.results25, go_sem]) rfl ⟨by rw [HA0.out], ?_, hT4⟩
        rw [HAy.out.2, HL.out]
        exact hR4
end Go.Proofs.YtcpobcfncmcakaaGreat
