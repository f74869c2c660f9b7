/- For every graph and every die, LinkageMutual returns true, and the arguments read as they did. No condition. -/
import Derived.Test.YtifgpmhkdnmhlaaRows
import Derived.Test.YtifgpmhkdnmhlaaAwake
import Derived.Test.YtifgpmhkdnmhlaaOpen
import Derived.Test.YtifgpmhkdnmhlaaReadA
import Derived.Test.YtifgpmhkdnmhlaaPartA
import Derived.Test.YtifgpmhkdnmhlaaTail
namespace Go.Proofs.Ytifgpmhkdnmhlaa
open Go.RowKit Go.Shelf Go.ChangeShapes Go.WideShapes Go.ChangeAt

theorem part_zero {g : Graph} {d : Die} (h : partE g d = 0) : graphB g = true ∧ degI g d ≠ 0 := by
  unfold partE at h
  split at h
  · refine ⟨‹_›, fun h0 => ?_⟩
    rw [if_pos h0] at h; cases h
  · cases h
theorem part_none {g : Graph} {d : Die} (h : partE g d ≠ 0) : partG g d = [] ∧ degI g d = 0 := by
  by_cases hg : graphB g = true
  · by_cases hd : degI g d = 0
    · exact ⟨by simp [partG, hg, deg_zero hd hg, withs], hd⟩
    · exact absurd (by simp [partE, hg, hd]) h
  · exact ⟨by simp [partG, hg], by simp [degI, hg]⟩
theorem partL_len {g : Graph} {d : Die} (hg : graphB g = true) : ((partL g d).length : Int) = degI g d := by
  simp [partL, degI, hg, List.countP_eq_length_filter]
theorem part_len {g : Graph} {d : Die} (h : partE g d = 0) : 0 < (partG g d).length ∧ ((partG g d).length : Int) ≤ degI g d := by
  obtain ⟨hg, hd⟩ := part_zero h
  have hl := partL_len (d := d) hg
  have hG : partG g d = withs (partL g d) := by simp [partG, hg]
  rw [hG]
  have := withs_len (partL g d)
  refine ⟨?_, by omega⟩
  cases hp : partL g d with
  | nil => rw [hp] at hl; simp at hl; exact absurd hl.symm hd
  | cons y ys => exact List.length_pos_of_mem ((withs_mem (y :: ys) y).2 (List.mem_cons_self ..))
theorem part_back {g : Graph} {s n y : Int} (h : partE g ⟨s, n⟩ = 0) (hy : y ∈ partG g ⟨s, n⟩) : partE g ⟨1 - s, y⟩ = 0 ∧ hasB (partG g ⟨1 - s, y⟩) n = true := by
  obtain ⟨hg, hd⟩ := part_zero h
  have hs := deg_side hd
  have hG : ∀ d, partG g d = withs (partL g d) := fun d => by simp [partG, hg]
  rw [hG, withs_mem] at hy
  obtain ⟨x, hx, rfl⟩ := List.mem_map.1 hy
  obtain ⟨hm, ht⟩ := List.mem_filter.1 hx
  rw [touch_end hs] at ht
  have hs' : (1 - s) = 0 ∨ (1 - s) = 1 := by simp only at hs; omega
  have ht' : touchB x ⟨1 - s, endI x (1 - s)⟩ = true := by rw [touch_end (d := ⟨1 - s, endI x (1 - s)⟩) hs']; simp
  have hin : x ∈ g.links.filter (fun z => touchB z ⟨1 - s, endI x (1 - s)⟩) := List.mem_filter.2 ⟨hm, ht'⟩
  have hd' : degI g ⟨1 - s, endI x (1 - s)⟩ ≠ 0 := by
    have hc := partL_len (d := ⟨1 - s, endI x (1 - s)⟩) hg
    have hl : 0 < (partL g ⟨1 - s, endI x (1 - s)⟩).length := by rw [partL, List.length_map]; exact List.length_pos_of_mem hin
    omega
  refine ⟨by simp [partE, hg, hd'], ?_⟩
  rw [hasB_iff, hG, withs_mem]
  refine List.mem_map.2 ⟨x, List.mem_filter.2 ⟨hm, ht'⟩, ?_⟩
  simp only at ht ⊢
  have : 1 - (1 - s) = s := by omega
  rw [this]
  simpa using ht

set_option maxHeartbeats 4000000 in
set_option maxRecDepth 100000 in
theorem mutual_walk (v : Value) (g : Graph) (s n : Int) (w : World) (h : GraphAt w v g) :
    Calls Try.prog 6 #[v, .agg #[.int .i64 s, .int .i64 n]] w fun e w' => e = .returned (.bool true) ∧ Below w.heap.size w w' := by
  have h0 := h
  obtain ⟨v1, v2, v3, rfl, ho, hr, hl⟩ := h
  obtain ⟨A1, c1, rfl, _, _, _⟩ := ho.cells
  obtain ⟨A2, c2, rfl, _, _, _⟩ := hr.cells
  obtain ⟨A3, c3, rfl, _, _, _⟩ := hl.cells
  obtain ⟨W0, hW0, Hz0, hwW0, hlt0, hc0⟩ := boxed w #[.slice A1 g.obv.length c1, .slice A2 g.rev.length c2, .slice A3 g.links.length c3] 27
  obtain ⟨W, hW, Hz, hWW, hlt, hc1⟩ := boxed W0 #[.int .i64 s, .int .i64 n] 39
  have hwW := below_trans hwW0 hWW
  have a0 := cell_later hWW (hc0 0 _ rfl); have a1 := cell_later hWW (hc0 1 _ rfl); have a2 := cell_later hWW (hc0 2 _ rfl)
  have b0 := hc1 0 _ rfl; have b1 := hc1 1 _ rfl
  clear hc0 hc1 ho hr hl
  rw [Hz0.out] at b0 b1
  have hW' : (w.alloc (.cells #[.slice A1 g.obv.length c1, .slice A2 g.rev.length c2, .slice A3 g.links.length c3] 27)).alloc (.cells #[.int .i64 s, .int .i64 n] 39) = W := by rw [hW0, hW]
  clear hW0 hW
  go_enter Try.func6, Try.ntmps6
  go_wp2_with fail
  refine (awake_ok _).mono ?_
  rintro e w1 ⟨rfl, hb1⟩
  clear hW'
  have a0' := cell_later hb1 a0; have a1' := cell_later hb1 a1; have a2' := cell_later hb1 a2; have b0' := cell_later hb1 b0; have b1' := cell_later hb1 b1
  have hw1 := below_trans hwW hb1
  clear a0 a1 a2 b0 b1
  have hF := few_ok _ _ w1 (h0.below hw1)
  cases hf : fewB g
  · rw [hf] at hF
    have HF := Lib.hid hF; clear hF hf
    go_wp2_with fail
    refine HF.out.mono ?_
    rintro e w2 ⟨rfl, hb2⟩
    go_wp2_with fail
    refine (awake_ok _).mono ?_
    rintro e w3 ⟨rfl, hb3⟩
    go_wp2_with fail
    go_ret
    exact ⟨rfl, below_trans hw1 (below_trans hb2 hb3)⟩
  rw [hf] at hF
  have HF := Lib.hid hF; have Hf := Lib.hid hf; clear hF hf
  go_wp2_with fail
  refine HF.out.mono ?_
  rintro e w2 ⟨rfl, hb2⟩
  have a0 := cell_later hb2 a0'; have a1 := cell_later hb2 a1'; have a2 := cell_later hb2 a2'; have b0 := cell_later hb2 b0'; have b1 := cell_later hb2 b1'
  have hw2 := below_trans hw1 hb2
  clear a0' a1' a2' b0' b1'
  go_wp2_with fail
  refine (Partners_ok _ _ s n _ (h0.below hw2)).mono ?_
  rintro e w3 ⟨u, rfl, hu, hb3⟩
  have a0' := cell_later hb3 a0; have a1' := cell_later hb3 a1; have a2' := cell_later hb3 a2; have b0' := cell_later hb3 b0; have b1' := cell_later hb3 b1
  have hw3 := below_trans hw2 hb3
  clear a0 a1 a2 b0 b1
  by_cases hp : partE g ⟨s, n⟩ = 0
  case neg =>
    obtain ⟨q1, q2⟩ := part_none hp
    have ht : (partE g ⟨s, n⟩ != 0) = true := by simp [hp]
    rw [q1] at hu
    obtain ⟨A, c, rfl, _, _, _⟩ := hu.cells
    have hD := Degree_ok _ _ ⟨s, n⟩ _ (h0.below hw3)
    rw [q2] at hD
    have HD := Lib.hid hD; clear hD hp q1 q2
    go_wp2_with fail
    refine HD.out.mono ?_
    rintro e w4 ⟨rfl, hb4⟩
    go_wp2_with fail
    go_ret
    exact ⟨rfl, below_trans hw3 hb4⟩
  have hside := deg_side (part_zero hp).2
  have hback := fun y (hy : y ∈ partG g ⟨s, n⟩) => part_back hp hy
  obtain ⟨hpl, hpd⟩ := part_len hp
  rw [hp]
  clear hp
  generalize partG g ⟨s, n⟩ = L at hu hback hpl hpd
  obtain ⟨A, c, rfl, l1, l2, hcu⟩ := hu.cells
  have Hback := Lib.hid hback; clear hback hu
  have hd2 : decide ((L.length : Int) ≤ degI g ⟨s, n⟩) = true := by simpa using hpd
  clear hpd
  rcases hside with hs | hs
  · simp only at hs
    subst hs
    go_wp2_with fail
    go_loopw [7] (fun i wr => ∃ k : Nat, k ≤ L.length ∧ i = .int .i64 k ∧ Below w3.heap.size w3 wr) (fun i _ => L.length - (intOf i).toNat)
    case atStart => exact ⟨0, Nat.zero_le _, rfl, Below.refl _ _⟩
    case round =>
      obtain ⟨k, hk, rfl, hb⟩ := hrel
      have hwr := hw3.trans (hb.mono hw3.size)
      by_cases hlt' : k < L.length
      · obtain ⟨b, o, rfl, _, hc⟩ := hcu k hlt'
        obtain ⟨x, hx⟩ := get_of_lt hlt'
        have c0 := Later.cell_all (hc wr hb k x hx)
        obtain ⟨e1, e2⟩ := Hback.out x (List.mem_of_getElem? hx)
        have n0 := Later.cell_all (cell_later hb a0'); have n1 := Later.cell_all (cell_later hb a1'); have n2 := Later.cell_all (cell_later hb a2'); have n3 := Later.cell_all (cell_later hb b0'); have n4 := Later.cell_all (cell_later hb b1')
        have hP : ∀ y : Later wr, Calls Try.prog 26 #[.agg #[.slice A1 g.obv.length c1, .slice A2 g.rev.length c2, .slice A3 g.links.length c3], .agg #[.int .i64 1, .int .i64 x]] y.to fun e w' => ∃ u, e = .returned (.tuple #[u, .int .i64 (partE g ⟨1, x⟩)]) ∧ Ints w' u (partG g ⟨1, x⟩) ∧ Below y.to.heap.size y.to w' := fun y => Partners_ok _ _ 1 x _ (h0.below (below_trans hwr y.h))
        have e1' : partE g ⟨1, x⟩ = 0 := e1
        have e2' : hasB (partG g ⟨1, x⟩) n = true := e2
        rw [e1'] at hP
        have HP := Lib.hid hP; have E2 := Lib.hid e2'
        clear hx hc e1 e2 e1' e2' hP
        have dl : decide ((k : Int) < (L.length : Int)) = true := by simp; omega
        have hl1 : (k : Int) < (L.length : Int) := by omega
        have hl0 : (0 : Int) ≤ (k : Int) := by omega
        go_wp2_with fail
        have hHeld : ∃ y : Later wr, wr.drew = y.to := ⟨⟨wr.drew, (Below.refl _ _).drew⟩, rfl⟩
        refine wp_region_S 14 (fun w' => ∃ y : Later wr, w' = y.to) (by kernel_rfl) (by decide) ?_
        have hbb := hb; clear hb hwr
        refine wpAnyS_take 0 (.agg #[.slice A1 g.obv.length c1, .slice A2 g.rev.length c2, .slice A3 g.links.length c3]) (by rfl) (by kernel_rfl) (by exact fun _ _ _ h => h) (by rfl) (fun w' hS => by (obtain ⟨y, rfl⟩ := hS; go_simp)) hHeld ?_
        simp only [Act.put]
        refine wpAnyS_take 1 (.pointer (some ⟨w.heap.size + 1, 0, none⟩)) (by rfl) (by kernel_rfl) (by exact fun _ _ _ h => h) (by rfl) (fun w' hS => by (obtain ⟨y, rfl⟩ := hS; go_simp)) hHeld ?_
        simp only [Act.put]
        refine wpAnyS_take 2 (.int .i64 0) (by rfl) (by kernel_rfl) (by exact fun _ _ _ h => h) (by rfl) (fun w' hS => by (obtain ⟨y, rfl⟩ := hS; go_simp)) hHeld ?_
        simp only [Act.put]
        refine wpAnyS_take 3 (.int .i64 1) (by rfl) (by kernel_rfl) (by exact fun _ _ _ h => h) (by rfl) (fun w' hS => by (obtain ⟨y, rfl⟩ := hS; go_simp; rfl)) hHeld ?_
        simp only [Act.put]
        refine wpAnyS_take 4 (.slice (some ⟨b, o, none⟩) L.length c) (by rfl) (by kernel_rfl) (by exact fun _ _ _ h => h) (by rfl) (fun w' hS => by (obtain ⟨y, rfl⟩ := hS; go_simp)) hHeld ?_
        simp only [Act.put]
        refine wpAnyS_take 5 (.int .i64 k) (by rfl) (by kernel_rfl) (by exact fun _ _ _ h => h) (by rfl) (fun w' hS => by (obtain ⟨y, rfl⟩ := hS; go_simp)) hHeld ?_
        simp only [Act.put]
        refine wpAnyS_take 6 (.pointer (some ⟨b, o + k, none⟩)) (by rfl) (by kernel_rfl) (by exact fun _ _ _ h => h) (by rfl) (fun w' hS => by (obtain ⟨y, rfl⟩ := hS; go_simp)) hHeld ?_
        simp only [Act.put]
        refine wpAnyS_take 7 (.int .i64 x) (by rfl) (by kernel_rfl) (by exact fun _ _ _ h => h) (by rfl) (fun w' hS => by (obtain ⟨y, rfl⟩ := hS; go_simp)) hHeld ?_
        simp only [Act.put]
        refine wpAnyS_take 8 (.agg #[.int .i64 1, .int .i64 x]) (by rfl) (by kernel_rfl) (by exact fun _ _ _ h => h) (by rfl) (fun w' hS => by (obtain ⟨y, rfl⟩ := hS; go_simp)) hHeld ?_
        simp only [Act.put]
        refine wpAnyS_one 9 (by kernel_rfl) (by rfl) (by decide) (fun K hK => ?_)
        have HK := Lib.hid hK; clear hK
        rw [if_pos (by rfl)]
        obtain ⟨y, hy⟩ := hHeld
        rw [hy]
        go_simp
        refine (HP.out y).mono ?_
        rintro e w4 ⟨u, rfl, hu, hb4⟩
        have hHeld : ∃ y : Later wr, w4 = y.to := later (below_trans y.h hb4)
        have hu' := hu
        obtain ⟨A', c', rfl, _, _, _⟩ := hu'.cells
        refine HK.out _ _ hHeld ?_
        clear HK hy
        refine wpAnyS_take 10 (.tuple #[.slice A' (partG g ⟨1, x⟩).length c', .int .i64 0]) (by rfl) (by kernel_rfl) (by exact fun _ _ _ h => h) (by rfl) (fun w' hS => by go_simp) hHeld ?_
        simp only [Act.put]
        refine wpAnyS_take 11 (.slice A' (partG g ⟨1, x⟩).length c') (by rfl) (by kernel_rfl) (by exact fun _ _ _ h => h) (by rfl) (fun w' hS => by go_simp) hHeld ?_
        simp only [Act.put]
        refine wpAnyS_take 12 (.int .i64 0) (by rfl) (by kernel_rfl) (by exact fun _ _ _ h => h) (by rfl) (fun w' hS => by go_simp) hHeld ?_
        simp only [Act.put]
        refine wpAnyS_take 13 (.slice A' (partG g ⟨1, x⟩).length c') (by rfl) (by kernel_rfl) (by exact fun _ _ _ h => h) (by rfl) (fun w' hS => by go_simp) hHeld ?_
        simp only [Act.put]
        refine (show tailOf _ _ _ _ _ _ _ _ from ⟨by kernel_rfl, ?_⟩)
        simp only [List.drop_succ_cons, List.drop_zero]
        obtain ⟨z, rfl⟩ := hHeld
        have hH := Has_ok _ _ n _ hu
        rw [E2.out] at hH
        have HH := Lib.hid hH; clear hH hu
        go_wp2_with fail
        refine HH.out.mono ?_
        rintro e w5 ⟨rfl, rfl⟩
        go_wp2_with fail
        refine ⟨?rel, ?measure⟩
        case rel => exact ⟨k + 1, by omega, by go_num, hbb.trans (z.h.mono hbb.size)⟩
        case measure => simp [intOf]; omega
      · have dl : decide ((k : Int) < (L.length : Int)) = false := by simp; omega
        have hD := Degree_ok _ _ ⟨0, n⟩ _ (h0.below hwr)
        have HD := Lib.hid hD; clear hD
        have p0 := cell_later hb a0'; have p1 := cell_later hb a1'; have p2 := cell_later hb a2'; have p3 := cell_later hb b0'; have p4 := cell_later hb b1'
        go_wp2_with fail
        refine HD.out.mono ?_
        rintro e w4 ⟨rfl, hb4⟩
        go_wp2_with fail
        go_ret
        exact ⟨rfl, below_trans hwr hb4⟩
  · simp only at hs
    subst hs
    go_wp2_with fail
    go_loopw [7] (fun i wr => ∃ k : Nat, k ≤ L.length ∧ i = .int .i64 k ∧ Below w3.heap.size w3 wr) (fun i _ => L.length - (intOf i).toNat)
    case atStart => exact ⟨0, Nat.zero_le _, rfl, Below.refl _ _⟩
    case round =>
      obtain ⟨k, hk, rfl, hb⟩ := hrel
      have hwr := hw3.trans (hb.mono hw3.size)
      by_cases hlt' : k < L.length
      · obtain ⟨b, o, rfl, _, hc⟩ := hcu k hlt'
        obtain ⟨x, hx⟩ := get_of_lt hlt'
        have c0 := Later.cell_all (hc wr hb k x hx)
        obtain ⟨e1, e2⟩ := Hback.out x (List.mem_of_getElem? hx)
        have n0 := Later.cell_all (cell_later hb a0'); have n1 := Later.cell_all (cell_later hb a1'); have n2 := Later.cell_all (cell_later hb a2'); have n3 := Later.cell_all (cell_later hb b0'); have n4 := Later.cell_all (cell_later hb b1')
        have hP : ∀ y : Later wr, Calls Try.prog 26 #[.agg #[.slice A1 g.obv.length c1, .slice A2 g.rev.length c2, .slice A3 g.links.length c3], .agg #[.int .i64 0, .int .i64 x]] y.to fun e w' => ∃ u, e = .returned (.tuple #[u, .int .i64 (partE g ⟨0, x⟩)]) ∧ Ints w' u (partG g ⟨0, x⟩) ∧ Below y.to.heap.size y.to w' := fun y => Partners_ok _ _ 0 x _ (h0.below (below_trans hwr y.h))
        have e1' : partE g ⟨0, x⟩ = 0 := e1
        have e2' : hasB (partG g ⟨0, x⟩) n = true := e2
        rw [e1'] at hP
        have HP := Lib.hid hP; have E2 := Lib.hid e2'
        clear hx hc e1 e2 e1' e2' hP
        have dl : decide ((k : Int) < (L.length : Int)) = true := by simp; omega
        have hl1 : (k : Int) < (L.length : Int) := by omega
        have hl0 : (0 : Int) ≤ (k : Int) := by omega
        go_wp2_with fail
        have hHeld : ∃ y : Later wr, wr.drew = y.to := ⟨⟨wr.drew, (Below.refl _ _).drew⟩, rfl⟩
        refine wp_region_S 14 (fun w' => ∃ y : Later wr, w' = y.to) (by kernel_rfl) (by decide) ?_
        have hbb := hb; clear hb hwr
        refine wpAnyS_take 0 (.agg #[.slice A1 g.obv.length c1, .slice A2 g.rev.length c2, .slice A3 g.links.length c3]) (by rfl) (by kernel_rfl) (by exact fun _ _ _ h => h) (by rfl) (fun w' hS => by (obtain ⟨y, rfl⟩ := hS; go_simp)) hHeld ?_
        simp only [Act.put]
        refine wpAnyS_take 1 (.pointer (some ⟨w.heap.size + 1, 0, none⟩)) (by rfl) (by kernel_rfl) (by exact fun _ _ _ h => h) (by rfl) (fun w' hS => by (obtain ⟨y, rfl⟩ := hS; go_simp)) hHeld ?_
        simp only [Act.put]
        refine wpAnyS_take 2 (.int .i64 1) (by rfl) (by kernel_rfl) (by exact fun _ _ _ h => h) (by rfl) (fun w' hS => by (obtain ⟨y, rfl⟩ := hS; go_simp)) hHeld ?_
        simp only [Act.put]
        refine wpAnyS_take 3 (.int .i64 0) (by rfl) (by kernel_rfl) (by exact fun _ _ _ h => h) (by rfl) (fun w' hS => by (obtain ⟨y, rfl⟩ := hS; go_simp; rfl)) hHeld ?_
        simp only [Act.put]
        refine wpAnyS_take 4 (.slice (some ⟨b, o, none⟩) L.length c) (by rfl) (by kernel_rfl) (by exact fun _ _ _ h => h) (by rfl) (fun w' hS => by (obtain ⟨y, rfl⟩ := hS; go_simp)) hHeld ?_
        simp only [Act.put]
        refine wpAnyS_take 5 (.int .i64 k) (by rfl) (by kernel_rfl) (by exact fun _ _ _ h => h) (by rfl) (fun w' hS => by (obtain ⟨y, rfl⟩ := hS; go_simp)) hHeld ?_
        simp only [Act.put]
        refine wpAnyS_take 6 (.pointer (some ⟨b, o + k, none⟩)) (by rfl) (by kernel_rfl) (by exact fun _ _ _ h => h) (by rfl) (fun w' hS => by (obtain ⟨y, rfl⟩ := hS; go_simp)) hHeld ?_
        simp only [Act.put]
        refine wpAnyS_take 7 (.int .i64 x) (by rfl) (by kernel_rfl) (by exact fun _ _ _ h => h) (by rfl) (fun w' hS => by (obtain ⟨y, rfl⟩ := hS; go_simp)) hHeld ?_
        simp only [Act.put]
        refine wpAnyS_take 8 (.agg #[.int .i64 0, .int .i64 x]) (by rfl) (by kernel_rfl) (by exact fun _ _ _ h => h) (by rfl) (fun w' hS => by (obtain ⟨y, rfl⟩ := hS; go_simp)) hHeld ?_
        simp only [Act.put]
        refine wpAnyS_one 9 (by kernel_rfl) (by rfl) (by decide) (fun K hK => ?_)
        have HK := Lib.hid hK; clear hK
        rw [if_pos (by rfl)]
        obtain ⟨y, hy⟩ := hHeld
        rw [hy]
        go_simp
        refine (HP.out y).mono ?_
        rintro e w4 ⟨u, rfl, hu, hb4⟩
        have hHeld : ∃ y : Later wr, w4 = y.to := later (below_trans y.h hb4)
        have hu' := hu
        obtain ⟨A', c', rfl, _, _, _⟩ := hu'.cells
        refine HK.out _ _ hHeld ?_
        clear HK hy
        refine wpAnyS_take 10 (.tuple #[.slice A' (partG g ⟨0, x⟩).length c', .int .i64 0]) (by rfl) (by kernel_rfl) (by exact fun _ _ _ h => h) (by rfl) (fun w' hS => by go_simp) hHeld ?_
        simp only [Act.put]
        refine wpAnyS_take 11 (.slice A' (partG g ⟨0, x⟩).length c') (by rfl) (by kernel_rfl) (by exact fun _ _ _ h => h) (by rfl) (fun w' hS => by go_simp) hHeld ?_
        simp only [Act.put]
        refine wpAnyS_take 12 (.int .i64 0) (by rfl) (by kernel_rfl) (by exact fun _ _ _ h => h) (by rfl) (fun w' hS => by go_simp) hHeld ?_
        simp only [Act.put]
        refine wpAnyS_take 13 (.slice A' (partG g ⟨0, x⟩).length c') (by rfl) (by kernel_rfl) (by exact fun _ _ _ h => h) (by rfl) (fun w' hS => by go_simp) hHeld ?_
        simp only [Act.put]
        refine (show tailOf _ _ _ _ _ _ _ _ from ⟨by kernel_rfl, ?_⟩)
        simp only [List.drop_succ_cons, List.drop_zero]
        obtain ⟨z, rfl⟩ := hHeld
        have hH := Has_ok _ _ n _ hu
        rw [E2.out] at hH
        have HH := Lib.hid hH; clear hH hu
        go_wp2_with fail
        refine HH.out.mono ?_
        rintro e w5 ⟨rfl, rfl⟩
        go_wp2_with fail
        refine ⟨?rel, ?measure⟩
        case rel => exact ⟨k + 1, by omega, by go_num, hbb.trans (z.h.mono hbb.size)⟩
        case measure => simp [intOf]; omega
      · have dl : decide ((k : Int) < (L.length : Int)) = false := by simp; omega
        have hD := Degree_ok _ _ ⟨1, n⟩ _ (h0.below hwr)
        have HD := Lib.hid hD; clear hD
        have p0 := cell_later hb a0'; have p1 := cell_later hb a1'; have p2 := cell_later hb a2'; have p3 := cell_later hb b0'; have p4 := cell_later hb b1'
        go_wp2_with fail
        refine HD.out.mono ?_
        rintro e w4 ⟨rfl, hb4⟩
        go_wp2_with fail
        go_ret
        exact ⟨rfl, below_trans hwr hb4⟩
theorem mutual_walk' (v : Value) (g : Graph) (d : Die) (w : World) (h : GraphAt w v g) (_ : (Lit.int .i64 d.side).wf = true) (_ : (Lit.int .i64 d.num).wf = true) :
    Calls Try.prog 6 #[v, .agg #[.int .i64 d.side, .int .i64 d.num]] w fun e w' => e = .returned (.bool true) ∧ Below w.heap.size w w' := mutual_walk v g d.side d.num w h

set_option maxRecDepth 100000 in
theorem mutual_lifted (os : Os) (started : os.Started) (H : Type) (enc : TypeId × Value → H) :
    ReturnsInHanded {} Try.checked os 6 .any (Rows.linkageMutualSpec.pre6 enc Try.prog Try.f6 Rows.linkageMutualRow.domain false) (Rows.linkageMutualSpec.post enc Try.prog Try.f6 false true false false) := by
  refine returnsInHanded_of_change (C := Try.checked) Try.own started (by kernel_rfl) Try.func6
    (ChangeSpec.witness6 (enc := enc) (C := Try.checked) false ⟨#[], #[.agg #[.slice none 0 0, .slice none 0 0, .slice none 0 0], .agg #[.int .i64 0, .int .i64 0]], []⟩ 8 (by kernel_rfl) (by kernel_rfl) (by kernel_rfl) (by kernel_rfl)) ?_
  intro W base args ds gs before hval0 hW hcnd _
  have hval : ∀ (j : Nat) t v, Try.f6.params[j]? = some t → args[j]? = some v → Value.okWide Try.prog W .any base t v := hval0
  have hW' := hW
  obtain ⟨p, q, hA0, hV, rfl, hfz, hnd⟩ := hW
  have hA : DataW.TrodAll enc Try.prog W 0 (fun _ => true) true Try.f6.params.toList args.toList ds p := hA0
  rw [Try.params6] at hA hval
  obtain ⟨v0, v1, d0, d1, p0, p1, rfl, rfl, rfl, h0, h1⟩ := trodAll_two hA
  obtain ⟨rfl, rfl⟩ := trodVars_none hV
  have k0 := h0
  have lt0 : ∀ x ∈ p0, x.block < W.heap.size := by obtain ⟨m, hm⟩ := k0; exact DataW.trod_lt m _ _ _ hm
  obtain ⟨g0, hg0⟩ := opens_graph (hval 0 27 v0 rfl rfl) h0
  have k1 := h1
  have lt1 : ∀ x ∈ p1, x.block < W.heap.size := by obtain ⟨m, hm⟩ := k1; exact DataW.trod_lt m _ _ _ hm
  obtain ⟨x1, rfl, wa1, wb1⟩ := opens_die (hval 1 39 v1 rfl rfl) h1
  clear hA0 hval0
  refine (mutual_walk' v0 g0 x1 W hg0 wa1 wb1).mono fun e W' ⟨he, bel⟩ => ?_
  subst he
  exact ⟨_, rfl, _, _, _, [], _, [], hW', trodAll_mk1 (shut_bool Try.underlying4 _), trodAll_mk2 (Below.trod Try.laidOut (by kernel_rfl) (of_decide_eq_true (by kernel_rfl)) k0 bel lt0) (Below.trod Try.laidOut (by kernel_rfl) (of_decide_eq_true (by kernel_rfl)) k1 bel lt1), rfl, bel.frame _, fun h => by cases h⟩

theorem mutual_holds : Rows.LinkageMutualSaid :=
  OpenClaim.holds_of_wide 6 Try.f6 rfl rfl rfl rfl rfl rfl rfl ⟨rfl, rfl, rfl, rfl, rfl⟩ rfl rfl rfl rfl rfl (by kernel_rfl) Try.func6 (by kernel_rfl)
    (of_decide_eq_true (by kernel_rfl)) (by unfold Func.isWrapper; first | (rw [if_pos (by decide +kernel)]; kernel_rfl) | (rw [if_neg (by decide +kernel)]; exact ⟨rfl, rfl⟩))
    (fun os started H enc _ => mutual_lifted os started H enc)
end Go.Proofs.Ytifgpmhkdnmhlaa
