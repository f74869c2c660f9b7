/- The reference's Pairs and Partners. Condition: the argument reads as a graph. -/
import Derived.Test.YtifgpmhkdnmhlaaRefE
import Derived.Test.YtifgpmhkdnmhlaaPartA
import Derived.Test.YtifgpmhkdnmhlaaRefD
namespace Go.Proofs.Ytifgpmhkdnmhlaa
open Go.RowKit Go.Shelf

set_option maxHeartbeats 8000000 in
set_option maxRecDepth 100000 in
theorem Pairs_ok13 (v : Value) (g : Graph) (w : World) (h : GraphAt w v g) :
    Calls Try.prog 33 #[v] w fun e w' => ∃ u, e = .returned (.tuple #[u, .int .i64 (validE g)]) ∧ Pairs w' u (pairsG g) ∧ Below w.heap.size w w' := by
  have h0 := h
  obtain ⟨v1, v2, v3, rfl, ho, hr, hl⟩ := h
  obtain ⟨A1, c1, rfl, o1, o2, hco⟩ := ho.cells
  obtain ⟨A2, c2, rfl, r1, r2, hcr⟩ := hr.cells
  obtain ⟨A3, c3, rfl, l1, l2, hcl⟩ := hl.cells
  obtain ⟨W, hW, Hz, hwW, hlt, hc1⟩ := boxed w #[.slice A1 g.obv.length c1, .slice A2 g.rev.length c2, .slice A3 g.links.length c3] 27
  have a0 := hc1 0 _ rfl; have a1 := hc1 1 _ rfl; have a2 := hc1 2 _ rfl
  clear hc1
  go_enter Try.func33, Try.ntmps33
  go_wp2_with fail
  refine (Matrix_ok13 _ _ _ (h0.below hwW)).mono ?_
  rintro e w1 ⟨m, rfl, hm, hb1⟩
  clear hW
  have b0 := cell_later hb1 a0; have b1 := cell_later hb1 a1
  have hw1 := below_trans hwW hb1
  clear a0 a1 a2
  cases hg : graphB g
  · have hV : validE g = 1 := by simp [validE, hg]
    rw [hV]
    have HV := Lib.hid hV; clear hV
    go_wp2_with fail
    go_ret2
    exact ⟨_, ret_mat HV.out.symm, by simp only [pairsG, hg]; exact (own_nil encP 2 57 0 _).slOf, hw1⟩
  have hok := (graphB_iff g).1 hg
  have hlo := hok.lo; have hlr := hok.lr; have hll := hok.ll
  clear hok
  have hvz : validE g = 0 := by simp [validE, hg]
  have hM : matG g = matOf g.obv g.rev g.links := by simp [matG, hg]
  have hP : pairsG g = pairsOf g.obv g.rev g.links := by simp [pairsG, hg]
  rw [hvz]
  rw [hM] at hm
  have HP := Lib.hid hP; have Hvz := Lib.hid hvz
  clear hvz hM hP hg
  obtain ⟨Am, cm, em, q1, q2, hcm⟩ := hm.cells
  have hlm : (matOf g.obv g.rev g.links).length = g.obv.length := by simp [matOf]
  rw [hlm] at em hcm q1
  subst em
  clear hlm hm
  obtain ⟨i0, hi0, hz0, hk0, hb0⟩ := info_parts infoP
  have oneE := oneP
  go_wp2_with fail
  go_loopw [6, 7] (fun u t7 wr => ∃ i : Nat, i ≤ g.obv.length ∧ t7 = .int .i64 i ∧ OwnP w1.heap.size wr u (pairsOf (g.obv.take i) g.rev g.links) ∧ Below w1.heap.size w1 wr) (fun _ t7 _ => g.obv.length - (intOf t7).toNat)
  case atStart => exact ⟨0, Nat.zero_le _, rfl, own_nil _ _ _ _ _, Below.refl _ _⟩
  case round =>
    obtain ⟨i, hi, rfl, hown, hb⟩ := hrel
    by_cases hlt' : i < g.obv.length
    · obtain ⟨a, ha⟩ := get_of_lt hlt'
      obtain ⟨bo, oo, rfl, _, hco'⟩ := hco i hlt'
      obtain ⟨bm, om, rfl, _, hcm'⟩ := hcm i hlt'
      obtain ⟨Rw, cw, hRw, hcw, hle, hcell⟩ := hcm' i _ (matOf_at' ha)
      rw [List.length_map] at hRw hle hcell
      have hRw' := hRw
      obtain ⟨Aw, cw', er, _, _, hrow⟩ := hRw'.cells
      rw [List.length_map] at er hrow
      cases er
      have Hco := Lib.hid (fun W' hW' => hco' W' hW' i a ha); have Ha := Lib.hid ha
      clear ha hco' hcm' hRw hRw'
      have hl1 : (i : Int) < (g.obv.length : Int) := by omega
      have hl0 : (0 : Int) ≤ (i : Int) := by omega
      go_wp2_with fail
      obtain ⟨wo, rfl⟩ : ∃ wo : World, wo = wr := ⟨_, rfl⟩
      go_loopw [6, 8] (fun u t8 wr => ∃ j : Nat, j ≤ g.rev.length ∧ t8 = .int .i64 j ∧ OwnP w1.heap.size wr u (pairsOf (g.obv.take i) g.rev g.links ++ rowPairs (g.rev.take j) g.links a) ∧ Below w1.heap.size w1 wr) (fun _ t8 _ => g.rev.length - (intOf t8).toNat)
      case atStart => exact ⟨0, Nat.zero_le _, rfl, by simpa [rowPairs] using hown, hb⟩
      case round =>
        clear hown hb
        obtain ⟨j, hj, rfl, hown, hb⟩ := hrel
        have hwr := hw1.trans (hb.mono hw1.size)
        have m0 := hcell wr hb
        by_cases hlt2 : j < g.rev.length
        · obtain ⟨b, hb'⟩ := get_of_lt hlt2
          obtain ⟨br, or, rfl, _, hcr'⟩ := hcr j hlt2
          obtain ⟨bw, ow, rfl, _, hrow'⟩ := hrow j hlt2
          have r0 := hrow' wr hb j _ (row_at' hb')
          have Hb := Lib.hid hb'
          have hcn := countM_len' g.links a b
          have S4 : ∀ w', Below w1.heap.size w1 w' → Below w1.heap.size w1 w' ∧ w'.cell? ⟨w.heap.size, 0, none⟩ = some (.slice (some ⟨bo, oo, none⟩) g.obv.length c1) ∧ w'.cell? ⟨w.heap.size, 1, none⟩ = some (.slice (some ⟨br, or, none⟩) g.rev.length c2) ∧ w'.cell? ⟨bo, oo + i, none⟩ = some (.int .i64 a) ∧ w'.cell? ⟨br, or + j, none⟩ = some (.int .i64 b) := fun w' hb'' =>
            ⟨hb'', cell_later hb'' b0, cell_later hb'' b1, Hco.out w' (hw1.trans (hb''.mono hw1.size)), hcr' w' (hw1.trans (hb''.mono hw1.size)) j b hb'⟩
          have S4 := Lib.hid S4
          clear hb' hrow' hcr'
          have hl1j : (j : Int) < (g.rev.length : Int) := by omega
          have hl0j : (0 : Int) ≤ (j : Int) := by omega
          have hpl := pairs_len' (r := g.rev) (ls := g.links) (j := j) Ha.out
          rw [List.length_append] at hpl
          have hpl2 : g.obv.length * g.rev.length ≤ 32 * 32 := Nat.mul_le_mul hlo hlr
          by_cases hc : 0 < countM g.links a b
          · have hd : decide ((0 : Int) < (countM g.links a b : Int)) = true := by simp; omega
            have Hc := Lib.hid hc; clear hc
            go_wp2_with fail
            go_region_held3 (fun w' => Below w1.heap.size w1 w' ∧ w'.cell? ⟨w.heap.size, 0, none⟩ = some (.slice (some ⟨bo, oo, none⟩) g.obv.length c1) ∧ w'.cell? ⟨w.heap.size, 1, none⟩ = some (.slice (some ⟨br, or, none⟩) g.rev.length c2) ∧ w'.cell? ⟨bo, oo + i, none⟩ = some (.int .i64 a) ∧ w'.cell? ⟨br, or + j, none⟩ = some (.int .i64 b)) (first | exact S4.out _ hb.drew | exact S4.out _ (by assumption) | (have hh := (‹Below w1.heap.size w1 _ ∧ _›).1; have h2 := hh.size; exact S4.out _ (by exact Below.alloc hh h2 _)))
              (first
                | (have hR := (‹Below w1.heap.size w1 _ ∧ _›).1; have hRs := hR.size; refine step_append_sl (by rfl) (.tmp 40) (.tmp 52) _ (by rfl) i0 _ 16 Try.underlying53 hi0 hz0 hk0 hb0 (by rfl) (by decide) oneE (by rfl) ((Own.alloc hown _).drew) _ 1 1 [(⟨a, b⟩ : Pair)] (by rfl) (by rfl) (sl_one (by rfl) (by exact heap_alloc_new _ _)) (by simp; omega) (by simp; omega) hRs ?_; intro v1 w1 hown1 hgrow1 hat1; have hq1 := Below.grown hR hgrow1 hRs (fun g hg => (hown.lt g hg).1)))
            go_wp2_with fail
            refine ⟨?rel, ?measure⟩
            case rel => exact ⟨j + 1, by omega, by go_num, by rw [rowPairs_snoc Hb.out, if_pos Hc.out, ← List.append_assoc]; exact hown1, hq1⟩
            case measure => first | (simp [intOf]; done) | (simp [intOf]; omega)
          · have hd : decide ((0 : Int) < (countM g.links a b : Int)) = false := by simp; omega
            have Hc := Lib.hid hc; clear hc
            go_wp2_with fail
            refine ⟨?rel, ?measure⟩
            case rel => exact ⟨j + 1, by omega, by go_num, by rw [rowPairs_snoc Hb.out, if_neg Hc.out, List.append_nil]; exact hown, hb⟩
            case measure => first | (simp [intOf]; done) | (simp [intOf]; omega)
        · have e1 : g.rev.take j = g.rev := List.take_of_length_le (by omega)
          rw [e1, ← pairsOf_snoc Ha.out] at hown
          clear e1
          go_wp2_with fail
          refine ⟨?rel, ?measure⟩
          case rel => exact ⟨i + 1, by omega, by go_num, hown, hb⟩
          case measure => first | (simp [intOf]; done) | (simp [intOf]; omega)
    · have e1 : g.obv.take i = g.obv := List.take_of_length_le (by omega)
      rw [e1, ← HP.out] at hown
      clear e1
      go_wp2_with fail
      go_ret2
      exact ⟨_, ret_mat Hvz.out.symm, hown.slOf, hw1.trans (hb.mono hw1.size)⟩

theorem dieIn_deg {g : Graph} {d : Die} (hg : graphB g = true) : dieIn g d = true ↔ degI g d ≠ 0 := by
  have hok := (graphB_iff g).1 hg
  have hE := graphB_ends hg
  have hdeg : degI g d ≠ 0 ↔ ∃ x ∈ g.links, touchB x d = true := by
    simp only [degI, if_pos hg]
    rw [← List.countP_pos_iff]
    omega
  rw [hdeg]
  simp only [dieIn, Bool.or_eq_true, Bool.and_eq_true, beq_iff_eq, hasB_iff, touchB]
  constructor
  · rintro (⟨hs, hm⟩ | ⟨hs, hm⟩)
    · have := List.all_eq_true.1 hok.uo _ hm
      rw [hasB_iff, List.mem_map] at this
      obtain ⟨x, hx, e⟩ := this
      exact ⟨x, hx, .inl ⟨hs, e⟩⟩
    · have := List.all_eq_true.1 hok.ur _ hm
      rw [hasB_iff, List.mem_map] at this
      obtain ⟨x, hx, e⟩ := this
      exact ⟨x, hx, .inr ⟨hs, e⟩⟩
  · rintro ⟨x, hx, (⟨hs, e⟩ | ⟨hs, e⟩)⟩
    · exact .inl ⟨hs, e ▸ hE.1 x hx⟩
    · exact .inr ⟨hs, e ▸ hE.2 x hx⟩

set_option maxHeartbeats 8000000 in
set_option maxRecDepth 100000 in
theorem Partners_ok13 (v : Value) (g : Graph) (s n : Int) (w : World) (h : GraphAt w v g) :
    Calls Try.prog 34 #[v, .agg #[.int .i64 s, .int .i64 n]] w fun e w' => ∃ u, e = .returned (.tuple #[u, .int .i64 (partE g ⟨s, n⟩)]) ∧ Ints w' u (partG g ⟨s, n⟩) ∧ Below w.heap.size w w' := by
  have h0 := h
  obtain ⟨v1, v2, v3, rfl, ho, hr, hl⟩ := h
  obtain ⟨A1, c1, rfl, _, _, _⟩ := ho.cells
  obtain ⟨A2, c2, rfl, _, _, _⟩ := hr.cells
  obtain ⟨A3, c3, rfl, l1, l2, hcl⟩ := hl.cells
  obtain ⟨W0, hW0, Hz0, hwW0, hlt0, hc0⟩ := boxed w #[.slice A1 g.obv.length c1, .slice A2 g.rev.length c2, .slice A3 g.links.length c3] 27
  obtain ⟨W, hW, Hz, hWW, hlt, hc1⟩ := boxed W0 #[.int .i64 s, .int .i64 n] 39
  have hwW := below_trans hwW0 hWW
  have a0 := cell_later hWW (hc0 0 _ rfl); have a1 := cell_later hWW (hc0 1 _ rfl); have a2 := cell_later hWW (hc0 2 _ rfl)
  have b0 := hc1 0 _ rfl; have b1 := hc1 1 _ rfl
  clear hc0 hc1
  rw [Hz0.out] at b0 b1
  have hW' : (w.alloc (.cells #[.slice A1 g.obv.length c1, .slice A2 g.rev.length c2, .slice A3 g.links.length c3] 27)).alloc (.cells #[.int .i64 s, .int .i64 n] 39) = W := by rw [hW0, hW]
  clear hW0 hW
  go_enter Try.func34, Try.ntmps34
  go_wp2_with fail
  have hV := Valid_ok13 _ _ _ (h0.below hwW)
  cases hg : graphB g
  · rw [hg] at hV
    refine hV.mono ?_
    rintro e w1 ⟨rfl, hb1⟩
    clear hW' hV
    have hw1 := below_trans hwW hb1
    have hE : partE g ⟨s, n⟩ = 1 := by simp [partE, hg]
    have hG : partG g ⟨s, n⟩ = [] := by simp [partG, hg]
    have HE := Lib.hid hE; have HG := Lib.hid hG; clear hE hG hg
    go_wp2_with fail
    go_ret2
    exact ⟨_, ret_mat HE.out.symm, by rw [HG.out]; exact (own_nil encI 1 3 0 _).slOf, hw1⟩
  rw [hg] at hV
  refine hV.mono ?_
  rintro e w1 ⟨rfl, hb1⟩
  clear hW' hV
  have a0' := cell_later hb1 a0; have a1' := cell_later hb1 a1; have a2' := cell_later hb1 a2; have b0' := cell_later hb1 b0; have b1' := cell_later hb1 b1
  have hw1 := below_trans hwW hb1
  clear a0 a1 a2 b0 b1
  have Hg := Lib.hid hg; clear hg
  have hIn := In_ok13 _ _ ⟨s, n⟩ _ (h0.below hw1)
  by_cases hd : degI g ⟨s, n⟩ = 0
  · have hE : partE g ⟨s, n⟩ = 7 := by simp [partE, Hg.out, hd]
    have hG : partG g ⟨s, n⟩ = [] := by simp [partG, Hg.out, deg_zero hd Hg.out, withs]
    have HE := Lib.hid hE; have HG := Lib.hid hG; clear hE hG
    have hf : dieIn g ⟨s, n⟩ = false := Bool.eq_false_iff.2 fun h => (dieIn_deg Hg.out).1 h hd
    rw [hf] at hIn
    have HIn := Lib.hid hIn; clear hIn hd hf
    go_wp2_with fail
    refine HIn.out.mono ?_
    rintro e w2 ⟨rfl, hb2⟩
    go_wp2_with fail
    go_ret2
    exact ⟨_, ret_mat HE.out.symm, by rw [HG.out]; exact (own_nil encI 1 3 0 _).slOf, below_trans hw1 hb2⟩
  have hE : partE g ⟨s, n⟩ = 0 := by simp [partE, Hg.out, hd]
  have hG : partG g ⟨s, n⟩ = withs (partL g ⟨s, n⟩) := by simp [partG, Hg.out]
  have HE := Lib.hid hE; have HG := Lib.hid hG; clear hE hG
  rw [(dieIn_deg Hg.out).2 hd] at hIn
  have HIn := Lib.hid hIn; clear hIn
  have hside := deg_side hd
  have hll := graphB_links Hg.out
  clear hd
  go_wp2_with fail
  refine HIn.out.mono ?_
  rintro e w2 ⟨rfl, hb2⟩
  have a0 := cell_later hb2 a0'; have a1 := cell_later hb2 a1'; have b2 := cell_later hb2 a2'; have b0 := cell_later hb2 b0'; have b1 := cell_later hb2 b1'
  have hw2 := below_trans hw1 hb2
  clear a0' a1' a2' b0' b1' a0 a1
  rcases hside with hs | hs
  · obtain rfl : s = 0 := hs
    have hpart : partL g ⟨0, n⟩ = pickL g.links 0 1 n := rfl
    have Hpart := Lib.hid hpart; clear hpart
    go_wp2_with fail
    go_loopw [6, 7] (fun u i wr => ∃ k : Nat, k ≤ g.links.length ∧ i = .int .i64 k ∧ Ints wr u (withs (pickL (g.links.take k) 0 1 n)) ∧ Below w2.heap.size w2 wr) (fun _ i _ => g.links.length - (intOf i).toNat)
    case atStart => exact ⟨0, Nat.zero_le _, rfl, (own_nil encI 1 3 0 _).slOf, Below.refl _ _⟩
    case round =>
      obtain ⟨k, hk, rfl, hown, hb⟩ := hrel
      have hlen := pick_len (g.links.take k) 0 1 n
      have hwl := withs_len (pickL (g.links.take k) 0 1 n)
      rw [List.length_take] at hlen
      have d2 := cell_later hb b2
      by_cases hlt' : k < g.links.length
      · obtain ⟨b, o, rfl, _, hc⟩ := hcl k hlt'
        obtain ⟨x, hx⟩ := get_of_lt hlt'
        obtain ⟨c0, c1', c2'⟩ := hc wr (hw2.trans (hb.mono hw2.size)) k x hx
        have m0 := Later.cell_all c0; have m1 := Later.cell_all c1'; have m2 := Later.cell_all c2'
        have n0 := Later.cell_all (cell_later hb b0); have n1 := Later.cell_all (cell_later hb b1); have n2 := Later.cell_all d2
        have Hx := Lib.hid hx; clear hx hc
        have hsn := pick_snoc (s := 0) (o := 1) (n := n) Hx.out
        have hl1 : (k : Int) < (g.links.length : Int) := by omega
        have hl0 : (0 : Int) ≤ (k : Int) := by omega
        have hT : ∀ y : Later wr, Calls Try.prog 50 #[.agg #[.int .i64 x.id, .int .i64 x.obv, .int .i64 x.rev], .agg #[.int .i64 0, .int .i64 n]] y.to _ := fun y => Touches_ok x ⟨0, n⟩ y.to
        have HT := Lib.hid hT; clear hT
        cases ht : touchB x ⟨0, n⟩
        · rw [ht, if_neg (by simp), List.append_nil] at hsn
          rw [ht] at HT
          have Hsn := Lib.hid hsn; clear hsn ht
          go_wp2_with fail
          refine wp_region_later (by kernel_rfl) (by kernel_rfl) ?_
          repeat (go_big_quiet_step (first | (go_at_call 50; with_reducible exact calls_later (HT.out _))))
          refine wpQuiet_nil ?_
          intro _ hw'
          obtain ⟨xq, hw''⟩ := hw'
          subst hw''
          go_wp2_with fail
          refine ⟨?rel, ?measure⟩
          case rel => exact ⟨k + 1, by omega, by go_num, by rw [Hsn.out]; exact Ints.below hown xq.h, hb.trans (xq.h.mono hb.size)⟩
          case measure => first | (simp [intOf]; done) | (simp [intOf]; omega)
        · rw [ht, if_pos rfl] at hsn
          rw [ht] at HT
          have Hsn := Lib.hid hsn; clear hsn ht
          go_wp2_with fail
          refine wp_region_later (by kernel_rfl) (by kernel_rfl) ?_
          repeat (go_big_quiet_step (first | (go_at_call 50; with_reducible exact calls_later (HT.out _))))
          refine wpQuiet_nil ?_
          intro _ hw'
          obtain ⟨xq, hw''⟩ := hw'
          subst hw''
          have hox := Ints.below hown xq.h
          go_wp2_with fail
          refine (with_ok13 _ _ (endI x 1) _ hox (by omega)).mono ?_
          rintro e w4 ⟨u', rfl, hu', _, hb4⟩
          rw [← withs_snoc, ← Hsn.out] at hu'
          go_wp2_with fail
          refine ⟨?rel, ?measure⟩
          case rel => exact ⟨k + 1, by omega, by go_num, hu', hb.trans ((below_trans xq.h hb4).mono hb.size)⟩
          case measure => first | (simp [intOf]; done) | (simp [intOf]; omega)
      · have e1 : g.links.take k = g.links := List.take_of_length_le (by omega)
        rw [e1, ← Hpart.out, ← HG.out] at hown
        clear e1
        go_wp2_with fail
        go_ret2
        exact ⟨_, ret_mat HE.out.symm, hown, hw2.trans (hb.mono hw2.size)⟩
  · obtain rfl : s = 1 := hs
    have hpart : partL g ⟨1, n⟩ = pickL g.links 1 0 n := rfl
    have Hpart := Lib.hid hpart; clear hpart
    go_wp2_with fail
    go_loopw [6, 7] (fun u i wr => ∃ k : Nat, k ≤ g.links.length ∧ i = .int .i64 k ∧ Ints wr u (withs (pickL (g.links.take k) 1 0 n)) ∧ Below w2.heap.size w2 wr) (fun _ i _ => g.links.length - (intOf i).toNat)
    case atStart => exact ⟨0, Nat.zero_le _, rfl, (own_nil encI 1 3 0 _).slOf, Below.refl _ _⟩
    case round =>
      obtain ⟨k, hk, rfl, hown, hb⟩ := hrel
      have hlen := pick_len (g.links.take k) 1 0 n
      have hwl := withs_len (pickL (g.links.take k) 1 0 n)
      rw [List.length_take] at hlen
      have d2 := cell_later hb b2
      by_cases hlt' : k < g.links.length
      · obtain ⟨b, o, rfl, _, hc⟩ := hcl k hlt'
        obtain ⟨x, hx⟩ := get_of_lt hlt'
        obtain ⟨c0, c1', c2'⟩ := hc wr (hw2.trans (hb.mono hw2.size)) k x hx
        have m0 := Later.cell_all c0; have m1 := Later.cell_all c1'; have m2 := Later.cell_all c2'
        have n0 := Later.cell_all (cell_later hb b0); have n1 := Later.cell_all (cell_later hb b1); have n2 := Later.cell_all d2
        have Hx := Lib.hid hx; clear hx hc
        have hsn := pick_snoc (s := 1) (o := 0) (n := n) Hx.out
        have hl1 : (k : Int) < (g.links.length : Int) := by omega
        have hl0 : (0 : Int) ≤ (k : Int) := by omega
        have hT : ∀ y : Later wr, Calls Try.prog 50 #[.agg #[.int .i64 x.id, .int .i64 x.obv, .int .i64 x.rev], .agg #[.int .i64 1, .int .i64 n]] y.to _ := fun y => Touches_ok x ⟨1, n⟩ y.to
        have HT := Lib.hid hT; clear hT
        cases ht : touchB x ⟨1, n⟩
        · rw [ht, if_neg (by simp), List.append_nil] at hsn
          rw [ht] at HT
          have Hsn := Lib.hid hsn; clear hsn ht
          go_wp2_with fail
          refine wp_region_later (by kernel_rfl) (by kernel_rfl) ?_
          repeat (go_big_quiet_step (first | (go_at_call 50; with_reducible exact calls_later (HT.out _))))
          refine wpQuiet_nil ?_
          intro _ hw'
          obtain ⟨xq, hw''⟩ := hw'
          subst hw''
          go_wp2_with fail
          refine ⟨?rel, ?measure⟩
          case rel => exact ⟨k + 1, by omega, by go_num, by rw [Hsn.out]; exact Ints.below hown xq.h, hb.trans (xq.h.mono hb.size)⟩
          case measure => first | (simp [intOf]; done) | (simp [intOf]; omega)
        · rw [ht, if_pos rfl] at hsn
          rw [ht] at HT
          have Hsn := Lib.hid hsn; clear hsn ht
          go_wp2_with fail
          refine wp_region_later (by kernel_rfl) (by kernel_rfl) ?_
          repeat (go_big_quiet_step (first | (go_at_call 50; with_reducible exact calls_later (HT.out _))))
          refine wpQuiet_nil ?_
          intro _ hw'
          obtain ⟨xq, hw''⟩ := hw'
          subst hw''
          have hox := Ints.below hown xq.h
          go_wp2_with fail
          refine (with_ok13 _ _ (endI x 0) _ hox (by omega)).mono ?_
          rintro e w4 ⟨u', rfl, hu', _, hb4⟩
          rw [← withs_snoc, ← Hsn.out] at hu'
          go_wp2_with fail
          refine ⟨?rel, ?measure⟩
          case rel => exact ⟨k + 1, by omega, by go_num, hu', hb.trans ((below_trans xq.h hb4).mono hb.size)⟩
          case measure => first | (simp [intOf]; done) | (simp [intOf]; omega)
      · have e1 : g.links.take k = g.links := List.take_of_length_le (by omega)
        rw [e1, ← Hpart.out, ← HG.out] at hown
        clear e1
        go_wp2_with fail
        go_ret2
        exact ⟨_, ret_mat HE.out.symm, hown, hw2.trans (hb.mono hw2.size)⟩
end Go.Proofs.Ytifgpmhkdnmhlaa
