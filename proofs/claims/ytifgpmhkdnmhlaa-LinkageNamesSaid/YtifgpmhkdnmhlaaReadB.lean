/- linkage.Dies; the reference's Dies and Degree. Condition: the arguments read as graphs and dies. -/
import Derived.Test.YtifgpmhkdnmhlaaLinkI
namespace Go.Proofs.Ytifgpmhkdnmhlaa
open Go.RowKit Go.Shelf

def diesG (g : Graph) : List Die := if graphB g = true then g.obv.map (Die.mk 0) ++ g.rev.map (Die.mk 1) else []

set_option maxHeartbeats 4000000 in
set_option maxRecDepth 100000 in
theorem Dies_ok (v : Value) (g : Graph) (w : World) (h : GraphAt w v g) :
    Calls Try.prog 20 #[v] w fun e w' => ∃ u, e = .returned (.tuple #[u, .int .i64 (validE g)]) ∧ Dies w' u (diesG g) ∧ Below w.heap.size w w' := by
    have h0 := h
    obtain ⟨v1, v2, v3, rfl, ho, hr, hl⟩ := h
    obtain ⟨A1, c1, rfl, o1, o2, hco⟩ := ho.cells
    obtain ⟨A2, c2, rfl, r1, r2, hcr⟩ := hr.cells
    obtain ⟨A3, c3, rfl, _, _, _⟩ := hl.cells
    obtain ⟨W, hW, Hz, hwW, hlt, hc1⟩ := boxed w #[.slice A1 g.obv.length c1, .slice A2 g.rev.length c2, .slice A3 g.links.length c3] 27
    have a0 := hc1 0 _ rfl; have a1 := hc1 1 _ rfl; have a2 := hc1 2 _ rfl
    clear hc1
    go_enter Try.func20, Try.ntmps20
    go_wp2_with fail
    refine (Valid_ok _ _ _ (h0.below hwW)).mono ?_
    rintro e w1 ⟨rfl, hb1⟩
    clear hW
    have b0 := cell_later hb1 a0; have b1 := cell_later hb1 a1; have b2 := cell_later hb1 a2
    have hw1 := below_trans hwW hb1
    clear a0 a1 a2
    cases hg : graphB g
    · go_wp2_with fail
      go_ret2
      exact ⟨_, ret_mat (by simp [validE, hg]), by simp only [diesG, hg]; exact (own_nil encD 2 39 0 _).slOf, hw1⟩
    have hok := (graphB_iff g).1 hg
    have hlo := hok.lo; have hlr := hok.lr
    have hvz : validE g = 0 := by simp [validE, hg]
    have hmz : diesG g = g.obv.map (Die.mk 0) ++ g.rev.map (Die.mk 1) := by simp [diesG, hg]
    have Hvz := Lib.hid hvz; have Hmz := Lib.hid hmz; clear hvz hmz hok
    obtain ⟨iD, hiD, hzD, hkD, hbD⟩ := info_parts infoD
    go_wp2_with fail
    go_loopw [4, 15] (fun u i wr => ∃ k : Nat, k ≤ g.obv.length ∧ i = .int .i64 k ∧ OwnD w1.heap.size wr u ((g.obv.take k).map (Die.mk 0)) ∧ Below w1.heap.size w1 wr) (fun _ i _ => g.obv.length - (intOf i).toNat)
    case atStart => exact ⟨0, Nat.zero_le _, rfl, own_nil _ _ _ _ _, Below.refl _ _⟩
    case round =>
      obtain ⟨k, hk, rfl, hown, hb⟩ := hrel
      have d0 := cell_later hb b0; have d1 := cell_later hb b1
      by_cases hlt' : k < g.obv.length
      · obtain ⟨b, o, rfl, _, hc⟩ := hco k hlt'
        obtain ⟨x, hx⟩ := get_of_lt hlt'
        have e0 := hc wr (hw1.trans (hb.mono hw1.size)) k x hx
        have Hx := Lib.hid hx; clear hx hc
        have hl1 : (k : Int) < (g.obv.length : Int) := by omega
        have hl0 : (0 : Int) ≤ (k : Int) := by omega
        have hlen : ((g.obv.take k).map (Die.mk 0)).length ≤ 32 := by simp; omega
        have hBs := hb.size
        go_wp2_with (at_builtin; refine wpList_append1 (enc := encD) (size := 2) (B := w1.heap.size) rfl (.tmp 19) (.tmp 22) _ rfl 39 iD _ 16 Try.underlying41 hiD hzD hkD hbD rfl (by decide) rfl hown (Die.mk 0 x) _ rfl lenD oneD _ rfl rfl (by omega) (by omega) hBs ?_; intro v' w2 hown' hgrow hat)
        refine ⟨?rel, ?measure⟩
        case rel => exact ⟨k + 1, by omega, by go_num, by rw [map_take_snoc _ Hx.out]; exact hown', hb.trans (below_append hown hgrow hBs)⟩
        case measure => simp [intOf]; omega
      · have e1 : g.obv.take k = g.obv := List.take_of_length_le (by omega)
        rw [e1] at hown
        clear e1
        have hb0 := hb
        go_wp2_with fail
        go_loopw [4, 28] (fun u i wr => ∃ k : Nat, k ≤ g.rev.length ∧ i = .int .i64 k ∧ OwnD w1.heap.size wr u (g.obv.map (Die.mk 0) ++ (g.rev.take k).map (Die.mk 1)) ∧ Below w1.heap.size w1 wr) (fun _ i _ => g.rev.length - (intOf i).toNat)
        case atStart => exact ⟨0, Nat.zero_le _, rfl, by simpa using hown, hb⟩
        case round =>
          clear hown hb hb0 d0 d1
          obtain ⟨j, hj, rfl, hown, hb⟩ := hrel
          have d1 := cell_later hb b1
          by_cases hlt2 : j < g.rev.length
          · obtain ⟨b, o, rfl, _, hc⟩ := hcr j hlt2
            obtain ⟨x, hx⟩ := get_of_lt hlt2
            have e0 := hc _ (hw1.trans (hb.mono hw1.size)) j x hx
            have Hx := Lib.hid hx; clear hx hc
            have hl1 : (j : Int) < (g.rev.length : Int) := by omega
            have hl0 : (0 : Int) ≤ (j : Int) := by omega
            have hlen : (g.obv.map (Die.mk 0) ++ (g.rev.take j).map (Die.mk 1)).length ≤ 64 := by simp; omega
            have hBs := hb.size
            go_wp2_with (at_builtin; refine wpList_append1 (enc := encD) (size := 2) (B := w1.heap.size) rfl (.tmp 32) (.tmp 35) _ rfl 39 iD _ 16 Try.underlying41 hiD hzD hkD hbD rfl (by decide) rfl hown (Die.mk 1 x) _ rfl lenD oneD _ rfl rfl (by omega) (by omega) hBs ?_; intro v' w2 hown' hgrow hat)
            refine ⟨?rel, ?measure⟩
            case rel => exact ⟨j + 1, by omega, by go_num, by rw [map_take_snoc _ Hx.out, ← List.append_assoc]; exact hown', hb.trans (below_append hown hgrow hBs)⟩
            case measure => simp [intOf]; omega
          · have e1 : g.rev.take j = g.rev := List.take_of_length_le (by omega)
            rw [e1] at hown
            clear e1
            go_wp2_with fail
            go_ret2
            exact ⟨_, ret_mat Hvz.out.symm, by rw [Hmz.out]; exact hown.slOf, hw1.trans (hb.mono hw1.size)⟩

set_option maxHeartbeats 4000000 in
set_option maxRecDepth 100000 in
theorem Dies_ok13 (v : Value) (g : Graph) (w : World) (h : GraphAt w v g) :
    Calls Try.prog 21 #[v] w fun e w' => ∃ u, e = .returned (.tuple #[u, .int .i64 (validE g)]) ∧ Dies w' u (diesG g) ∧ Below w.heap.size w w' := by
    have h0 := h
    obtain ⟨v1, v2, v3, rfl, ho, hr, hl⟩ := h
    obtain ⟨A1, c1, rfl, o1, o2, hco⟩ := ho.cells
    obtain ⟨A2, c2, rfl, r1, r2, hcr⟩ := hr.cells
    obtain ⟨A3, c3, rfl, _, _, _⟩ := hl.cells
    obtain ⟨W, hW, Hz, hwW, hlt, hc1⟩ := boxed w #[.slice A1 g.obv.length c1, .slice A2 g.rev.length c2, .slice A3 g.links.length c3] 27
    have a0 := hc1 0 _ rfl; have a1 := hc1 1 _ rfl; have a2 := hc1 2 _ rfl
    clear hc1
    go_enter Try.func21, Try.ntmps21
    go_wp2_with fail
    refine (Valid_ok13 _ _ _ (h0.below hwW)).mono ?_
    rintro e w1 ⟨rfl, hb1⟩
    clear hW
    have b0 := cell_later hb1 a0; have b1 := cell_later hb1 a1; have b2 := cell_later hb1 a2
    have hw1 := below_trans hwW hb1
    clear a0 a1 a2
    cases hg : graphB g
    · go_wp2_with fail
      go_ret2
      exact ⟨_, ret_mat (by simp [validE, hg]), by simp only [diesG, hg]; exact (own_nil encD 2 39 0 _).slOf, hw1⟩
    have hok := (graphB_iff g).1 hg
    have hlo := hok.lo; have hlr := hok.lr
    have hvz : validE g = 0 := by simp [validE, hg]
    have hmz : diesG g = g.obv.map (Die.mk 0) ++ g.rev.map (Die.mk 1) := by simp [diesG, hg]
    have Hvz := Lib.hid hvz; have Hmz := Lib.hid hmz; clear hvz hmz hok
    obtain ⟨iD, hiD, hzD, hkD, hbD⟩ := info_parts infoD
    go_wp2_with fail
    go_loopw [4, 5] (fun u i wr => ∃ k : Nat, k ≤ g.obv.length ∧ i = .int .i64 k ∧ OwnD w1.heap.size wr u ((g.obv.take k).map (Die.mk 0)) ∧ Below w1.heap.size w1 wr) (fun _ i _ => g.obv.length - (intOf i).toNat)
    case atStart => exact ⟨0, Nat.zero_le _, rfl, own_nil _ _ _ _ _, Below.refl _ _⟩
    case round =>
      obtain ⟨k, hk, rfl, hown, hb⟩ := hrel
      have d0 := cell_later hb b0; have d1 := cell_later hb b1
      by_cases hlt' : k < g.obv.length
      · obtain ⟨b, o, rfl, _, hc⟩ := hco k hlt'
        obtain ⟨x, hx⟩ := get_of_lt hlt'
        have e0 := hc wr (hw1.trans (hb.mono hw1.size)) k x hx
        have Hx := Lib.hid hx; clear hx hc
        have hl1 : (k : Int) < (g.obv.length : Int) := by omega
        have hl0 : (0 : Int) ≤ (k : Int) := by omega
        have hlen : ((g.obv.take k).map (Die.mk 0)).length ≤ 32 := by simp; omega
        have hBs := hb.size
        go_wp2_with (at_builtin; refine wpList_append1 (enc := encD) (size := 2) (B := w1.heap.size) rfl (.tmp 17) (.tmp 24) _ rfl 39 iD _ 16 Try.underlying41 hiD hzD hkD hbD rfl (by decide) rfl hown (Die.mk 0 x) _ rfl lenD oneD _ rfl rfl (by omega) (by omega) hBs ?_; intro v' w2 hown' hgrow hat)
        refine ⟨?rel, ?measure⟩
        case rel => exact ⟨k + 1, by omega, by go_num, by rw [map_take_snoc _ Hx.out]; exact hown', hb.trans (below_append hown hgrow hBs)⟩
        case measure => simp [intOf]; omega
      · have e1 : g.obv.take k = g.obv := List.take_of_length_le (by omega)
        rw [e1] at hown
        clear e1
        have hb0 := hb
        go_wp2_with fail
        go_loopw [4, 6] (fun u i wr => ∃ k : Nat, k ≤ g.rev.length ∧ i = .int .i64 k ∧ OwnD w1.heap.size wr u (g.obv.map (Die.mk 0) ++ (g.rev.take k).map (Die.mk 1)) ∧ Below w1.heap.size w1 wr) (fun _ i _ => g.rev.length - (intOf i).toNat)
        case atStart => exact ⟨0, Nat.zero_le _, rfl, by simpa using hown, hb⟩
        case round =>
          clear hown hb hb0 d0 d1
          obtain ⟨j, hj, rfl, hown, hb⟩ := hrel
          have d1 := cell_later hb b1
          by_cases hlt2 : j < g.rev.length
          · obtain ⟨b, o, rfl, _, hc⟩ := hcr j hlt2
            obtain ⟨x, hx⟩ := get_of_lt hlt2
            have e0 := hc _ (hw1.trans (hb.mono hw1.size)) j x hx
            have Hx := Lib.hid hx; clear hx hc
            have hl1 : (j : Int) < (g.rev.length : Int) := by omega
            have hl0 : (0 : Int) ≤ (j : Int) := by omega
            have hlen : (g.obv.map (Die.mk 0) ++ (g.rev.take j).map (Die.mk 1)).length ≤ 64 := by simp; omega
            have hBs := hb.size
            go_wp2_with (at_builtin; refine wpList_append1 (enc := encD) (size := 2) (B := w1.heap.size) rfl (.tmp 33) (.tmp 40) _ rfl 39 iD _ 16 Try.underlying41 hiD hzD hkD hbD rfl (by decide) rfl hown (Die.mk 1 x) _ rfl lenD oneD _ rfl rfl (by omega) (by omega) hBs ?_; intro v' w2 hown' hgrow hat)
            refine ⟨?rel, ?measure⟩
            case rel => exact ⟨j + 1, by omega, by go_num, by rw [map_take_snoc _ Hx.out, ← List.append_assoc]; exact hown', hb.trans (below_append hown hgrow hBs)⟩
            case measure => simp [intOf]; omega
          · have e1 : g.rev.take j = g.rev := List.take_of_length_le (by omega)
            rw [e1] at hown
            clear e1
            go_wp2_with fail
            go_ret2
            exact ⟨_, ret_mat Hvz.out.symm, by rw [Hmz.out]; exact hown.slOf, hw1.trans (hb.mono hw1.size)⟩

theorem Touches_is {x : Link} {d : Die} {b : Bool} (ht : touchB x d = b) (w : World) : Calls Try.prog 50 #[.agg #[.int .i64 x.id, .int .i64 x.obv, .int .i64 x.rev], .agg #[.int .i64 d.side, .int .i64 d.num]] w fun e w' => e = .returned (.bool b) ∧ Below w.heap.size w w' := by
  rw [← ht]; exact Touches_ok _ _ _
set_option maxHeartbeats 4000000 in
theorem Degree_ok13 (v : Value) (g : Graph) (d : Die) (w : World) (h : GraphAt w v g) :
    Calls Try.prog 25 #[v, .agg #[.int .i64 d.side, .int .i64 d.num]] w fun e w' => e = .returned (.int .i64 (degI g d)) ∧ Below w.heap.size w w' := by
  have h0 := h
  obtain ⟨v1, v2, v3, rfl, ho, hr, hl⟩ := h
  obtain ⟨A1, c1, rfl, _, _, _⟩ := ho.cells
  obtain ⟨A2, c2, rfl, _, _, _⟩ := hr.cells
  obtain ⟨A3, c3, rfl, l1, l2, hcl⟩ := hl.cells
  obtain ⟨W0, hW0, Hz0, hwW0, hlt0, hc0⟩ := boxed w #[.slice A1 g.obv.length c1, .slice A2 g.rev.length c2, .slice A3 g.links.length c3] 27
  obtain ⟨W, hW, Hz, hWW, hlt, hc1⟩ := boxed W0 #[.int .i64 d.side, .int .i64 d.num] 39
  have hwW := below_trans hwW0 hWW
  have a0 := cell_later hWW (hc0 0 _ rfl); have a1 := cell_later hWW (hc0 1 _ rfl); have a2 := cell_later hWW (hc0 2 _ rfl)
  have b0 := hc1 0 _ rfl; have b1 := hc1 1 _ rfl
  clear hc0 hc1
  rw [Hz0.out] at b0 b1
  have hW' : (w.alloc (.cells #[.slice A1 g.obv.length c1, .slice A2 g.rev.length c2, .slice A3 g.links.length c3] 27)).alloc (.cells #[.int .i64 d.side, .int .i64 d.num] 39) = W := by rw [hW0, hW]
  clear hW0 hW
  have hdeg : graphB g = true → degI g d = (g.links.countP (fun x => touchB x d) : Nat) := fun hg => by simp [degI, hg]
  have hdeg0 : g.links.length = 0 ∨ graphB g = false → degI g d = 0 := fun h => by
    rcases h with h | h
    · have e0 : g.links = [] := List.eq_nil_of_length_eq_zero h
      simp [degI, e0]
    · simp [degI, h]
  have Hd := Lib.hid hdeg; have Hd0 := Lib.hid hdeg0; clear hdeg hdeg0
  go_enter Try.func25, Try.ntmps25
  go_wp2_with fail
  clear hW'
  go_loopw [5, 6] (fun n i wr => ∃ k m : Nat, k ≤ g.links.length ∧ n = .int .i64 m ∧ i = .int .i64 k ∧ m ≤ k ∧ (0 < k → Hid (graphB g = true)) ∧ m = (g.links.take k).countP (fun x => touchB x d) ∧ Below W.heap.size W wr) (fun _ i _ => g.links.length - (intOf i).toNat)
  case atStart => exact ⟨0, 0, Nat.zero_le _, rfl, rfl, Nat.le_refl _, fun h => absurd h (by omega), by simp, Below.refl _ _⟩
  case round =>
    obtain ⟨k, m, hk, rfl, rfl, hmk, hpos, hm, hb⟩ := hrel
    have Hm := Lib.hid hm; have Hpos := Lib.hid hpos; clear hm hpos
    have n0 := cell_later hb a0; have n1 := cell_later hb a1; have n2 := cell_later hb a2; have n3 := cell_later hb b0; have n4 := cell_later hb b1
    have hwr := hwW.trans (hb.mono hwW.size)
    by_cases hlt' : k < g.links.length
    · have dl : decide ((k : Int) < (g.links.length : Int)) = true := by simp; omega
      cases hg : graphB g
      · go_wp2_with fail
        refine (Valid_ok13 _ _ _ (h0.below hwr)).mono ?_
        rintro e w2 ⟨rfl, hb2⟩
        rw [hg]
        go_wp2_with fail
        go_ret
        have hk0 : k = 0 := by
          rcases Nat.eq_zero_or_pos k with h | h
          · exact h
          · have := (Hpos.out h).out; rw [hg] at this; cases this
        subst hk0
        have hm0 : m = 0 := by omega
        subst hm0
        exact ⟨ret_i64 (by rw [Hd0.out (.inr hg)]; rfl), below_trans hwr hb2⟩
      · have hV := Valid_ok13 _ _ wr (h0.below hwr)
        rw [hg] at hV
        have Hg := Lib.hid hg; clear hg
        have HV := Lib.hid hV; clear hV
        obtain ⟨b, o, rfl, _, hc⟩ := hcl k hlt'
        obtain ⟨x, hx⟩ := get_of_lt hlt'
        have hcount := countP_snoc (p := fun x => touchB x d) hx
        rw [← Hm.out] at hcount
        have Hc := Lib.hid hcount; clear hcount
        have hl1 : (k : Int) < (g.links.length : Int) := by omega
        have hl0 : (0 : Int) ≤ (k : Int) := by omega
        go_wp2_with fail
        refine HV.out.mono ?_
        rintro e w2 ⟨rfl, hb2⟩
        have hbw2 := below_trans hwr hb2
        obtain ⟨c0, c1', c2'⟩ := hc w2 hbw2 k x hx
        have Hx := Lib.hid hx; clear hx hc
        have p0 := Later.cell_all (cell_later hb2 n0); have p1 := Later.cell_all (cell_later hb2 n1); have p2 := Later.cell_all (cell_later hb2 n2); have p3 := Later.cell_all (cell_later hb2 n3); have p4 := Later.cell_all (cell_later hb2 n4)
        have y0 := Later.cell_all c0; have y1 := Later.cell_all c1'; have y2 := Later.cell_all c2'
        clear n0 n1 n2 n3 n4 c0 c1' c2'
        have hbW := hb.trans (hb2.mono hb.size)
        cases ht : touchB x d
        · go_wp2_with fail
          refine wp_region_later (by kernel_rfl) (by kernel_rfl) ?_
          repeat (go_big_quiet_step (first | (go_at_call 50; with_reducible exact calls_later (Touches_is (x := x) (d := d) ht _))))
          refine wpQuiet_nil ?_
          intro _ hw'
          obtain ⟨xq, hw''⟩ := hw'
          subst hw''
          go_wp2_with fail
          refine ⟨?rel, ?measure⟩
          case rel => exact ⟨k + 1, m, by omega, rfl, by go_num, by omega, fun _ => by first | exact Hg | exact Lib.hid trivial, by rw [Hc.out, ht]; simp, hbW.trans (xq.h.mono hbW.size)⟩
          case measure => simp [intOf]; omega
        · go_wp2_with fail
          refine wp_region_later (by kernel_rfl) (by kernel_rfl) ?_
          repeat (go_big_quiet_step (first | (go_at_call 50; with_reducible exact calls_later (Touches_is (x := x) (d := d) ht _))))
          refine wpQuiet_nil ?_
          intro _ hw'
          obtain ⟨xq, hw''⟩ := hw'
          subst hw''
          go_wp2_with fail
          refine ⟨?rel, ?measure⟩
          case rel => exact ⟨k + 1, m + 1, by omega, by go_num, by go_num, by omega, fun _ => by first | exact Hg | exact Lib.hid trivial, by rw [Hc.out, ht]; simp, hbW.trans (xq.h.mono hbW.size)⟩
          case measure => simp [intOf]; omega
    · have dl : decide ((k : Int) < (g.links.length : Int)) = false := by simp; omega
      have e1 : g.links.take k = g.links := List.take_of_length_le (by omega)
      rw [e1] at Hm
      go_wp2_with fail
      go_ret
      refine ⟨ret_i64 ?_, hwr⟩
      rcases Nat.eq_zero_or_pos k with hk0 | hk0
      · have hm0 : m = 0 := by omega
        subst hm0
        rw [Hd0.out (.inl (by omega))]
        rfl
      · rw [Hd.out (Hpos.out hk0).out, ← Hm.out]
end Go.Proofs.Ytifgpmhkdnmhlaa
