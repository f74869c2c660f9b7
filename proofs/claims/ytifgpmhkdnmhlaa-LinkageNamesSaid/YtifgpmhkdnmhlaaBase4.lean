/- coinagebase.Graphs and Lists compare graphs and lists of lists. Condition: the arguments read as such. -/
import Derived.Test.YtifgpmhkdnmhlaaLib2
namespace Go.Proofs.Ytifgpmhkdnmhlaa
open Go.RowKit

set_option maxHeartbeats 1000000 in
theorem Graphs_ok (v u : Value) (g h : Graph) (w : World) (hg : GraphAt w v g) (hh : GraphAt w u h) :
    Calls Try.prog 15 #[v, u] w fun e w' => e = .returned (.bool (decide (g = h))) ∧ Below w.heap.size w w' := by
  obtain ⟨v1, v2, v3, rfl, ho, hr, hl⟩ := hg
  obtain ⟨u1, u2, u3, rfl, ho', hr', hl'⟩ := hh
  obtain ⟨W0, hW0, Hz0, hwW0, hlt0, hc0⟩ := boxed w #[v1, v2, v3] 27
  obtain ⟨W, hW, Hz, hWW, hlt, hc1⟩ := boxed W0 #[u1, u2, u3] 27
  have hwW := below_trans hwW0 hWW
  have a0 := Later.cell_all (cell_later hWW (hc0 0 _ rfl)); have a1 := Later.cell_all (cell_later hWW (hc0 1 _ rfl)); have a2 := Later.cell_all (cell_later hWW (hc0 2 _ rfl))
  have b0 := Later.cell_all (hc1 0 _ rfl); have b1 := Later.cell_all (hc1 1 _ rfl); have b2 := Later.cell_all (hc1 2 _ rfl)
  clear hc0 hc1
  obtain ⟨x0, e0⟩ := later (Below.refl W.heap.size W)
  have hs0 : W0.heap.size = w.heap.size + 1 := Hz0.out
  have hW' : (w.alloc (.cells #[v1, v2, v3] 27)).alloc (.cells #[u1, u2, u3] 27) = x0.to := by rw [hW0, hW]; exact e0
  rw [hs0] at b0 b1 b2
  clear hW hs0 hW0
  have hB : ∀ x : Later W, Below w.heap.size w x.to := fun x => below_trans hwW x.h
  have key : ∀ p : Prop, [Decidable p] → ∀ b : Bool, (b = true ↔ p) → Ending.returned (.bool b) = .returned (.bool (decide p)) := fun p _ b hb => ret_bool (by rw [Bool.eq_iff_iff, hb]; simp)
  have Key := Lib.hid key; clear key
  go_enter Try.func15, Try.ntmps15
  go_wp2_with fail
  refine (baseInts_ok _ _ _ _ _ (ho.below (hB x0)) (ho'.below (hB x0))).mono ?_
  rintro e w' ⟨rfl, hb⟩
  obtain ⟨x1, rfl⟩ := later (below_trans x0.h hb)
  by_cases q1 : g.obv = h.obv
  case neg =>
    have d1 : decide (g.obv = h.obv) = false := by simpa using q1
    have Q := Lib.hid q1; clear q1
    go_wp2_with fail
    go_ret
    exact ⟨ret_bool (by simp; exact fun e => Q.out (by rw [e])), hB x1⟩
  have d1 : decide (g.obv = h.obv) = true := by simpa using q1
  have Q1 := Lib.hid q1; clear q1
  go_wp2_with fail
  refine (baseInts_ok _ _ _ _ _ (hr.below (hB x1)) (hr'.below (hB x1))).mono ?_
  rintro e w' ⟨rfl, hb⟩
  obtain ⟨x2, rfl⟩ := later (below_trans x1.h hb)
  by_cases q2 : g.rev = h.rev
  case neg =>
    have d2 : decide (g.rev = h.rev) = false := by simpa using q2
    have Q := Lib.hid q2; clear q2
    go_wp2_with fail
    go_ret
    exact ⟨ret_bool (by simp; exact fun e => Q.out (by rw [e])), hB x2⟩
  have d2 : decide (g.rev = h.rev) = true := by simpa using q2
  have Q2 := Lib.hid q2; clear q2
  go_wp2_with fail
  refine (baseLinks_ok _ _ _ _ _ (hl.below (hB x2)) (hl'.below (hB x2))).mono ?_
  rintro e w' ⟨rfl, hb⟩
  obtain ⟨x3, rfl⟩ := later (below_trans x2.h hb)
  go_wp2_with fail
  go_ret
  refine ⟨ret_bool ?_, hB x3⟩
  have := Q1.out; have := Q2.out
  cases g; cases h; simp_all

set_option maxHeartbeats 1000000 in
theorem Lists_ok (v u : Value) (xs ys : List (List Int)) (w : World) (h : Rows w v xs) (h' : Rows w u ys) :
    Calls Try.prog 35 #[v, u] w fun e w' => e = .returned (.bool (decide (xs = ys))) ∧ Below w.heap.size w w' := by
  obtain ⟨A, c, rfl, h1, h2, hc⟩ := h.cells
  obtain ⟨A', c', rfl, h1', h2', hc'⟩ := h'.cells
  by_cases hne : xs.length = ys.length
  · have hne' : ((xs.length : Int) != (ys.length : Int)) = false := by simp; omega
    have Hne := Lib.hid hne; clear hne
    go_enter Try.func35, Try.ntmps35
    go_wp2
    go_loopw [5] (fun i wr => ∃ k : Nat, k ≤ xs.length ∧ i = .int .i64 k ∧ xs.take k = ys.take k ∧ Below w.heap.size w wr) (fun i _ => xs.length - (intOf i).toNat)
    case atStart => exact ⟨0, Nat.zero_le _, rfl, by simp, Below.refl _ _⟩
    case round =>
      obtain ⟨k, hk, rfl, hr, hb⟩ := hrel
      have Hr := Lib.hid hr; clear hr
      by_cases hlt : k < xs.length
      · have hlt' : k < ys.length := by have := Hne.out; omega
        obtain ⟨b, o, rfl, _, hc⟩ := hc k hlt
        obtain ⟨b', o', rfl, _, hc'⟩ := hc' k hlt'
        obtain ⟨x, hx⟩ := get_of_lt hlt
        obtain ⟨y, hy⟩ := get_of_lt hlt'
        obtain ⟨A1, c1, i1, _, _, m1⟩ := hc k x hx
        obtain ⟨A2, c2, i2, _, _, m2⟩ := hc' k y hy
        have f1 := Later.cell_all (m1 wr hb)
        have f2 := Later.cell_all (m2 wr hb)
        have HB : ∀ z : Later wr, Below w.heap.size w z.to := fun z => below_trans hb z.h
        have Hx := Lib.hid hx; clear hx hc m1
        have Hy := Lib.hid hy; clear hy hc' m2
        have hl1 : (k : Int) < (xs.length : Int) := by omega
        have hl2 : (k : Int) < (ys.length : Int) := by omega
        have hl0 : (0 : Int) ≤ (k : Int) := by omega
        by_cases hxy : x = y
        · have hd : decide (x = y) = true := by simpa using hxy
          have Hxy := Lib.hid hxy; clear hxy
          go_wp2
          refine wp_region_later (by kernel_rfl) (by kernel_rfl) ?_
          repeat (go_big_quiet_step (first | (go_at_call 37; with_reducible exact calls_later (baseInts_ok _ _ _ _ _ (i1.below (HB _)) (i2.below (HB _))))))
          refine wpQuiet_nil ?_
          intro _ hw'
          obtain ⟨xq, hw''⟩ := hw'
          subst hw''
          go_wp2
          refine ⟨?rel, ?measure⟩
          case rel => exact ⟨k + 1, by omega, by go_num, eq_snoc Hx.out Hy.out Hr.out Hxy.out, HB xq⟩
          case measure => simp [intOf]; omega
        · have hd : decide (x = y) = false := by simpa using hxy
          have Hxy := Lib.hid hxy; clear hxy
          go_wp2
          refine wp_region_later (by kernel_rfl) (by kernel_rfl) ?_
          repeat (go_big_quiet_step (first | (go_at_call 37; with_reducible exact calls_later (baseInts_ok _ _ _ _ _ (i1.below (HB _)) (i2.below (HB _))))))
          refine wpQuiet_nil ?_
          intro _ hw'
          obtain ⟨xq, hw''⟩ := hw'
          subst hw''
          go_wp2
          go_ret
          exact ⟨ret_bool (by simpa using ne_at Hx.out Hy.out Hxy.out), HB xq⟩
      · go_wp2
        go_ret
        exact ⟨ret_bool (by simpa using eq_end Hne.out hlt Hr.out), hb⟩
  · have hne' : ((xs.length : Int) != (ys.length : Int)) = true := by simp; omega
    have Hne := Lib.hid hne; clear hne
    go_enter Try.func35, Try.ntmps35
    go_wp2
    go_ret
    exact ⟨ret_bool (by simp; exact fun e => Hne.out (by rw [e])), Below.refl _ _⟩
end Go.Proofs.Ytifgpmhkdnmhlaa
