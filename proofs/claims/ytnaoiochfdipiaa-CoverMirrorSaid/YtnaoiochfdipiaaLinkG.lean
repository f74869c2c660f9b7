/- linkage.end and Degree. Condition: the argument reads as a graph. -/
import Derived.Test.YtnaoiochfdipiaaLinkF
namespace Go.Proofs.Ytnaoiochfdipiaa
open Go.RowKit Go.Shelf

def endI (x : Link) (side : Int) : Int := if side = 0 then x.obv else x.rev
set_option maxHeartbeats 1000000 in
theorem end_ok (x : Link) (s : Int) (w : World) : Calls Try.prog 62 #[.agg #[.int .i64 x.id, .int .i64 x.obv, .int .i64 x.rev], .int .i64 s] w fun e w' => e = .returned (.int .i64 (endI x s)) ∧ Below w.heap.size w w' := by
  by_cases hs : s = 0
  · have hd : (s == 0) = true := by simp [hs]
    have He : Hid (endI x s = x.obv) := by show _ = _; rw [endI, if_pos hs]
    clear hs
    go_enter Try.func62, Try.ntmps62
    go_wp2
    go_ret
    exact ⟨ret_i64 He.out.symm, (Below.refl _ _).alloc (Nat.le_refl _) _⟩
  · have hd : (s == 0) = false := by simp [hs]
    have He : Hid (endI x s = x.rev) := by show _ = _; rw [endI, if_neg hs]
    clear hs
    go_enter Try.func62, Try.ntmps62
    go_wp2
    go_ret
    exact ⟨ret_i64 He.out.symm, (Below.refl _ _).alloc (Nat.le_refl _) _⟩

/-- The number of links of a die. -/
def degI (g : Graph) (d : Die) : Int := if graphB g = true then (g.links.countP (fun x => touchB x d) : Nat) else 0
theorem touch_end {x : Link} {d : Die} (h : d.side = 0 ∨ d.side = 1) : touchB x d = (endI x d.side == d.num) := by
  unfold touchB endI
  rcases h with h | h <;> simp [h]
theorem touch_none {x : Link} {d : Die} (h : ¬ (d.side = 0 ∨ d.side = 1)) : touchB x d = false := by
  unfold touchB
  simp only [not_or] at h
  simp [h.1, h.2]
theorem countP_snoc {α : Type} {p : α → Bool} {l : List α} {k : Nat} {x : α} (hx : l[k]? = some x) : (l.take (k + 1)).countP p = (l.take k).countP p + (if p x = true then 1 else 0) := by
  rw [take_snoc' hx, List.countP_append, List.countP_singleton]

set_option maxHeartbeats 2000000 in
theorem Degree_ok (v : Value) (g : Graph) (d : Die) (w : World) (h : GraphAt w v g) :
    Calls Try.prog 61 #[v, .agg #[.int .i64 d.side, .int .i64 d.num]] w fun e w' => e = .returned (.int .i64 (degI g d)) ∧ Below w.heap.size w w' := by
  have h0 := h
  obtain ⟨v1, v2, v3, rfl, ho, hr, hl⟩ := h
  obtain ⟨A1, c1, rfl, _, _, _⟩ := ho.cells
  obtain ⟨A2, c2, rfl, _, _, _⟩ := hr.cells
  obtain ⟨A3, c3, rfl, l1, l2, hcl⟩ := hl.cells
  obtain ⟨W0, hW0, Hz0, hwW0, hlt0, hc0⟩ := boxed w #[.slice A1 g.obv.length c1, .slice A2 g.rev.length c2, .slice A3 g.links.length c3] 25
  obtain ⟨W, hW, Hz, hWW, hlt, hc1⟩ := boxed W0 #[.int .i64 d.side, .int .i64 d.num] 46
  have hwW := below_trans hwW0 hWW
  have a0 := cell_later hWW (hc0 0 _ rfl); have a1 := cell_later hWW (hc0 1 _ rfl); have a2 := cell_later hWW (hc0 2 _ rfl)
  have b0 := hc1 0 _ rfl; have b1 := hc1 1 _ rfl
  clear hc0 hc1
  rw [Hz0.out] at b0 b1
  have hW' : (w.alloc (.cells #[.slice A1 g.obv.length c1, .slice A2 g.rev.length c2, .slice A3 g.links.length c3] 25)).alloc (.cells #[.int .i64 d.side, .int .i64 d.num] 46) = W := by rw [hW0, hW]
  clear hW0 hW
  go_enter Try.func61, Try.ntmps61
  go_wp2_with fail
  refine (Valid_ok _ _ _ (h0.below hwW)).mono ?_
  rintro e w1 ⟨rfl, hb1⟩
  clear hW'
  have a0' := cell_later hb1 a0; have a1' := cell_later hb1 a1; have a2' := cell_later hb1 a2; have b0' := cell_later hb1 b0; have b1' := cell_later hb1 b1
  have hw1 := below_trans hwW hb1
  clear a0 a1 a2 b0 b1
  cases hg : graphB g
  · go_wp2_with fail
    go_ret
    exact ⟨ret_i64 (by simp [degI, hg]), hw1⟩
  by_cases hs : d.side = 0 ∨ d.side = 1
  case neg =>
    have e0 : (d.side != 0) = true := by simp; exact fun e => hs (.inl e)
    have e1 : (d.side != 1) = true := by simp; exact fun e => hs (.inr e)
    have hz : degI g d = 0 := by
      simp only [degI, hg, if_true]
      have : g.links.countP (fun x => touchB x d) = 0 := by simp [touch_none hs]
      rw [this]; rfl
    have Hz := Lib.hid hz; clear hz hs
    go_wp2_with fail
    go_ret
    exact ⟨ret_i64 Hz.out.symm, hw1⟩
  have htest : ((d.side != 0) = false) ∨ ((d.side != 0) = true ∧ (d.side != 1) = false) := by
    rcases hs with h | h
    · exact .inl (by simp [h])
    · exact .inr ⟨by simp [h], by simp [h]⟩
  have Ht : ∀ x : Link, touchB x d = (endI x d.side == d.num) := fun x => touch_end hs
  have HT := Lib.hid Ht
  have hdeg : degI g d = (g.links.countP (fun x => touchB x d) : Nat) := by simp [degI, hg]
  have Hdeg := Lib.hid hdeg; clear hdeg Ht hs
  have key : ∀ (K : Prop), ((d.side != 0) = false → K) → ((d.side != 0) = true → (d.side != 1) = false → K) → K := fun K k1 k2 => htest.elim k1 fun h => k2 h.1 h.2
  refine key _ (fun e0 => ?_) (fun e0 e1 => ?_)
  all_goals
    clear key htest
    go_wp2_with fail
    go_loopw [5, 24] (fun n i wr => ∃ k m : Nat, k ≤ g.links.length ∧ n = .int .i64 m ∧ i = .int .i64 k ∧ m ≤ k ∧ m = (g.links.take k).countP (fun x => touchB x d) ∧ Below w1.heap.size w1 wr) (fun _ i _ => g.links.length - (intOf i).toNat)
    case atStart => exact ⟨0, 0, Nat.zero_le _, rfl, rfl, Nat.le_refl _, by simp, Below.refl _ _⟩
    case round =>
      obtain ⟨k, m, hk, rfl, rfl, hmk, hm, hb⟩ := hrel
      have Hm := Lib.hid hm; clear hm
      by_cases hlt' : k < g.links.length
      · obtain ⟨b, o, rfl, _, hc⟩ := hcl k hlt'
        obtain ⟨x, hx⟩ := get_of_lt hlt'
        obtain ⟨c0, c1', c2'⟩ := hc wr (hw1.trans (hb.mono hw1.size)) k x hx
        have Hx := Lib.hid hx; clear hx hc
        obtain ⟨W1, hW1, Hz1, hb2, hlt1, hc1⟩ := boxed wr #[.int .i64 x.id, .int .i64 x.obv, .int .i64 x.rev] 32
        have m0 := Later.cell_all (hc1 0 _ rfl); have m1 := Later.cell_all (hc1 1 _ rfl); have m2 := Later.cell_all (hc1 2 _ rfl)
        have n0 := Later.cell_all (cell_later hb2 (cell_later hb b0')); have n1 := Later.cell_all (cell_later hb2 (cell_later hb b1'))
        clear hc1
        have hcount := countP_snoc (p := fun x => touchB x d) Hx.out
        rw [← Hm.out, HT.out x] at hcount
        have Hc := Lib.hid hcount; clear hcount
        cases ht : (endI x d.side == d.num)
        · go_wp2
          refine wp_region_later (by kernel_rfl) (by kernel_rfl) ?_
          repeat (go_big_quiet_step (first | (go_at_call 62; with_reducible exact calls_later (end_ok _ _ _))))
          refine wpQuiet_nil ?_
          intro _ hw'
          obtain ⟨xq, hw''⟩ := hw'
          subst hw''
          go_wp2
          refine ⟨?rel, ?measure⟩
          case rel => exact ⟨k + 1, m, by omega, rfl, by go_num, by omega, by rw [Hc.out, ht]; simp, hb.trans ((below_trans hb2 xq.h).mono hb.size)⟩
          case measure => simp [intOf]; omega
        · go_wp2
          refine wp_region_later (by kernel_rfl) (by kernel_rfl) ?_
          repeat (go_big_quiet_step (first | (go_at_call 62; with_reducible exact calls_later (end_ok _ _ _))))
          refine wpQuiet_nil ?_
          intro _ hw'
          obtain ⟨xq, hw''⟩ := hw'
          subst hw''
          go_wp2
          refine ⟨?rel, ?measure⟩
          case rel => exact ⟨k + 1, m + 1, by omega, by go_num, by go_num, by omega, by rw [Hc.out, ht]; simp, hb.trans ((below_trans hb2 xq.h).mono hb.size)⟩
          case measure => simp [intOf]; omega
      · have e1 : g.links.take k = g.links := List.take_of_length_le (by omega)
        rw [e1] at Hm
        go_wp2
        go_ret
        exact ⟨ret_i64 (by rw [Hdeg.out, ← Hm.out]), hw1.trans (hb.mono hw1.size)⟩
end Go.Proofs.Ytnaoiochfdipiaa
