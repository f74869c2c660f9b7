/- slices.Index and Contains at pairs and dies, byDie. No condition but that the slices read as lists. -/
import Derived.Test.YtnaoiochfdipiaaCovE
import Derived.Test.YtnaoiochfdipiaaDelL
import Derived.Test.YtnaoiochfdipiaaPairA
namespace Go.Proofs.Ytnaoiochfdipiaa
open Go.RowKit Go.Shelf Go.Maps

theorem firstI_mem {α : Type} [DecidableEq α] (y : α) (xs : List α) : decide (0 ≤ firstI (fun z => decide (z = y)) xs) = decide (y ∈ xs) := by
  by_cases h : xs.all (fun x => !(fun z => decide (z = y)) x) = true
  · rw [firstI_miss h, decide_eq_false (by omega), decide_eq_false]
    intro hm
    have := List.all_eq_true.1 h y hm
    simp at this
  · obtain ⟨i, x, h1, h2, h3⟩ := first_hit h
    rw [firstI_hit h1 h2 h3, decide_eq_true (by omega), decide_eq_true]
    simp only [decide_eq_true_eq] at h3
    rw [← h3]
    exact List.mem_of_getElem? h1
set_option maxHeartbeats 2000000 in
set_option maxRecDepth 100000 in
theorem indexP_ok (v : Value) (xs : List Pair) (y : Pair) (w : World) (h : Pairs w v xs) :
    Calls Try.prog 56 #[v, valP y] w fun e w' => e = .returned (.int .i64 (firstI (fun z => decide (z = y)) xs)) ∧ Below w.heap.size w w' := by
  obtain ⟨A, c, rfl, _, _, hc⟩ := h.cells
  obtain ⟨W, hW, Hz, hwW, hlt0, hc1⟩ := boxed w #[.int .i64 y.a, .int .i64 y.b] 48
  have b0 := hc1 0 _ rfl; have b1 := hc1 1 _ rfl
  clear hc1
  go_enter Try.func56, Try.ntmps56
  go_wp2_with fail
  clear hW
  go_loopw [8] (fun i wr => ∃ k : Nat, k ≤ xs.length ∧ i = .int .i64 k ∧ Hid ((xs.take k).all (fun x => !decide (x = y)) = true) ∧ Below W.heap.size W wr) (fun i _ => xs.length - (intOf i).toNat)
  case atStart => exact ⟨0, Nat.zero_le _, rfl, by show _ = _; simp, Below.refl _ _⟩
  case round =>
    obtain ⟨k, hk, rfl, Hr, hb⟩ := hrel
    by_cases hlt : k < xs.length
    · obtain ⟨b, o, rfl, _, hcb⟩ := hc k hlt
      obtain ⟨x, hx⟩ := get_of_lt hlt
      have hw := below_trans hwW hb
      obtain ⟨e0, e1⟩ := hcb wr hw k x hx
      have m0 := Later.cell_all e0; have m1 := Later.cell_all e1
      have n0 := Later.cell_all (cell_later hb b0); have n1 := Later.cell_all (cell_later hb b1)
      have hl1 : (k : Int) < (xs.length : Int) := by omega
      have hl0 : (0 : Int) ≤ (k : Int) := by omega
      have Hx := Lib.hid hx; clear hx hc hcb e0 e1
      by_cases h1 : y.a = x.a
      · have d1 : (y.a = x.a) = True := eq_true h1
        by_cases h2 : y.b = x.b
        · have d2 : (y.b = x.b) = True := eq_true h2
          have hp := firstI_hit (p := fun z => decide (z = y)) Hx.out Hr.out (by cases x; cases y; simp_all)
          have Hp := Lib.hid hp; clear hp h1 h2
          go_wp2_with fail
          refine wp_region_later (by kernel_rfl) (by kernel_rfl) ?_
          repeat (go_big_quiet_step (first | fail))
          refine wpQuiet_nil ?_
          intro _ hw'
          obtain ⟨xq, hw''⟩ := hw'
          subst hw''
          have hba := xq.h
          generalize xq.to = wa at hba ⊢
          clear m0 m1 n0 n1
          have hb' := below_trans hb hba
          go_wp2_with fail
          go_ret
          exact ⟨ret_i64 Hp.out.symm, below_trans hwW hb'⟩
        · have d2 : (y.b = x.b) = False := eq_false h2
          have hn := all_snoc (p := fun z => !decide (z = y)) Hx.out Hr.out (by simp; intro e; subst e; exact h2 rfl)
          have Hn := Lib.hid hn; clear hn h1 h2
          go_wp2_with fail
          refine wp_region_later (by kernel_rfl) (by kernel_rfl) ?_
          repeat (go_big_quiet_step (first | fail))
          refine wpQuiet_nil ?_
          intro _ hw'
          obtain ⟨xq, hw''⟩ := hw'
          subst hw''
          have hba := xq.h
          generalize xq.to = wa at hba ⊢
          clear m0 m1 n0 n1
          have hb' := below_trans hb hba
          go_wp2_with fail
          refine ⟨?rel, ?measure⟩
          case rel => exact ⟨k + 1, by omega, by go_num, Hn.out, hb'⟩
          case measure => first | (simp [intOf]; done) | (simp [intOf]; omega)
      · have d1 : (y.a = x.a) = False := eq_false h1
        have hn := all_snoc (p := fun z => !decide (z = y)) Hx.out Hr.out (by simp; intro e; subst e; exact h1 rfl)
        have Hn := Lib.hid hn; clear hn h1
        go_wp2_with fail
        refine wp_region_later (by kernel_rfl) (by kernel_rfl) ?_
        repeat (go_big_quiet_step (first | fail))
        refine wpQuiet_nil ?_
        intro _ hw'
        obtain ⟨xq, hw''⟩ := hw'
        subst hw''
        have hba := xq.h
        generalize xq.to = wa at hba ⊢
        clear m0 m1 n0 n1
        have hb' := below_trans hb hba
        go_wp2_with fail
        refine ⟨?rel, ?measure⟩
        case rel => exact ⟨k + 1, by omega, by go_num, Hn.out, hb'⟩
        case measure => first | (simp [intOf]; done) | (simp [intOf]; omega)
    · have Hm : Hid (firstI (fun z => decide (z = y)) xs = -1) := firstI_miss (all_end hlt Hr.out)
      go_wp2_with fail
      go_ret
      exact ⟨ret_i64 Hm.out.symm, below_trans hwW hb⟩
theorem containsP_ok (v : Value) (xs : List Pair) (y : Pair) (w : World) (h : Pairs w v xs) :
    Calls Try.prog 38 #[v, valP y] w fun e w' => e = .returned (.bool (decide (y ∈ xs))) ∧ Below w.heap.size w w' := by
  obtain ⟨W, hW, Hz, hwW, hlt0, hc1⟩ := boxed w #[.int .i64 y.a, .int .i64 y.b] 48
  have b0 := hc1 0 _ rfl; have b1 := hc1 1 _ rfl
  clear hc1
  have HC := Lib.hid (indexP_ok v xs y W (h.below hwW))
  obtain ⟨R, hR⟩ : ∃ R, firstI (fun z => decide (z = y)) xs = R := ⟨_, rfl⟩
  have hd : decide (0 ≤ R) = decide (y ∈ xs) := by rw [← hR]; exact firstI_mem y xs
  rw [hR] at HC
  clear hR
  generalize decide (y ∈ xs) = D at hd ⊢
  have Hd := Lib.hid hd; clear hd
  go_enter Try.func38, Try.ntmps38
  go_wp2_with fail
  clear hW
  refine HC.out.mono ?_
  rintro e w1 ⟨rfl, hb1⟩
  go_wp2_with fail
  go_ret
  exact ⟨by rw [← Hd.out]; rfl, below_trans hwW hb1⟩
set_option maxHeartbeats 2000000 in
set_option maxRecDepth 100000 in
theorem indexD_ok (v : Value) (xs : List Die) (y : Die) (w : World) (h : Dies w v xs) :
    Calls Try.prog 50 #[v, valD y] w fun e w' => e = .returned (.int .i64 (firstI (fun z => decide (z = y)) xs)) ∧ Below w.heap.size w w' := by
  obtain ⟨A, c, rfl, _, _, hc⟩ := h.cells
  obtain ⟨W, hW, Hz, hwW, hlt0, hc1⟩ := boxed w #[.int .i64 y.side, .int .i64 y.num] 46
  have b0 := hc1 0 _ rfl; have b1 := hc1 1 _ rfl
  clear hc1
  go_enter Try.func50, Try.ntmps50
  go_wp2_with fail
  clear hW
  go_loopw [8] (fun i wr => ∃ k : Nat, k ≤ xs.length ∧ i = .int .i64 k ∧ Hid ((xs.take k).all (fun x => !decide (x = y)) = true) ∧ Below W.heap.size W wr) (fun i _ => xs.length - (intOf i).toNat)
  case atStart => exact ⟨0, Nat.zero_le _, rfl, by show _ = _; simp, Below.refl _ _⟩
  case round =>
    obtain ⟨k, hk, rfl, Hr, hb⟩ := hrel
    by_cases hlt : k < xs.length
    · obtain ⟨b, o, rfl, _, hcb⟩ := hc k hlt
      obtain ⟨x, hx⟩ := get_of_lt hlt
      have hw := below_trans hwW hb
      obtain ⟨e0, e1⟩ := hcb wr hw k x hx
      have m0 := Later.cell_all e0; have m1 := Later.cell_all e1
      have n0 := Later.cell_all (cell_later hb b0); have n1 := Later.cell_all (cell_later hb b1)
      have hl1 : (k : Int) < (xs.length : Int) := by omega
      have hl0 : (0 : Int) ≤ (k : Int) := by omega
      have Hx := Lib.hid hx; clear hx hc hcb e0 e1
      by_cases h1 : y.side = x.side
      · have d1 : (y.side = x.side) = True := eq_true h1
        by_cases h2 : y.num = x.num
        · have d2 : (y.num = x.num) = True := eq_true h2
          have hp := firstI_hit (p := fun z => decide (z = y)) Hx.out Hr.out (by cases x; cases y; simp_all)
          have Hp := Lib.hid hp; clear hp h1 h2
          go_wp2_with fail
          refine wp_region_later (by kernel_rfl) (by kernel_rfl) ?_
          repeat (go_big_quiet_step (first | fail))
          refine wpQuiet_nil ?_
          intro _ hw'
          obtain ⟨xq, hw''⟩ := hw'
          subst hw''
          have hba := xq.h
          generalize xq.to = wa at hba ⊢
          clear m0 m1 n0 n1
          have hb' := below_trans hb hba
          go_wp2_with fail
          go_ret
          exact ⟨ret_i64 Hp.out.symm, below_trans hwW hb'⟩
        · have d2 : (y.num = x.num) = False := eq_false h2
          have hn := all_snoc (p := fun z => !decide (z = y)) Hx.out Hr.out (by simp; intro e; subst e; exact h2 rfl)
          have Hn := Lib.hid hn; clear hn h1 h2
          go_wp2_with fail
          refine wp_region_later (by kernel_rfl) (by kernel_rfl) ?_
          repeat (go_big_quiet_step (first | fail))
          refine wpQuiet_nil ?_
          intro _ hw'
          obtain ⟨xq, hw''⟩ := hw'
          subst hw''
          have hba := xq.h
          generalize xq.to = wa at hba ⊢
          clear m0 m1 n0 n1
          have hb' := below_trans hb hba
          go_wp2_with fail
          refine ⟨?rel, ?measure⟩
          case rel => exact ⟨k + 1, by omega, by go_num, Hn.out, hb'⟩
          case measure => first | (simp [intOf]; done) | (simp [intOf]; omega)
      · have d1 : (y.side = x.side) = False := eq_false h1
        have hn := all_snoc (p := fun z => !decide (z = y)) Hx.out Hr.out (by simp; intro e; subst e; exact h1 rfl)
        have Hn := Lib.hid hn; clear hn h1
        go_wp2_with fail
        refine wp_region_later (by kernel_rfl) (by kernel_rfl) ?_
        repeat (go_big_quiet_step (first | fail))
        refine wpQuiet_nil ?_
        intro _ hw'
        obtain ⟨xq, hw''⟩ := hw'
        subst hw''
        have hba := xq.h
        generalize xq.to = wa at hba ⊢
        clear m0 m1 n0 n1
        have hb' := below_trans hb hba
        go_wp2_with fail
        refine ⟨?rel, ?measure⟩
        case rel => exact ⟨k + 1, by omega, by go_num, Hn.out, hb'⟩
        case measure => first | (simp [intOf]; done) | (simp [intOf]; omega)
    · have Hm : Hid (firstI (fun z => decide (z = y)) xs = -1) := firstI_miss (all_end hlt Hr.out)
      go_wp2_with fail
      go_ret
      exact ⟨ret_i64 Hm.out.symm, below_trans hwW hb⟩
theorem containsD_ok (v : Value) (xs : List Die) (y : Die) (w : World) (h : Dies w v xs) :
    Calls Try.prog 30 #[v, valD y] w fun e w' => e = .returned (.bool (decide (y ∈ xs))) ∧ Below w.heap.size w w' := by
  obtain ⟨W, hW, Hz, hwW, hlt0, hc1⟩ := boxed w #[.int .i64 y.side, .int .i64 y.num] 46
  have b0 := hc1 0 _ rfl; have b1 := hc1 1 _ rfl
  clear hc1
  have HC := Lib.hid (indexD_ok v xs y W (h.below hwW))
  obtain ⟨R, hR⟩ : ∃ R, firstI (fun z => decide (z = y)) xs = R := ⟨_, rfl⟩
  have hd : decide (0 ≤ R) = decide (y ∈ xs) := by rw [← hR]; exact firstI_mem y xs
  rw [hR] at HC
  clear hR
  generalize decide (y ∈ xs) = D at hd ⊢
  have Hd := Lib.hid hd; clear hd
  go_enter Try.func30, Try.ntmps30
  go_wp2_with fail
  clear hW
  refine HC.out.mono ?_
  rintro e w1 ⟨rfl, hb1⟩
  go_wp2_with fail
  go_ret
  exact ⟨by rw [← Hd.out]; rfl, below_trans hwW hb1⟩
end Go.Proofs.Ytnaoiochfdipiaa
/- cover.byDie, IsCover. Condition: the arguments read as a graph and dies. -/
namespace Go.Proofs.Ytnaoiochfdipiaa
open Go.RowKit Go.Shelf Go.Maps

def cmpD (x y : Die) : Int := orI (Lib.compareInt x.side y.side) (Lib.compareInt x.num y.num)
set_option maxHeartbeats 2000000 in
set_option maxRecDepth 100000 in
theorem byDie_ok (x y : Die) (W : World) : Calls Try.prog 31 #[valD x, valD y] W fun e w' => e = .returned (.int .i64 (cmpD x y)) ∧ ∃ q os', w' = Go.Sort.grow (W.drewN q) os' := by
  have hca := fun W' => AnyG.cmp_Compare_int Try.layCmp x.side y.side W'
  have hcb := fun W' => AnyG.cmp_Compare_int Try.layCmp x.num y.num W'
  change ∀ W', Calls Try.prog 52 _ _ _ at hca
  change ∀ W', Calls Try.prog 52 _ _ _ at hcb
  unfold cmpD
  generalize Lib.compareInt x.side y.side = r at hca ⊢
  generalize Lib.compareInt x.num y.num = s at hcb ⊢
  go_enter Try.func31, Try.ntmps31
  go_wp2_with fail
  obtain ⟨W0, hW0, Hz0, hb0, hlt0, hc0⟩ := boxed W #[.int .i64 x.side, .int .i64 x.num] 46
  obtain ⟨W1, hW1, Hz1, hb1, hlt1, hc1⟩ := boxed W0 #[.int .i64 y.side, .int .i64 y.num] 46
  have a0 : W1.drew.cell? _ = _ := cell_later hb1.drew (hc0 0 _ rfl); have a1 : W1.drew.cell? _ = _ := cell_later hb1.drew (hc0 1 _ rfl)
  have b0 : W1.drew.cell? _ = _ := hc1 0 _ rfl; have b1 : W1.drew.cell? _ = _ := hc1 1 _ rfl
  rw [Hz0.out] at b0 b1
  clear hc0 hc1
  have hgrow' : ∃ os', W1 = Go.Sort.grow W os' := ⟨_, by rw [← hW1, ← hW0, Go.Sort.alloc_eq_grow, Go.Sort.alloc_eq_grow, Go.Sort.grow_grow]⟩
  have hgrow := Lib.hid hgrow'; clear hgrow'
  rw [hW0, hW1]
  clear hW0 hW1
  refine wp_region_S 10 (fun w' => w' = W1.drew) (by kernel_rfl) (by decide) ?_
  have hHeld : W1.drew = W1.drew := rfl
  refine wpAnyS_take 0 (.pointer (some ⟨W.heap.size, 0, none⟩)) (by rfl) (by kernel_rfl) (by exact fun _ _ _ h => h) (by rfl) (fun w' hS => by (subst hS; go_simp)) hHeld ?_
  simp only [Act.put]
  refine wpAnyS_take 1 (.int .i64 x.side) (by rfl) (by kernel_rfl) (by exact fun _ _ _ h => h) (by rfl) (fun w' hS => by (subst hS; go_simp)) hHeld ?_
  simp only [Act.put]
  refine wpAnyS_take 2 (.pointer (some ⟨W.heap.size + 1, 0, none⟩)) (by rfl) (by kernel_rfl) (by exact fun _ _ _ h => h) (by rfl) (fun w' hS => by (subst hS; go_simp)) hHeld ?_
  simp only [Act.put]
  refine wpAnyS_take 3 (.int .i64 y.side) (by rfl) (by kernel_rfl) (by exact fun _ _ _ h => h) (by rfl) (fun w' hS => by (subst hS; go_simp)) hHeld ?_
  simp only [Act.put]
  refine wpAnyS_take 5 (.pointer (some ⟨W.heap.size, 1, none⟩)) (by rfl) (by kernel_rfl) (by exact fun _ _ _ h => h) (by rfl) (fun w' hS => by (subst hS; go_simp)) hHeld ?_
  simp only [Act.put]
  refine wpAnyS_take 6 (.int .i64 x.num) (by rfl) (by kernel_rfl) (by exact fun _ _ _ h => h) (by rfl) (fun w' hS => by (subst hS; go_simp)) hHeld ?_
  simp only [Act.put]
  refine wpAnyS_take 7 (.pointer (some ⟨W.heap.size + 1, 1, none⟩)) (by rfl) (by kernel_rfl) (by exact fun _ _ _ h => h) (by rfl) (fun w' hS => by (subst hS; go_simp)) hHeld ?_
  simp only [Act.put]
  refine wpAnyS_take 8 (.int .i64 y.num) (by rfl) (by kernel_rfl) (by exact fun _ _ _ h => h) (by rfl) (fun w' hS => by (subst hS; go_simp)) hHeld ?_
  simp only [Act.put]
  clear hHeld
  refine wpAnyS_one 4 (by kernel_rfl) (by rfl) (by decide) (fun K hK => ?_)
  have HK := Lib.hid hK; clear hK
  rw [if_pos (by rfl)]
  go_simp
  refine (hca _).mono ?_
  rintro e w2 ⟨rfl, rfl⟩
  refine HK.out _ _ rfl ?_
  clear HK
  refine wpAnyS_one 9 (by kernel_rfl) (by rfl) (by decide) (fun K hK => ?_)
  have HK := Lib.hid hK; clear hK
  rw [if_pos (by rfl)]
  go_simp
  refine (hcb _).mono ?_
  rintro e w2 ⟨rfl, rfl⟩
  refine HK.out _ _ rfl ?_
  clear HK
  refine (show tailOf _ _ _ _ _ _ _ _ from ⟨by kernel_rfl, ?_⟩)
  simp only [List.drop_succ_cons, List.drop_zero]
  go_wp2_with fail
  refine (Or_ok _ r s _ (by go_simp) (by go_simp)).mono ?_
  rintro e w3 ⟨rfl, rfl⟩
  go_wp2_with fail
  go_ret
  obtain ⟨os, hq⟩ := hgrow.out
  exact ⟨rfl, 1, _, by rw [hq, Go.Sort.alloc_eq_grow, Go.Sort.grow_grow]; rfl⟩
theorem below_grow (W : World) (q : Nat) (os : Array Obj) : Below W.heap.size W (Go.Sort.grow (W.drewN q) os) :=
  ⟨rfl, rfl, rfl, by simp [Go.Sort.grow, World.drewN], fun k hk => by simp [Go.Sort.grow, World.drewN, Array.getElem?_append_left hk]⟩
theorem byDie_below (x y : Die) (W : World) : Calls Try.prog 31 #[valD x, valD y] W fun e w' => e = .returned (.int .i64 (cmpD x y)) ∧ Below W.heap.size W w' :=
  (byDie_ok x y W).mono fun _ _ ⟨h, q, os, e⟩ => ⟨h, by rw [e]; exact below_grow _ _ _⟩
theorem order_below (x y : Pair) (W : World) : Calls Try.prog 39 #[valP x, valP y] W fun e w' => e = .returned (.int .i64 (cmpP x y)) ∧ Below W.heap.size W w' :=
  (order_ok x y W).mono fun _ _ ⟨h, q, os, e⟩ => ⟨h, by rw [e]; exact below_grow _ _ _⟩
theorem cmpD_neg (x y : Die) : (cmpD x y < 0) = ltD x y := by
  unfold cmpD Lib.compareInt orI ltD
  apply propext
  repeat' split
  all_goals omega
theorem cmpP_neg (x y : Pair) : (cmpP x y < 0) = ltP x y := by
  unfold cmpP Lib.compareInt orI ltP
  apply propext
  repeat' split
  all_goals omega

/-- An element of a list that has the right place and is one of D. -/
def OkAt {α : Type} (D : List α) (lt : α → α → Prop) (l : List α) (j : Nat) : Prop := ∃ d, l[j]? = some d ∧ d ∈ D ∧ ∀ y, 0 < j → l[j - 1]? = some y → lt y d
section
variable {α : Type} {D : List α} {lt : α → α → Prop} {l : List α} {k : Nat} {x : α}
theorem okAt_no (hx : l[k]? = some x) (h : x ∉ D ∨ ∃ y, 0 < k ∧ l[k - 1]? = some y ∧ ¬ lt y x) : ¬ ∀ j < l.length, OkAt D lt l j := fun ha => by
  obtain ⟨d, e, h1, h2⟩ := ha k (lt_of_get hx)
  rw [hx] at e
  cases e
  rcases h with h | ⟨y, h3, h4, h5⟩
  · exact h h1
  · exact h5 (h2 y h3 h4)
theorem okAt_yes (hx : l[k]? = some x) (hm : x ∈ D) (h : k = 0 ∨ ∃ y, l[k - 1]? = some y ∧ lt y x) : OkAt D lt l k := by
  refine ⟨x, hx, hm, fun z h0 hz => ?_⟩
  rcases h with h | ⟨y, h1, h2⟩
  · omega
  · rw [h1] at hz; cases hz; exact h2
theorem okAt_snoc (h : ∀ j < k, OkAt D lt l j) (hk : OkAt D lt l k) : ∀ j < k + 1, OkAt D lt l j := fun j hj => by
  by_cases e : j = k
  · rw [e]; exact hk
  · exact h j (by omega)
theorem okAt_all (hk : ¬ k < l.length) (h : ∀ j < k, OkAt D lt l j) : ∀ j < l.length, OkAt D lt l j := fun j hj => h j (by omega)
theorem mem_snoc {β : Type} {l : List β} {k : Nat} {x : β} {P : β → Prop} (hx : l[k]? = some x) (h : ∀ y ∈ l.take k, P y) (hp : P x) : ∀ y ∈ l.take (k + 1), P y := fun y hy => by
  rw [take_snoc' hx, List.mem_append, List.mem_singleton] at hy
  rcases hy with hy | rfl
  · exact h y hy
  · exact hp
theorem pairwise_consec (tr : ∀ a b c, lt a b → lt b c → lt a c) : ∀ {l : List α}, (∀ j x y, l[j]? = some x → l[j + 1]? = some y → lt x y) → l.Pairwise lt
  | [], _ => List.Pairwise.nil
  | a :: l, h => by
    have ih := pairwise_consec tr (l := l) (fun j x y hx hy => h (j + 1) x y (by simpa using hx) (by simpa using hy))
    refine List.pairwise_cons.2 ⟨fun b hb => ?_, ih⟩
    cases l with
    | nil => cases hb
    | cons c l =>
      have hac := h 0 a c rfl rfl
      rcases List.mem_cons.1 hb with rfl | hb
      · exact hac
      · exact tr _ _ _ hac ((List.pairwise_cons.1 ih).1 b hb)
theorem okAll_iff (tr : ∀ a b c, lt a b → lt b c → lt a c) : (∀ j < l.length, OkAt D lt l j) ↔ (∀ d ∈ l, d ∈ D) ∧ l.Pairwise lt := by
  constructor
  · refine fun h => ⟨fun d hd => ?_, pairwise_consec tr fun j x y hx hy => ?_⟩
    · obtain ⟨i, hi⟩ := List.getElem?_of_mem hd
      obtain ⟨z, e, h1, _⟩ := h i (lt_of_get hi)
      rw [hi] at e; cases e; exact h1
    · obtain ⟨z, e, _, h2⟩ := h (j + 1) (lt_of_get hy)
      rw [hy] at e; cases e
      exact h2 x (by omega) hx
  · rintro ⟨h1, h2⟩ j hj
    obtain ⟨d, hd⟩ := get_of_lt hj
    refine ⟨d, hd, h1 d (List.mem_of_getElem? hd), fun y h0 hy => ?_⟩
    rw [List.pairwise_iff_getElem] at h2
    obtain ⟨i1, e1⟩ := List.getElem?_eq_some_iff.1 hy
    obtain ⟨i2, e2⟩ := List.getElem?_eq_some_iff.1 hd
    rw [← e1, ← e2]
    exact h2 _ _ i1 i2 (by omega)
end
theorem ltD_trans (a b c : Die) (h : ltD a b) (k : ltD b c) : ltD a c := by unfold ltD at *; omega
theorem ltP_trans (a b c : Pair) (h : ltP a b) (k : ltP b c) : ltP a c := by unfold ltP at *; omega
/-- Whether dies are a cover. -/
def IsCovP (g : Graph) (l : List Die) : Prop := graphB g = true ∧ IsCov g l
noncomputable def isCovB (g : Graph) (l : List Die) : Bool := @decide (IsCovP g l) (Classical.propDecidable _)
theorem isCovB_yes {g : Graph} {l : List Die} (h : IsCovP g l) : isCovB g l = true := by unfold isCovB; exact @decide_eq_true _ (Classical.propDecidable _) h
theorem isCovB_no {g : Graph} {l : List Die} (h : ¬ IsCovP g l) : isCovB g l = false := by unfold isCovB; exact @decide_eq_false _ (Classical.propDecidable _) h
theorem diesG_mem {g : Graph} (hg : graphB g = true) (d : Die) : d ∈ diesG g ↔ dieIn g d = true := by
  obtain ⟨s, n⟩ := d
  simp only [diesG, if_pos hg, List.mem_append, List.mem_map, Die.mk.injEq, dieIn, Bool.or_eq_true, Bool.and_eq_true, beq_iff_eq, hasB_iff]
  constructor
  · rintro (⟨x, hx, rfl, rfl⟩ | ⟨x, hx, rfl, rfl⟩)
    · exact .inl ⟨rfl, hx⟩
    · exact .inr ⟨rfl, hx⟩
  · rintro (⟨rfl, hx⟩ | ⟨rfl, hx⟩)
    · exact .inl ⟨n, hx, rfl, rfl⟩
    · exact .inr ⟨n, hx, rfl, rfl⟩
theorem isCov_iff {g : Graph} (hg : graphB g = true) {l : List Die} : IsCovP g l ↔ (∀ j < l.length, OkAt (diesG g) ltD l j) ∧ ∀ x ∈ g.links, (⟨0, x.obv⟩ : Die) ∈ l ∨ (⟨1, x.rev⟩ : Die) ∈ l := by
  rw [okAll_iff ltD_trans]
  constructor
  · rintro ⟨_, h1, h2, h3⟩
    exact ⟨⟨fun d hd => (diesG_mem hg d).2 (h1 d hd), h2⟩, h3⟩
  · rintro ⟨⟨h1, h2⟩, h3⟩
    exact ⟨hg, fun d hd => (diesG_mem hg d).1 (h1 d hd), h2, h3⟩
set_option maxHeartbeats 8000000 in
set_option maxRecDepth 100000 in
theorem IsCover_ok (g : Graph) (v u : Value) (l : List Die) (w : World) (h : GraphAt w v g) (hl : Dies w u l) :
    Calls Try.prog 13 #[v, u] w fun e w' => e = .returned (.bool (isCovB g l)) ∧ Below w.heap.size w w' := by
  have h0 := h
  obtain ⟨v1, v2, v3, rfl, ho, hr, hk⟩ := h
  obtain ⟨A1, c1, rfl, _, _, _⟩ := ho.cells
  obtain ⟨A2, c2, rfl, _, _, _⟩ := hr.cells
  obtain ⟨A3, c3, rfl, _, _, hck⟩ := hk.cells
  obtain ⟨A, c, rfl, _, _, hcl⟩ := hl.cells
  obtain ⟨W, hW, Hz, hwW, hlt0, hc0⟩ := boxed w #[.slice A1 g.obv.length c1, .slice A2 g.rev.length c2, .slice A3 g.links.length c3] 25
  have a0 := hc0 0 _ rfl; have a1 := hc0 1 _ rfl; have a2 := hc0 2 _ rfl
  clear hc0 ho hr hk
  go_enter Try.func13, Try.ntmps13
  go_wp2_with fail
  refine (Dies_ok _ _ _ (h0.below hwW)).mono ?_
  rintro e w1 ⟨ud, rfl, hud, hb1⟩
  clear hW
  have b0 := cell_later hb1 a0; have b1 := cell_later hb1 a1; have b2 := cell_later hb1 a2
  have hw1 := below_trans hwW hb1
  clear a0 a1 a2
  cases hg : graphB g
  · have hv : Hid (validE g = 1) := Lib.hid (by simp [validE, hg])
    have HN : Hid (isCovB g l = false) := Lib.hid (isCovB_no fun hp => by have := hp.1; rw [hg] at this; cases this)
    rw [hv.out]
    go_wp2_with fail
    go_ret
    exact ⟨ret_bool HN.out.symm, hw1⟩
  have hv : Hid (validE g = 0) := Lib.hid (by simp [validE, hg])
  rw [hv.out]
  have HC := Lib.hid (isCov_iff hg (l := l))
  have HM : Hid (∀ (x : Die) (W' : World), Below w1.heap.size w1 W' → Calls Try.prog 30 #[ud, valD x] W' fun e w' => e = .returned (.bool (decide (x ∈ diesG g))) ∧ Below W'.heap.size W' w') := fun x W' hb => containsD_ok ud (diesG g) x W' (hud.below hb)
  have HO : Hid (∀ (x y : Die) (W' : World), Calls Try.prog 31 #[valD x, valD y] W' fun e w' => e = .returned (.int .i64 (cmpD x y)) ∧ Below W'.heap.size W' w') := byDie_below
  clear hg
  go_wp2_with fail
  go_loopw [20] (fun i wr => ∃ k : Nat, k ≤ l.length ∧ i = .int .i64 k ∧ Hid (∀ j < k, OkAt (diesG g) ltD l j) ∧ Below w1.heap.size w1 wr) (fun i _ => l.length - (intOf i).toNat)
  case atStart => exact ⟨0, Nat.zero_le _, rfl, fun j hj => absurd hj (by omega), Below.refl _ _⟩
  case round =>
    obtain ⟨k, hk, rfl, Hall, hb⟩ := hrel
    have hwr := below_trans hw1 hb
    by_cases hlt : k < l.length
    · obtain ⟨b, o, rfl, _, hcb⟩ := hcl k hlt
      obtain ⟨x, hx⟩ := get_of_lt hlt
      obtain ⟨e0, e1⟩ := hcb wr hwr k x hx
      obtain ⟨W1, hW1, Hz1, hb2, hlt1, hc1⟩ := boxed wr #[.int .i64 x.side, .int .i64 x.num] 46
      have m0 := Later.cell_all (hc1 0 _ rfl); have m1 := Later.cell_all (hc1 1 _ rfl)
      have hl1 : (k : Int) < (l.length : Int) := by omega
      have hl0 : (0 : Int) ≤ (k : Int) := by omega
      have hbW := below_trans hb hb2
      have HM' := Lib.hid (fun y : Later W1 => HM.out x y.to (below_trans hbW y.h))
      have HwW := Lib.hid (below_trans hwr hb2)
      clear hc1
      cases hm : decide (x ∈ (diesG g))
      · rw [hm] at HM'
        have Hno := Lib.hid (okAt_no (lt := ltD) hx (.inl (by simpa using hm)))
        clear hm hx hcb hcl
        go_wp2_with fail
        refine wp_region_later (by kernel_rfl) (by kernel_rfl) ?_
        repeat (go_big_quiet_step (first | (go_at_call 30; with_reducible exact calls_later (HM'.out _))))
        refine wpQuiet_nil ?_
        intro _ hw'
        obtain ⟨xq, hw''⟩ := hw'
        subst hw''
        have hba := xq.h
        generalize xq.to = wa at hba ⊢
        go_wp2_with fail
        go_ret
        exact ⟨ret_bool (isCovB_no fun hp => Hno.out ((HC.out).1 hp).1).symm, below_trans HwW.out hba⟩
      rw [hm] at HM'
      have Hmem := Lib.hid (show x ∈ (diesG g) by simpa using hm)
      clear hm
      by_cases hk0 : 0 < k
      · obtain ⟨y, hy⟩ := get_of_lt (show k - 1 < l.length by omega)
        obtain ⟨f0', f1'⟩ := hcb wr hwr (k - 1) y hy
        have f0 := Later.cell_all (cell_later hb2 f0'); have f1 := Later.cell_all (cell_later hb2 f1')
        have d5 : decide ((0 : Int) < (k : Int)) = true := by simp; omega
        have HO' := Lib.hid (fun z : Later W1 => HO.out y x z.to)
        have hc := cmpD_neg y x
        have Hyx := Lib.hid (fun h => okAt_no (D := (diesG g)) (lt := ltD) hx (.inr ⟨y, hk0, hy, h⟩))
        have Hok := Lib.hid (fun h => okAt_yes (D := (diesG g)) (lt := ltD) hx Hmem.out (.inr ⟨y, hy, h⟩))
        rw [← hc] at Hyx Hok
        clear hc hx hy hcb hcl f0' f1'
        generalize cmpD y x = c at HO' Hyx Hok
        by_cases hcc : 0 ≤ c
        · have d6 : decide (0 ≤ c) = true := decide_eq_true hcc
          have Hno := Lib.hid (Hyx.out (by omega))
          clear hcc Hok Hyx
          go_wp2_with fail
          refine wp_region_later (by kernel_rfl) (by kernel_rfl) ?_
          repeat (go_big_quiet_step (first | (go_at_call 30; with_reducible exact calls_later (HM'.out _)) | (go_at_call 31; with_reducible exact calls_later (HO'.out _))))
          refine wpQuiet_nil ?_
          intro _ hw'
          obtain ⟨xq, hw''⟩ := hw'
          subst hw''
          have hba := xq.h
          generalize xq.to = wa at hba ⊢
          go_wp2_with fail
          go_ret
          exact ⟨ret_bool (isCovB_no fun hp => Hno.out ((HC.out).1 hp).1).symm, below_trans HwW.out hba⟩
        · have d6 : decide (0 ≤ c) = false := decide_eq_false hcc
          have Hok' := Lib.hid (Hok.out (by omega))
          clear hcc Hok Hyx
          go_wp2_with fail
          refine wp_region_later (by kernel_rfl) (by kernel_rfl) ?_
          repeat (go_big_quiet_step (first | (go_at_call 30; with_reducible exact calls_later (HM'.out _)) | (go_at_call 31; with_reducible exact calls_later (HO'.out _))))
          refine wpQuiet_nil ?_
          intro _ hw'
          obtain ⟨xq, hw''⟩ := hw'
          subst hw''
          have hba := xq.h
          generalize xq.to = wa at hba ⊢
          go_wp2_with fail
          refine ⟨?rel, ?measure⟩
          case rel => exact ⟨k + 1, by omega, by go_num, okAt_snoc Hall.out Hok'.out, below_trans hbW hba⟩
          case measure => first | (simp [intOf]; done) | (simp [intOf]; omega)
      · have d5 : decide ((0 : Int) < (k : Int)) = false := by simp; omega
        have Hok' := Lib.hid (okAt_yes (lt := ltD) hx Hmem.out (.inl (show k = 0 by omega)))
        clear hx hcb hcl
        go_wp2_with fail
        refine wp_region_later (by kernel_rfl) (by kernel_rfl) ?_
        repeat (go_big_quiet_step (first | (go_at_call 30; with_reducible exact calls_later (HM'.out _))))
        refine wpQuiet_nil ?_
        intro _ hw'
        obtain ⟨xq, hw''⟩ := hw'
        subst hw''
        have hba := xq.h
        generalize xq.to = wa at hba ⊢
        go_wp2_with fail
        refine ⟨?rel, ?measure⟩
        case rel => exact ⟨k + 1, by omega, by go_num, okAt_snoc Hall.out Hok'.out, below_trans hbW hba⟩
        case measure => first | (simp [intOf]; done) | (simp [intOf]; omega)
    · have Hal := Lib.hid (okAt_all hlt Hall.out)
      have d0 := cell_later hb b0; have d1 := cell_later hb b1; have d2 := cell_later hb b2
      clear HM HO Hall hcl
      obtain ⟨wp, hwp⟩ : ∃ z, wr = z := ⟨_, rfl⟩
      subst hwp
      go_wp2_with fail
      go_loopw [47] (fun i wq => ∃ k : Nat, k ≤ g.links.length ∧ i = .int .i64 k ∧ Hid (∀ x ∈ g.links.take k, (⟨0, x.obv⟩ : Die) ∈ l ∨ (⟨1, x.rev⟩ : Die) ∈ l) ∧ Below w.heap.size w wq) (fun i _ => g.links.length - (intOf i).toNat)
      case atStart => exact ⟨0, Nat.zero_le _, rfl, fun x hx => absurd hx (by simp), hwr⟩
      case round =>
        clear hlt hk
        obtain ⟨k, hk, rfl, Hall, hbq⟩ := hrel
        by_cases hlt : k < g.links.length
        · obtain ⟨b, o, rfl, _, hcb⟩ := hck k hlt
          obtain ⟨x, hx⟩ := get_of_lt hlt
          obtain ⟨e0, e1, e2⟩ := hcb _ hbq k x hx
          obtain ⟨W1, hW1, Hz1, hb2, hlt1, hc1⟩ := boxed wr #[.int .i64 x.id, .int .i64 x.obv, .int .i64 x.rev] 32
          have m1 := hc1 1 _ rfl; have m2 := hc1 2 _ rfl
          have hbW := below_trans hbq hb2
          have HC1 := Lib.hid (containsD_ok (.slice A l.length c) l ⟨0, x.obv⟩ W1 (hl.below hbW))
          have hcb' := Lib.hid hcb
          clear hc1 hcb hck
          cases h1 : decide ((⟨0, x.obv⟩ : Die) ∈ l)
          · rw [h1] at HC1
            have hn1 : (⟨0, x.obv⟩ : Die) ∉ l := by simpa using h1
            have Hx := Lib.hid hx; have Hn1 := Lib.hid hn1
            clear hx hn1 h1
            go_wp2_with fail
            refine HC1.out.mono ?_
            rintro e w3 ⟨rfl, hb3⟩
            have hbX := below_trans hbW hb3
            have n2 := cell_later hb3 m2
            have HC2 := Lib.hid (containsD_ok (.slice A l.length c) l ⟨1, x.rev⟩ w3 (hl.below hbX))
            clear m1 m2 HC1
            cases h2 : decide ((⟨1, x.rev⟩ : Die) ∈ l)
            · rw [h2] at HC2
              have HN : Hid (isCovB g l = false) := Lib.hid (isCovB_no fun hp => by
                rcases (HC.out.1 hp).2 x (List.mem_of_getElem? Hx.out) with h | h
                · exact Hn1.out h
                · simp [h] at h2)
              clear h2
              go_wp2_with fail
              refine HC2.out.mono ?_
              rintro e w4 ⟨rfl, hb4⟩
              go_wp2_with fail
              go_ret
              exact ⟨ret_bool HN.out.symm, below_trans hbX hb4⟩
            · rw [h2] at HC2
              have Ha := Lib.hid (mem_snoc (P := fun x : Link => (⟨0, x.obv⟩ : Die) ∈ l ∨ (⟨1, x.rev⟩ : Die) ∈ l) Hx.out Hall.out (.inr (by simpa using h2)))
              clear h2
              go_wp2_with fail
              refine HC2.out.mono ?_
              rintro e w4 ⟨rfl, hb4⟩
              go_wp2_with fail
              refine ⟨?rel, ?measure⟩
              case rel => exact ⟨k + 1, by omega, by go_num, Ha.out, below_trans hbX hb4⟩
              case measure => first | (simp [intOf]; done) | (simp [intOf]; omega)
          · rw [h1] at HC1
            have Ha := Lib.hid (mem_snoc (P := fun x : Link => (⟨0, x.obv⟩ : Die) ∈ l ∨ (⟨1, x.rev⟩ : Die) ∈ l) hx Hall.out (.inl (by simpa using h1)))
            clear hx h1
            go_wp2_with fail
            refine HC1.out.mono ?_
            rintro e w3 ⟨rfl, hb3⟩
            go_wp2_with fail
            refine ⟨?rel, ?measure⟩
            case rel => exact ⟨k + 1, by omega, by go_num, Ha.out, below_trans hbW hb3⟩
            case measure => first | (simp [intOf]; done) | (simp [intOf]; omega)
        · have HY : Hid (isCovB g l = true) := Lib.hid (isCovB_yes (HC.out.2 ⟨Hal.out, fun x hx => Hall.out x (by rw [List.take_of_length_le (by omega)]; exact hx)⟩))
          go_wp2_with fail
          go_ret
          exact ⟨ret_bool HY.out.symm, hbq⟩
end Go.Proofs.Ytnaoiochfdipiaa
/- cover.IsMatching. Condition: the arguments read as a graph and pairs of wellformed numbers. -/
namespace Go.Proofs.Ytnaoiochfdipiaa
open Go.RowKit Go.Shelf Go.Maps

theorem pairsG_mem {g : Graph} (hg : graphB g = true) (p : Pair) : p ∈ pairsG g ↔ linkedP g p.a p.b := by
  have hE := graphB_ends hg
  rw [pairsG, if_pos hg, pairsOf_mem hE.1 hE.2, List.mem_map]
  constructor
  · rintro ⟨x, hx, rfl⟩; exact ⟨x, hx, rfl, rfl⟩
  · rintro ⟨x, hx, h1, h2⟩; exact ⟨x, hx, by cases p; simp only [pairOf]; simp_all⟩
/-- Whether pairs are a matching. -/
def IsMatP (g : Graph) (l : List Pair) : Prop := graphB g = true ∧ IsMat g l
noncomputable def isMatB (g : Graph) (l : List Pair) : Bool := @decide (IsMatP g l) (Classical.propDecidable _)
theorem isMatB_yes {g : Graph} {l : List Pair} (h : IsMatP g l) : isMatB g l = true := by unfold isMatB; exact @decide_eq_true _ (Classical.propDecidable _) h
theorem isMatB_no {g : Graph} {l : List Pair} (h : ¬ IsMatP g l) : isMatB g l = false := by unfold isMatB; exact @decide_eq_false _ (Classical.propDecidable _) h
theorem isMatB_iff {g : Graph} {l : List Pair} : isMatB g l = true ↔ IsMatP g l := ⟨fun h => by unfold isMatB at h; exact @of_decide_eq_true _ (Classical.propDecidable _) h, isMatB_yes⟩
/-- The maps of a list are as long as it just when no number stands twice. -/
theorem putAll_len {f h : Pair → Int} : ∀ (l : List Pair) (m : List (Int × Int)), (m.map Prod.fst).Nodup →
    ((l.foldl (fun m p => putM m (f p) (h p)) m).length ≤ m.length + l.length ∧ ((l.foldl (fun m p => putM m (f p) (h p)) m).length = m.length + l.length ↔ (m.map Prod.fst ++ l.map f).Nodup))
  | [], m, hm => by simp [hm]
  | p :: l, m, hm => by
    have ih := putAll_len (f := f) (h := h) l (putM m (f p) (h p)) (putM_nodup hm _ _)
    rw [putM_len, putM_keys] at ih
    simp only [List.foldl_cons, List.length_cons, List.map_cons]
    by_cases hx : f p ∈ m.map Prod.fst
    · rw [if_pos hx, if_pos hx] at ih
      refine ⟨by omega, ⟨fun e => by omega, fun hn => ?_⟩⟩
      rw [List.nodup_append] at hn
      exact absurd rfl (hn.2.2 _ hx _ (by simp))
    · rw [if_neg hx, if_neg hx] at ih
      refine ⟨by omega, ?_⟩
      rw [show m.length + (l.length + 1) = m.length + 1 + l.length by omega, ih.2, List.append_assoc]
      simp
theorem ofS_obv (l : List Pair) : (ofS l).obv = l.foldl (fun m p => putM m p.a p.b) [] ∧ (ofS l).rev = l.foldl (fun m p => putM m p.b p.a) [] := by
  have : ∀ (l : List Pair) (s : St), (l.foldl (fun s p => s.set p.a p.b) s).obv = l.foldl (fun m p => putM m p.a p.b) s.obv ∧ (l.foldl (fun s p => s.set p.a p.b) s).rev = l.foldl (fun m p => putM m p.b p.a) s.rev := by
    intro l
    induction l with
    | nil => intro s; exact ⟨rfl, rfl⟩
    | cons p l ih => intro s; exact ih _
  exact this l _
theorem ofS_obv_len (l : List Pair) : (ofS l).obv.length = l.length ↔ (l.map Pair.a).Nodup := by
  have := (putAll_len (f := Pair.a) (h := Pair.b) l [] (by simp)).2
  rw [(ofS_obv l).1]
  simpa using this
theorem ofS_rev_len (l : List Pair) : (ofS l).rev.length = l.length ↔ (l.map Pair.b).Nodup := by
  have := (putAll_len (f := Pair.b) (h := Pair.a) l [] (by simp)).2
  rw [(ofS_obv l).2]
  simpa using this
theorem isMat_iff {g : Graph} (hg : graphB g = true) {l : List Pair} : IsMatP g l ↔ (∀ j < l.length, OkAt (pairsG g) ltP l j) ∧ (ofS l).obv.length = l.length ∧ (ofS l).rev.length = l.length := by
  rw [okAll_iff ltP_trans, ofS_obv_len, ofS_rev_len]
  constructor
  · rintro ⟨_, h1, h2, h3⟩
    have h2' := h2
    rw [List.pairwise_map] at h2'
    exact ⟨⟨fun d hd => (pairsG_mem hg d).2 (h1 d hd), h2'.imp fun h => .inl h⟩, h2.imp fun h e => by omega, h3⟩
  · rintro ⟨⟨h1, h2⟩, h3, h4⟩
    refine ⟨hg, fun d hd => (pairsG_mem hg d).1 (h1 d hd), ?_, h4⟩
    rw [List.pairwise_map]
    rw [List.nodup_iff_pairwise_ne, List.pairwise_map] at h3
    exact (h2.and h3).imp fun {a b} h => by
      obtain ⟨h5, h6⟩ := h
      unfold ltP at h5
      omega
set_option maxHeartbeats 8000000 in
set_option maxRecDepth 100000 in
theorem IsMatching_ok (g : Graph) (v u : Value) (l : List Pair) (w : World) (h : GraphAt w v g) (hl : Pairs w u l) (hwf : ∀ p ∈ l, wfI p.a ∧ wfI p.b) :
    Calls Try.prog 18 #[v, u] w fun e w' => e = .returned (.bool (isMatB g l)) ∧ Below w.heap.size w w' := by
  have h0 := h
  obtain ⟨v1, v2, v3, rfl, ho, hr, hk⟩ := h
  obtain ⟨A1, c1, rfl, _, _, _⟩ := ho.cells
  obtain ⟨A2, c2, rfl, _, _, _⟩ := hr.cells
  obtain ⟨A3, c3, rfl, _, _, hck⟩ := hk.cells
  obtain ⟨A, c, rfl, _, _, hcl⟩ := hl.cells
  obtain ⟨W, hW, Hz, hwW, hlt0, hc0⟩ := boxed w #[.slice A1 g.obv.length c1, .slice A2 g.rev.length c2, .slice A3 g.links.length c3] 25
  have a0 := hc0 0 _ rfl; have a1 := hc0 1 _ rfl; have a2 := hc0 2 _ rfl
  clear hc0 ho hr hk
  go_enter Try.func18, Try.ntmps18
  go_wp2_with fail
  refine (Pairs_ok _ _ _ (h0.below hwW)).mono ?_
  rintro e w1 ⟨ud, rfl, hud, hb1⟩
  clear hW
  have hw1 := below_trans hwW hb1
  clear a0 a1 a2
  cases hg : graphB g
  · have hv : Hid (validE g = 1) := Lib.hid (by simp [validE, hg])
    have HN : Hid (isMatB g l = false) := Lib.hid (isMatB_no fun hp => by have := hp.1; rw [hg] at this; cases this)
    rw [hv.out]
    go_wp2_with fail
    go_ret
    exact ⟨ret_bool HN.out.symm, hw1⟩
  have hv : Hid (validE g = 0) := Lib.hid (by simp [validE, hg])
  rw [hv.out]
  have HC := Lib.hid (isMat_iff hg (l := l))
  have HM : Hid (∀ (x : Pair) (W' : World), Below w1.heap.size w1 W' → Calls Try.prog 38 #[ud, valP x] W' fun e w' => e = .returned (.bool (decide (x ∈ pairsG g))) ∧ Below W'.heap.size W' w') := fun x W' hb => containsP_ok ud (pairsG g) x W' (hud.below hb)
  have HO : Hid (∀ (x y : Pair) (W' : World), Calls Try.prog 39 #[valP x, valP y] W' fun e w' => e = .returned (.int .i64 (cmpP x y)) ∧ Below W'.heap.size W' w') := order_below
  have Hwf := Lib.hid hwf
  clear hg hwf
  go_wp2_with fail
  go_loopw [19] (fun i wr => ∃ k : Nat, k ≤ l.length ∧ i = .int .i64 k ∧ Hid (∀ j < k, OkAt (pairsG g) ltP l j) ∧ Below w1.heap.size w1 wr) (fun i _ => l.length - (intOf i).toNat)
  case atStart => exact ⟨0, Nat.zero_le _, rfl, fun j hj => absurd hj (by omega), Below.refl _ _⟩
  case round =>
    obtain ⟨k, hk, rfl, Hall, hb⟩ := hrel
    have hwr := below_trans hw1 hb
    by_cases hlt : k < l.length
    · obtain ⟨b, o, rfl, _, hcb⟩ := hcl k hlt
      obtain ⟨x, hx⟩ := get_of_lt hlt
      obtain ⟨e0, e1⟩ := hcb wr hwr k x hx
      obtain ⟨W1, hW1, Hz1, hb2, hlt1, hc1⟩ := boxed wr #[.int .i64 x.a, .int .i64 x.b] 48
      have m0 := Later.cell_all (hc1 0 _ rfl); have m1 := Later.cell_all (hc1 1 _ rfl)
      have hl1 : (k : Int) < (l.length : Int) := by omega
      have hl0 : (0 : Int) ≤ (k : Int) := by omega
      have hbW := below_trans hb hb2
      have HM' := Lib.hid (fun y : Later W1 => HM.out x y.to (below_trans hbW y.h))
      have HwW := Lib.hid (below_trans hwr hb2)
      clear hc1
      cases hm : decide (x ∈ (pairsG g))
      · rw [hm] at HM'
        have Hno := Lib.hid (okAt_no (lt := ltP) hx (.inl (by simpa using hm)))
        clear hm hx hcb hcl
        go_wp2_with fail
        refine wp_region_later (by kernel_rfl) (by kernel_rfl) ?_
        repeat (go_big_quiet_step (first | (go_at_call 38; with_reducible exact calls_later (HM'.out _))))
        refine wpQuiet_nil ?_
        intro _ hw'
        obtain ⟨xq, hw''⟩ := hw'
        subst hw''
        have hba := xq.h
        generalize xq.to = wa at hba ⊢
        go_wp2_with fail
        go_ret
        exact ⟨ret_bool (isMatB_no fun hp => Hno.out ((HC.out).1 hp).1).symm, below_trans HwW.out hba⟩
      rw [hm] at HM'
      have Hmem := Lib.hid (show x ∈ (pairsG g) by simpa using hm)
      clear hm
      by_cases hk0 : 0 < k
      · obtain ⟨y, hy⟩ := get_of_lt (show k - 1 < l.length by omega)
        obtain ⟨f0', f1'⟩ := hcb wr hwr (k - 1) y hy
        have f0 := Later.cell_all (cell_later hb2 f0'); have f1 := Later.cell_all (cell_later hb2 f1')
        have d5 : decide ((0 : Int) < (k : Int)) = true := by simp; omega
        have HO' := Lib.hid (fun z : Later W1 => HO.out y x z.to)
        have hc := cmpP_neg y x
        have Hyx := Lib.hid (fun h => okAt_no (D := (pairsG g)) (lt := ltP) hx (.inr ⟨y, hk0, hy, h⟩))
        have Hok := Lib.hid (fun h => okAt_yes (D := (pairsG g)) (lt := ltP) hx Hmem.out (.inr ⟨y, hy, h⟩))
        rw [← hc] at Hyx Hok
        clear hc hx hy hcb hcl f0' f1'
        generalize cmpP y x = c at HO' Hyx Hok
        by_cases hcc : 0 ≤ c
        · have d6 : decide (0 ≤ c) = true := decide_eq_true hcc
          have Hno := Lib.hid (Hyx.out (by omega))
          clear hcc Hok Hyx
          go_wp2_with fail
          refine wp_region_later (by kernel_rfl) (by kernel_rfl) ?_
          repeat (go_big_quiet_step (first | (go_at_call 38; with_reducible exact calls_later (HM'.out _)) | (go_at_call 39; with_reducible exact calls_later (HO'.out _))))
          refine wpQuiet_nil ?_
          intro _ hw'
          obtain ⟨xq, hw''⟩ := hw'
          subst hw''
          have hba := xq.h
          generalize xq.to = wa at hba ⊢
          go_wp2_with fail
          go_ret
          exact ⟨ret_bool (isMatB_no fun hp => Hno.out ((HC.out).1 hp).1).symm, below_trans HwW.out hba⟩
        · have d6 : decide (0 ≤ c) = false := decide_eq_false hcc
          have Hok' := Lib.hid (Hok.out (by omega))
          clear hcc Hok Hyx
          go_wp2_with fail
          refine wp_region_later (by kernel_rfl) (by kernel_rfl) ?_
          repeat (go_big_quiet_step (first | (go_at_call 38; with_reducible exact calls_later (HM'.out _)) | (go_at_call 39; with_reducible exact calls_later (HO'.out _))))
          refine wpQuiet_nil ?_
          intro _ hw'
          obtain ⟨xq, hw''⟩ := hw'
          subst hw''
          have hba := xq.h
          generalize xq.to = wa at hba ⊢
          go_wp2_with fail
          refine ⟨?rel, ?measure⟩
          case rel => exact ⟨k + 1, by omega, by go_num, okAt_snoc Hall.out Hok'.out, below_trans hbW hba⟩
          case measure => first | (simp [intOf]; done) | (simp [intOf]; omega)
      · have d5 : decide ((0 : Int) < (k : Int)) = false := by simp; omega
        have Hok' := Lib.hid (okAt_yes (lt := ltP) hx Hmem.out (.inl (show k = 0 by omega)))
        clear hx hcb hcl
        go_wp2_with fail
        refine wp_region_later (by kernel_rfl) (by kernel_rfl) ?_
        repeat (go_big_quiet_step (first | (go_at_call 38; with_reducible exact calls_later (HM'.out _))))
        refine wpQuiet_nil ?_
        intro _ hw'
        obtain ⟨xq, hw''⟩ := hw'
        subst hw''
        have hba := xq.h
        generalize xq.to = wa at hba ⊢
        go_wp2_with fail
        refine ⟨?rel, ?measure⟩
        case rel => exact ⟨k + 1, by omega, by go_num, okAt_snoc Hall.out Hok'.out, below_trans hbW hba⟩
        case measure => first | (simp [intOf]; done) | (simp [intOf]; omega)
    · have Hal := Lib.hid (okAt_all hlt Hall.out)
      clear HM HO Hall hcl
      go_wp2_with fail
      refine (of_ok _ l wr (hl.below hwr) Hwf.out).mono ?_
      rintro e w3 ⟨bo, br, rfl, hS, _, _, hb3⟩
      have hw3 := below_trans hwr hb3
      obtain ⟨W4, hW4, Hz4, hb4, hlt4, hc4⟩ := boxed w3 #[.map (some bo), .map (some br)] 62
      have m0 := hc4 0 _ rfl; have m1 := hc4 1 _ rfl
      have hS4 := hS.below hb4
      have k1 := hS4.o.len
      have k2 := hS4.r.len
      have hw4 := below_trans hw3 hb4
      have HB : Hid (isMatB g l = ((ofS l).obv.length == l.length && (ofS l).rev.length == l.length)) := Lib.hid (by
        rw [Bool.eq_iff_iff, isMatB_iff, HC.out, Bool.and_eq_true, beq_iff_eq, beq_iff_eq]
        exact ⟨fun h => h.2, fun h => ⟨Hal.out, h⟩⟩)
      generalize (ofS l).obv.length = n1 at k1 HB
      generalize (ofS l).rev.length = n2 at k2 HB
      clear hc4 hS hS4 hlt hk
      by_cases q1 : n1 = l.length
      · have d1 : ((n1 : Int) == (l.length : Int)) = true := by simp; omega
        by_cases q2 : n2 = l.length
        · have d2 : ((n2 : Int) == (l.length : Int)) = true := by simp; omega
          have HB' := Lib.hid (HB.out.trans (by simp [q1, q2] : _ = true))
          clear q1 q2 HB
          go_wp2_with fail
          go_ret
          exact ⟨ret_bool HB'.out.symm, hw4⟩
        · have d2 : ((n2 : Int) == (l.length : Int)) = false := by simp; omega
          have HB' := Lib.hid (HB.out.trans (by simp [q2] : _ = false))
          clear q1 q2 HB
          go_wp2_with fail
          go_ret
          exact ⟨ret_bool HB'.out.symm, hw4⟩
      · have d1 : ((n1 : Int) == (l.length : Int)) = false := by simp; omega
        have HB' := Lib.hid (HB.out.trans (by simp [q1] : _ = false))
        clear q1 HB
        go_wp2_with fail
        go_ret
        exact ⟨ret_bool HB'.out.symm, hw4⟩
end Go.Proofs.Ytnaoiochfdipiaa
/- A matching that is given as pairs, and one step more, plain. No program in sight, no condition. -/
namespace Go.Proofs.Ytnaoiochfdipiaa
open Go.RowKit

section
variable {f h : Pair → Int}
theorem putAll_out {x : Int} : ∀ (l : List Pair) (m : List (Int × Int)), x ∉ l.map f → lookM (l.foldl (fun m p => putM m (f p) (h p)) m) x = lookM m x
  | [], m, _ => rfl
  | p :: l, m, hx => by
    simp only [List.map_cons, List.mem_cons, not_or] at hx
    rw [List.foldl_cons, putAll_out l _ hx.2, lookM_putM, if_neg (fun e => hx.1 e.symm)]
theorem putAll_in : ∀ (l : List Pair) (m : List (Int × Int)), (l.map f).Nodup → ∀ p ∈ l, lookM (l.foldl (fun m p => putM m (f p) (h p)) m) (f p) = some (h p)
  | [], _, _, p, hp => absurd hp (by simp)
  | q :: l, m, hn, p, hp => by
    rw [List.map_cons, List.nodup_cons] at hn
    rw [List.foldl_cons]
    rcases List.mem_cons.1 hp with rfl | hp
    · rw [putAll_out l _ hn.1, lookM_putM, if_pos rfl]
    · exact putAll_in l _ hn.2 p hp
theorem putAll_nodup : ∀ (l : List Pair) (m : List (Int × Int)), (m.map Prod.fst).Nodup → ((l.foldl (fun m p => putM m (f p) (h p)) m).map Prod.fst).Nodup
  | [], _, hm => hm
  | p :: l, m, hm => by rw [List.foldl_cons]; exact putAll_nodup l _ (putM_nodup hm _ _)
theorem putAll_look {l : List Pair} (hn : (l.map f).Nodup) {x y : Int} (hl : lookM (l.foldl (fun m p => putM m (f p) (h p)) []) x = some y) : ∃ p ∈ l, f p = x ∧ h p = y := by
  by_cases hx : x ∈ l.map f
  · obtain ⟨p, hp, rfl⟩ := List.mem_map.1 hx
    rw [putAll_in l [] hn p hp] at hl
    exact ⟨p, hp, rfl, Option.some.inj hl⟩
  · rw [putAll_out l [] hx] at hl
    simp [lookM] at hl
end
theorem IsMat.nodA {g : Graph} {l : List Pair} (h : IsMat g l) : (l.map Pair.a).Nodup := h.asc.imp fun h e => by omega
theorem ofS_look {g : Graph} {l : List Pair} (h : IsMat g l) {a r : Int} : (lookM (ofS l).obv a = some r ↔ (⟨a, r⟩ : Pair) ∈ l) ∧ (lookM (ofS l).rev r = some a ↔ (⟨a, r⟩ : Pair) ∈ l) := by
  rw [(ofS_obv l).1, (ofS_obv l).2]
  refine ⟨⟨fun e => ?_, fun e => putAll_in (f := Pair.a) (h := Pair.b) l [] h.nodA _ e⟩, ⟨fun e => ?_, fun e => putAll_in (f := Pair.b) (h := Pair.a) l [] h.inj _ e⟩⟩
  · obtain ⟨p, hp, rfl, rfl⟩ := putAll_look (f := Pair.a) (h := Pair.b) h.nodA e; exact hp
  · obtain ⟨p, hp, rfl, rfl⟩ := putAll_look (f := Pair.b) (h := Pair.a) h.inj e; exact hp
theorem ofS_good {g : Graph} (hg : graphB g = true) {l : List Pair} (h : IsMat g l) : Good g (ofS l) := by
  refine ⟨⟨fun a r e => (ofS_look h).2.2 ((ofS_look h).1.1 e), fun a r e => (ofS_look h).1.2 ((ofS_look h).2.1 e), fun a r e => (nbr_mem hg).2 (h.link _ ((ofS_look h).2.1 e))⟩, ?_, ?_⟩
  · rw [(ofS_obv l).2]; exact putAll_nodup l [] (by simp)
  · rw [(ofS_obv l).1]; exact putAll_nodup l [] (by simp)
/-- Whatever had a pair has one. -/
def KeptP (l m : List Pair) : Prop := ∀ p ∈ l, (∃ q ∈ m, q.a = p.a) ∧ ∃ q ∈ m, q.b = p.b
/-- One search more. -/
def moreG (g : Graph) (l : List Pair) : Bool × St := moreL (nbr g) (g.rev.length + 1) g.obv (ofS l)
theorem more_list {g : Graph} (hg : graphB g = true) {l : List Pair} (h : IsMat g l) {n : Nat} (hO : Opt g n) :
    l.length ≤ n ∧ ((moreG g l).1 = false → l.length = n) ∧ ((moreG g l).1 = true → Good g (moreG g l).2 ∧ ∀ ys, ListOf (moreG g l).2.obv ys → IsMat g ys ∧ ys.length = l.length + 1 ∧ l.length < n ∧ KeptP l ys) := by
  have hG := ofS_good hg h
  have hlr : (ofS l).rev.length = l.length := (ofS_rev_len l).2 h.inj
  obtain ⟨b, s', hq⟩ : ∃ b s', moreG g l = (b, s') := ⟨_, _, rfl⟩
  rw [hq]
  refine ⟨hO.le h, fun e => ?_, fun e => ?_⟩
  · simp only at e
    subst e
    obtain ⟨_, _, F, h3, h4⟩ := moreL_false hg (Nat.lt_succ_self _) hG hq
    have := (Great.opt hg ⟨hG, F, h3, h4⟩ (sortM_of hG.nodO)).unique hO
    omega
  · simp only at e
    subst e
    obtain ⟨h1, h2, h3, h4⟩ := moreL_true hg hG hq
    refine ⟨h1, fun ys hy => ?_⟩
    have hm := hy.isMat hg h1
    have hl : ys.length = l.length + 1 := by rw [hy.len, h1.len, h2, hlr]
    have := hO.le hm
    refine ⟨hm, hl, by omega, fun p hp => ⟨?_, ?_⟩⟩
    · have := h3 p.a (by rw [(ofS_look h).1.2 (show (⟨p.a, p.b⟩ : Pair) ∈ l from hp)]; rfl)
      obtain ⟨r, hr⟩ := Option.isSome_iff_exists.1 this
      exact ⟨⟨p.a, r⟩, (hy.mem h1.nodO).2 hr, rfl⟩
    · have := h4 p.b (by rw [(ofS_look h).2.2 (show (⟨p.a, p.b⟩ : Pair) ∈ l from hp)]; rfl)
      obtain ⟨a, ha⟩ := Option.isSome_iff_exists.1 this
      exact ⟨⟨a, p.b⟩, (hy.mem h1.nodO).2 (h1.mate.bwd _ _ ha), rfl⟩
end Go.Proofs.Ytnaoiochfdipiaa
