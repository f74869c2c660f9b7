/- cover.byDie, IsCover. Condition: the arguments read as a graph and dies. -/
import Derived.Test.YtnaoiochfdipiaaCovG
import Derived.Test.YtnaoiochfdipiaaPairC
namespace Go.Proofs.Ytnaoiochfdipiaa
open Go.RowKit Go.Shelf Go.Maps

def cmpD (x y : Die) : Int := orI (Lib.compareInt x.side y.side) (Lib.compareInt x.num y.num)
set_option maxHeartbeats 2000000 in
set_option maxRecDepth 100000 in
theorem byDie_ok (x y : Die) (W : World) : Calls Try.prog 31 #[valD x, valD y] W fun e w' => e = .returned (.int .i64 (cmpD x y)) ∧ ∃ q os', w' = Go.Sort.grow (W.drewN q) os' := by
  have hca := fun W' => AnyG.cmp_Compare_int Try.layCmp x.side y.side W'
  have hcb := fun W' => AnyG.cmp_Compare_int Try.layCmp x.num y.num W'
  change ∀ W', Calls Try.prog 52 _ _ _ at hca
  change ∀ W', Calls Try.prog 52 _ _ _ at hcb
  unfold cmpD
  generalize Lib.compareInt x.side y.side = r at hca ⊢
  generalize Lib.compareInt x.num y.num = s at hcb ⊢
  go_enter Try.func31, Try.ntmps31
  go_wp2_with fail
  obtain ⟨W0, hW0, Hz0, hb0, hlt0, hc0⟩ := boxed W #[.int .i64 x.side, .int .i64 x.num] 46
  obtain ⟨W1, hW1, Hz1, hb1, hlt1, hc1⟩ := boxed W0 #[.int .i64 y.side, .int .i64 y.num] 46
  have a0 : W1.drew.cell? _ = _ := cell_later hb1.drew (hc0 0 _ rfl); have a1 : W1.drew.cell? _ = _ := cell_later hb1.drew (hc0 1 _ rfl)
  have b0 : W1.drew.cell? _ = _ := hc1 0 _ rfl; have b1 : W1.drew.cell? _ = _ := hc1 1 _ rfl
  rw [Hz0.out] at b0 b1
  clear hc0 hc1
  have hgrow' : ∃ os', W1 = Go.Sort.grow W os' := ⟨_, by rw [← hW1, ← hW0, Go.Sort.alloc_eq_grow, Go.Sort.alloc_eq_grow, Go.Sort.grow_grow]⟩
  have hgrow := Lib.hid hgrow'; clear hgrow'
  rw [hW0, hW1]
  clear hW0 hW1
  refine wp_region_S 10 (fun w' => w' = W1.drew) (by kernel_rfl) (by decide) ?_
  have hHeld : W1.drew = W1.drew := rfl
  refine wpAnyS_take 0 (.pointer (some ⟨W.heap.size, 0, none⟩)) (by rfl) (by kernel_rfl) (by exact fun _ _ _ h => h) (by rfl) (fun w' hS => by (subst hS; go_simp)) hHeld ?_
  simp only [Act.put]
  refine wpAnyS_take 1 (.int .i64 x.side) (by rfl) (by kernel_rfl) (by exact fun _ _ _ h => h) (by rfl) (fun w' hS => by (subst hS; go_simp)) hHeld ?_
  simp only [Act.put]
  refine wpAnyS_take 2 (.pointer (some ⟨W.heap.size + 1, 0, none⟩)) (by rfl) (by kernel_rfl) (by exact fun _ _ _ h => h) (by rfl) (fun w' hS => by (subst hS; go_simp)) hHeld ?_
  simp only [Act.put]
  refine wpAnyS_take 3 (.int .i64 y.side) (by rfl) (by kernel_rfl) (by exact fun _ _ _ h => h) (by rfl) (fun w' hS => by (subst hS; go_simp)) hHeld ?_
  simp only [Act.put]
  refine wpAnyS_take 5 (.pointer (some ⟨W.heap.size, 1, none⟩)) (by rfl) (by kernel_rfl) (by exact fun _ _ _ h => h) (by rfl) (fun w' hS => by (subst hS; go_simp)) hHeld ?_
  simp only [Act.put]
  refine wpAnyS_take 6 (.int .i64 x.num) (by rfl) (by kernel_rfl) (by exact fun _ _ _ h => h) (by rfl) (fun w' hS => by (subst hS; go_simp)) hHeld ?_
  simp only [Act.put]
  refine wpAnyS_take 7 (.pointer (some ⟨W.heap.size + 1, 1, none⟩)) (by rfl) (by kernel_rfl) (by exact fun _ _ _ h => h) (by rfl) (fun w' hS => by (subst hS; go_simp)) hHeld ?_
  simp only [Act.put]
  refine wpAnyS_take 8 (.int .i64 y.num) (by rfl) (by kernel_rfl) (by exact fun _ _ _ h => h) (by rfl) (fun w' hS => by (subst hS; go_simp)) hHeld ?_
  simp only [Act.put]
  clear hHeld
  refine wpAnyS_one 4 (by kernel_rfl) (by rfl) (by decide) (fun K hK => ?_)
  have HK := Lib.hid hK; clear hK
  rw [if_pos (by rfl)]
  go_simp
  refine (hca _).mono ?_
  rintro e w2 ⟨rfl, rfl⟩
  refine HK.out _ _ rfl ?_
  clear HK
  refine wpAnyS_one 9 (by kernel_rfl) (by rfl) (by decide) (fun K hK => ?_)
  have HK := Lib.hid hK; clear hK
  rw [if_pos (by rfl)]
  go_simp
  refine (hcb _).mono ?_
  rintro e w2 ⟨rfl, rfl⟩
  refine HK.out _ _ rfl ?_
  clear HK
  refine (show tailOf _ _ _ _ _ _ _ _ from ⟨by kernel_rfl, ?_⟩)
  simp only [List.drop_succ_cons, List.drop_zero]
  go_wp2_with fail
  refine (Or_ok _ r s _ (by go_simp) (by go_simp)).mono ?_
  rintro e w3 ⟨rfl, rfl⟩
  go_wp2_with fail
  go_ret
  obtain ⟨os, hq⟩ := hgrow.out
  exact ⟨rfl, 1, _, by rw [hq, Go.Sort.alloc_eq_grow, Go.Sort.grow_grow]; rfl⟩
theorem below_grow (W : World) (q : Nat) (os : Array Obj) : Below W.heap.size W (Go.Sort.grow (W.drewN q) os) :=
  ⟨rfl, rfl, rfl, by simp [Go.Sort.grow, World.drewN], fun k hk => by simp [Go.Sort.grow, World.drewN, Array.getElem?_append_left hk]⟩
theorem byDie_below (x y : Die) (W : World) : Calls Try.prog 31 #[valD x, valD y] W fun e w' => e = .returned (.int .i64 (cmpD x y)) ∧ Below W.heap.size W w' :=
  (byDie_ok x y W).mono fun _ _ ⟨h, q, os, e⟩ => ⟨h, by rw [e]; exact below_grow _ _ _⟩
theorem order_below (x y : Pair) (W : World) : Calls Try.prog 39 #[valP x, valP y] W fun e w' => e = .returned (.int .i64 (cmpP x y)) ∧ Below W.heap.size W w' :=
  (order_ok x y W).mono fun _ _ ⟨h, q, os, e⟩ => ⟨h, by rw [e]; exact below_grow _ _ _⟩
theorem cmpD_neg (x y : Die) : (cmpD x y < 0) = ltD x y := by
  unfold cmpD Lib.compareInt orI ltD
  apply propext
  repeat' split
  all_goals omega
theorem cmpP_neg (x y : Pair) : (cmpP x y < 0) = ltP x y := by
  unfold cmpP Lib.compareInt orI ltP
  apply propext
  repeat' split
  all_goals omega

/-- An element of a list that has the right place and is one of D. -/
def OkAt {α : Type} (D : List α) (lt : α → α → Prop) (l : List α) (j : Nat) : Prop := ∃ d, l[j]? = some d ∧ d ∈ D ∧ ∀ y, 0 < j → l[j - 1]? = some y → lt y d
section
variable {α : Type} {D : List α} {lt : α → α → Prop} {l : List α} {k : Nat} {x : α}
theorem okAt_no (hx : l[k]? = some x) (h : x ∉ D ∨ ∃ y, 0 < k ∧ l[k - 1]? = some y ∧ ¬ lt y x) : ¬ ∀ j < l.length, OkAt D lt l j := fun ha => by
  obtain ⟨d, e, h1, h2⟩ := ha k (lt_of_get hx)
  rw [hx] at e
  cases e
  rcases h with h | ⟨y, h3, h4, h5⟩
  · exact h h1
  · exact h5 (h2 y h3 h4)
theorem okAt_yes (hx : l[k]? = some x) (hm : x ∈ D) (h : k = 0 ∨ ∃ y, l[k - 1]? = some y ∧ lt y x) : OkAt D lt l k := by
  refine ⟨x, hx, hm, fun z h0 hz => ?_⟩
  rcases h with h | ⟨y, h1, h2⟩
  · omega
  · rw [h1] at hz; cases hz; exact h2
theorem okAt_snoc (h : ∀ j < k, OkAt D lt l j) (hk : OkAt D lt l k) : ∀ j < k + 1, OkAt D lt l j := fun j hj => by
  by_cases e : j = k
  · rw [e]; exact hk
  · exact h j (by omega)
theorem okAt_all (hk : ¬ k < l.length) (h : ∀ j < k, OkAt D lt l j) : ∀ j < l.length, OkAt D lt l j := fun j hj => h j (by omega)
theorem mem_snoc {β : Type} {l : List β} {k : Nat} {x : β} {P : β → Prop} (hx : l[k]? = some x) (h : ∀ y ∈ l.take k, P y) (hp : P x) : ∀ y ∈ l.take (k + 1), P y := fun y hy => by
  rw [take_snoc' hx, List.mem_append, List.mem_singleton] at hy
  rcases hy with hy | rfl
  · exact h y hy
  · exact hp
theorem pairwise_consec (tr : ∀ a b c, lt a b → lt b c → lt a c) : ∀ {l : List α}, (∀ j x y, l[j]? = some x → l[j + 1]? = some y → lt x y) → l.Pairwise lt
  | [], _ => List.Pairwise.nil
  | a :: l, h => by
    have ih := pairwise_consec tr (l := l) (fun j x y hx hy => h (j + 1) x y (by simpa using hx) (by simpa using hy))
    refine List.pairwise_cons.2 ⟨fun b hb => ?_, ih⟩
    cases l with
    | nil => cases hb
    | cons c l =>
      have hac := h 0 a c rfl rfl
      rcases List.mem_cons.1 hb with rfl | hb
      · exact hac
      · exact tr _ _ _ hac ((List.pairwise_cons.1 ih).1 b hb)
theorem okAll_iff (tr : ∀ a b c, lt a b → lt b c → lt a c) : (∀ j < l.length, OkAt D lt l j) ↔ (∀ d ∈ l, d ∈ D) ∧ l.Pairwise lt := by
  constructor
  · refine fun h => ⟨fun d hd => ?_, pairwise_consec tr fun j x y hx hy => ?_⟩
    · obtain ⟨i, hi⟩ := List.getElem?_of_mem hd
      obtain ⟨z, e, h1, _⟩ := h i (lt_of_get hi)
      rw [hi] at e; cases e; exact h1
    · obtain ⟨z, e, _, h2⟩ := h (j + 1) (lt_of_get hy)
      rw [hy] at e; cases e
      exact h2 x (by omega) hx
  · rintro ⟨h1, h2⟩ j hj
    obtain ⟨d, hd⟩ := get_of_lt hj
    refine ⟨d, hd, h1 d (List.mem_of_getElem? hd), fun y h0 hy => ?_⟩
    rw [List.pairwise_iff_getElem] at h2
    obtain ⟨i1, e1⟩ := List.getElem?_eq_some_iff.1 hy
    obtain ⟨i2, e2⟩ := List.getElem?_eq_some_iff.1 hd
    rw [← e1, ← e2]
    exact h2 _ _ i1 i2 (by omega)
end
theorem ltD_trans (a b c : Die) (h : ltD a b) (k : ltD b c) : ltD a c := by unfold ltD at *; omega
theorem ltP_trans (a b c : Pair) (h : ltP a b) (k : ltP b c) : ltP a c := by unfold ltP at *; omega
/-- Whether dies are a cover. -/
def IsCovP (g : Graph) (l : List Die) : Prop := graphB g = true ∧ IsCov g l
noncomputable def isCovB (g : Graph) (l : List Die) : Bool := @decide (IsCovP g l) (Classical.propDecidable _)
theorem isCovB_yes {g : Graph} {l : List Die} (h : IsCovP g l) : isCovB g l = true := by unfold isCovB; exact @decide_eq_true _ (Classical.propDecidable _) h
theorem isCovB_no {g : Graph} {l : List Die} (h : ¬ IsCovP g l) : isCovB g l = false := by unfold isCovB; exact @decide_eq_false _ (Classical.propDecidable _) h
theorem diesG_mem {g : Graph} (hg : graphB g = true) (d : Die) : d ∈ diesG g ↔ dieIn g d = true := by
  obtain ⟨s, n⟩ := d
  simp only [diesG, if_pos hg, List.mem_append, List.mem_map, Die.mk.injEq, dieIn, Bool.or_eq_true, Bool.and_eq_true, beq_iff_eq, hasB_iff]
  constructor
  · rintro (⟨x, hx, rfl, rfl⟩ | ⟨x, hx, rfl, rfl⟩)
    · exact .inl ⟨rfl, hx⟩
    · exact .inr ⟨rfl, hx⟩
  · rintro (⟨rfl, hx⟩ | ⟨rfl, hx⟩)
    · exact .inl ⟨n, hx, rfl, rfl⟩
    · exact .inr ⟨n, hx, rfl, rfl⟩
theorem isCov_iff {g : Graph} (hg : graphB g = true) {l : List Die} : IsCovP g l ↔ (∀ j < l.length, OkAt (diesG g) ltD l j) ∧ ∀ x ∈ g.links, (⟨0, x.obv⟩ : Die) ∈ l ∨ (⟨1, x.rev⟩ : Die) ∈ l := by
  rw [okAll_iff ltD_trans]
  constructor
  · rintro ⟨_, h1, h2, h3⟩
    exact ⟨⟨fun d hd => (diesG_mem hg d).2 (h1 d hd), h2⟩, h3⟩
  · rintro ⟨⟨h1, h2⟩, h3⟩
    exact ⟨hg, fun d hd => (diesG_mem hg d).1 (h1 d hd), h2, h3⟩
set_option maxHeartbeats 8000000 in
set_option maxRecDepth 100000 in
theorem IsCover_ok (g : Graph) (v u : Value) (l : List Die) (w : World) (h : GraphAt w v g) (hl : Dies w u l) :
    Calls Try.prog 13 #[v, u] w fun e w' => e = .returned (.bool (isCovB g l)) ∧ Below w.heap.size w w' := by
  have h0 := h
  obtain ⟨v1, v2, v3, rfl, ho, hr, hk⟩ := h
  obtain ⟨A1, c1, rfl, _, _, _⟩ := ho.cells
  obtain ⟨A2, c2, rfl, _, _, _⟩ := hr.cells
  obtain ⟨A3, c3, rfl, _, _, hck⟩ := hk.cells
  obtain ⟨A, c, rfl, _, _, hcl⟩ := hl.cells
  obtain ⟨W, hW, Hz, hwW, hlt0, hc0⟩ := boxed w #[.slice A1 g.obv.length c1, .slice A2 g.rev.length c2, .slice A3 g.links.length c3] 25
  have a0 := hc0 0 _ rfl; have a1 := hc0 1 _ rfl; have a2 := hc0 2 _ rfl
  clear hc0 ho hr hk
  go_enter Try.func13, Try.ntmps13
  go_wp2_with fail
  refine (Dies_ok _ _ _ (h0.below hwW)).mono ?_
  rintro e w1 ⟨ud, rfl, hud, hb1⟩
  clear hW
  have b0 := cell_later hb1 a0; have b1 := cell_later hb1 a1; have b2 := cell_later hb1 a2
  have hw1 := below_trans hwW hb1
  clear a0 a1 a2
  cases hg : graphB g
  · have hv : Hid (validE g = 1) := Lib.hid (by simp [validE, hg])
    have HN : Hid (isCovB g l = false) := Lib.hid (isCovB_no fun hp => by have := hp.1; rw [hg] at this; cases this)
    rw [hv.out]
    go_wp2_with fail
    go_ret
    exact ⟨ret_bool HN.out.symm, hw1⟩
  have hv : Hid (validE g = 0) := Lib.hid (by simp [validE, hg])
  rw [hv.out]
  have HC := Lib.hid (isCov_iff hg (l := l))
  have HM : Hid (∀ (x : Die) (W' : World), Below w1.heap.size w1 W' → Calls Try.prog 30 #[ud, valD x] W' fun e w' => e = .returned (.bool (decide (x ∈ diesG g))) ∧ Below W'.heap.size W' w') := fun x W' hb => containsD_ok ud (diesG g) x W' (hud.below hb)
  have HO : Hid (∀ (x y : Die) (W' : World), Calls Try.prog 31 #[valD x, valD y] W' fun e w' => e = .returned (.int .i64 (cmpD x y)) ∧ Below W'.heap.size W' w') := byDie_below
  clear hg
  go_wp2_with fail
  go_loopw [20] (fun i wr => ∃ k : Nat, k ≤ l.length ∧ i = .int .i64 k ∧ Hid (∀ j < k, OkAt (diesG g) ltD l j) ∧ Below w1.heap.size w1 wr) (fun i _ => l.length - (intOf i).toNat)
  case atStart => exact ⟨0, Nat.zero_le _, rfl, fun j hj => absurd hj (by omega), Below.refl _ _⟩
  case round =>
    obtain ⟨k, hk, rfl, Hall, hb⟩ := hrel
    have hwr := below_trans hw1 hb
    by_cases hlt : k < l.length
    · obtain ⟨b, o, rfl, _, hcb⟩ := hcl k hlt
      obtain ⟨x, hx⟩ := get_of_lt hlt
      obtain ⟨e0, e1⟩ := hcb wr hwr k x hx
      obtain ⟨W1, hW1, Hz1, hb2, hlt1, hc1⟩ := boxed wr #[.int .i64 x.side, .int .i64 x.num] 46
      have m0 := Later.cell_all (hc1 0 _ rfl); have m1 := Later.cell_all (hc1 1 _ rfl)
      have hl1 : (k : Int) < (l.length : Int) := by omega
      have hl0 : (0 : Int) ≤ (k : Int) := by omega
      have hbW := below_trans hb hb2
      have HM' := Lib.hid (fun y : Later W1 => HM.out x y.to (below_trans hbW y.h))
      have HwW := Lib.hid (below_trans hwr hb2)
      clear hc1
      cases hm : decide (x ∈ (diesG g))
      · rw [hm] at HM'
        have Hno := Lib.hid (okAt_no (lt := ltD) hx (.inl (by simpa using hm)))
        clear hm hx hcb hcl
        go_wp2_with fail
        refine wp_region_later (by kernel_rfl) (by kernel_rfl) ?_
        repeat (go_big_quiet_step (first | (go_at_call 30; with_reducible exact calls_later (HM'.out _))))
        refine wpQuiet_nil ?_
        intro _ hw'
        obtain ⟨xq, hw''⟩ := hw'
        subst hw''
        have hba := xq.h
        generalize xq.to = wa at hba ⊢
        go_wp2_with fail
        go_ret
        exact ⟨ret_bool (isCovB_no fun hp => Hno.out ((HC.out).1 hp).1).symm, below_trans HwW.out hba⟩
      rw [hm] at HM'
      have Hmem := Lib.hid (show x ∈ (diesG g) by simpa using hm)
      clear hm
      by_cases hk0 : 0 < k
      · obtain ⟨y, hy⟩ := get_of_lt (show k - 1 < l.length by omega)
        obtain ⟨f0', f1'⟩ := hcb wr hwr (k - 1) y hy
        have f0 := Later.cell_all (cell_later hb2 f0'); have f1 := Later.cell_all (cell_later hb2 f1')
        have d5 : decide ((0 : Int) < (k : Int)) = true := by simp; omega
        have HO' := Lib.hid (fun z : Later W1 => HO.out y x z.to)
        have hc := cmpD_neg y x
        have Hyx := Lib.hid (fun h => okAt_no (D := (diesG g)) (lt := ltD) hx (.inr ⟨y, hk0, hy, h⟩))
        have Hok := Lib.hid (fun h => okAt_yes (D := (diesG g)) (lt := ltD) hx Hmem.out (.inr ⟨y, hy, h⟩))
        rw [← hc] at Hyx Hok
        clear hc hx hy hcb hcl f0' f1'
        generalize cmpD y x = c at HO' Hyx Hok
        by_cases hcc : 0 ≤ c
        · have d6 : decide (0 ≤ c) = true := decide_eq_true hcc
          have Hno := Lib.hid (Hyx.out (by omega))
          clear hcc Hok Hyx
          go_wp2_with fail
          refine wp_region_later (by kernel_rfl) (by kernel_rfl) ?_
          repeat (go_big_quiet_step (first | (go_at_call 30; with_reducible exact calls_later (HM'.out _)) | (go_at_call 31; with_reducible exact calls_later (HO'.out _))))
          refine wpQuiet_nil ?_
          intro _ hw'
          obtain ⟨xq, hw''⟩ := hw'
          subst hw''
          have hba := xq.h
          generalize xq.to = wa at hba ⊢
          go_wp2_with fail
          go_ret
          exact ⟨ret_bool (isCovB_no fun hp => Hno.out ((HC.out).1 hp).1).symm, below_trans HwW.out hba⟩
        · have d6 : decide (0 ≤ c) = false := decide_eq_false hcc
          have Hok' := Lib.hid (Hok.out (by omega))
          clear hcc Hok Hyx
          go_wp2_with fail
          refine wp_region_later (by kernel_rfl) (by kernel_rfl) ?_
          repeat (go_big_quiet_step (first | (go_at_call 30; with_reducible exact calls_later (HM'.out _)) | (go_at_call 31; with_reducible exact calls_later (HO'.out _))))
          refine wpQuiet_nil ?_
          intro _ hw'
          obtain ⟨xq, hw''⟩ := hw'
          subst hw''
          have hba := xq.h
          generalize xq.to = wa at hba ⊢
          go_wp2_with fail
          refine ⟨?rel, ?measure⟩
          case rel => exact ⟨k + 1, by omega, by go_num, okAt_snoc Hall.out Hok'.out, below_trans hbW hba⟩
          case measure => first | (simp [intOf]; done) | (simp [intOf]; omega)
      · have d5 : decide ((0 : Int) < (k : Int)) = false := by simp; omega
        have Hok' := Lib.hid (okAt_yes (lt := ltD) hx Hmem.out (.inl (show k = 0 by omega)))
        clear hx hcb hcl
        go_wp2_with fail
        refine wp_region_later (by kernel_rfl) (by kernel_rfl) ?_
        repeat (go_big_quiet_step (first | (go_at_call 30; with_reducible exact calls_later (HM'.out _))))
        refine wpQuiet_nil ?_
        intro _ hw'
        obtain ⟨xq, hw''⟩ := hw'
        subst hw''
        have hba := xq.h
        generalize xq.to = wa at hba ⊢
        go_wp2_with fail
        refine ⟨?rel, ?measure⟩
        case rel => exact ⟨k + 1, by omega, by go_num, okAt_snoc Hall.out Hok'.out, below_trans hbW hba⟩
        case measure => first | (simp [intOf]; done) | (simp [intOf]; omega)
    · have Hal := Lib.hid (okAt_all hlt Hall.out)
      have d0 := cell_later hb b0; have d1 := cell_later hb b1; have d2 := cell_later hb b2
      clear HM HO Hall hcl
      obtain ⟨wp, hwp⟩ : ∃ z, wr = z := ⟨_, rfl⟩
      subst hwp
      go_wp2_with fail
      go_loopw [47] (fun i wq => ∃ k : Nat, k ≤ g.links.length ∧ i = .int .i64 k ∧ Hid (∀ x ∈ g.links.take k, (⟨0, x.obv⟩ : Die) ∈ l ∨ (⟨1, x.rev⟩ : Die) ∈ l) ∧ Below w.heap.size w wq) (fun i _ => g.links.length - (intOf i).toNat)
      case atStart => exact ⟨0, Nat.zero_le _, rfl, fun x hx => absurd hx (by simp), hwr⟩
      case round =>
        clear hlt hk
        obtain ⟨k, hk, rfl, Hall, hbq⟩ := hrel
        by_cases hlt : k < g.links.length
        · obtain ⟨b, o, rfl, _, hcb⟩ := hck k hlt
          obtain ⟨x, hx⟩ := get_of_lt hlt
          obtain ⟨e0, e1, e2⟩ := hcb _ hbq k x hx
          obtain ⟨W1, hW1, Hz1, hb2, hlt1, hc1⟩ := boxed wr #[.int .i64 x.id, .int .i64 x.obv, .int .i64 x.rev] 32
          have m1 := hc1 1 _ rfl; have m2 := hc1 2 _ rfl
          have hbW := below_trans hbq hb2
          have HC1 := Lib.hid (containsD_ok (.slice A l.length c) l ⟨0, x.obv⟩ W1 (hl.below hbW))
          have hcb' := Lib.hid hcb
          clear hc1 hcb hck
          cases h1 : decide ((⟨0, x.obv⟩ : Die) ∈ l)
          · rw [h1] at HC1
            have hn1 : (⟨0, x.obv⟩ : Die) ∉ l := by simpa using h1
            have Hx := Lib.hid hx; have Hn1 := Lib.hid hn1
            clear hx hn1 h1
            go_wp2_with fail
            refine HC1.out.mono ?_
            rintro e w3 ⟨rfl, hb3⟩
            have hbX := below_trans hbW hb3
            have n2 := cell_later hb3 m2
            have HC2 := Lib.hid (containsD_ok (.slice A l.length c) l ⟨1, x.rev⟩ w3 (hl.below hbX))
            clear m1 m2 HC1
            cases h2 : decide ((⟨1, x.rev⟩ : Die) ∈ l)
            · rw [h2] at HC2
              have HN : Hid (isCovB g l = false) := Lib.hid (isCovB_no fun hp => by
                rcases (HC.out.1 hp).2 x (List.mem_of_getElem? Hx.out) with h | h
                · exact Hn1.out h
                · simp [h] at h2)
              clear h2
              go_wp2_with fail
              refine HC2.out.mono ?_
              rintro e w4 ⟨rfl, hb4⟩
              go_wp2_with fail
              go_ret
              exact ⟨ret_bool HN.out.symm, below_trans hbX hb4⟩
            · rw [h2] at HC2
              have Ha := Lib.hid (mem_snoc (P := fun x : Link => (⟨0, x.obv⟩ : Die) ∈ l ∨ (⟨1, x.rev⟩ : Die) ∈ l) Hx.out Hall.out (.inr (by simpa using h2)))
              clear h2
              go_wp2_with fail
              refine HC2.out.mono ?_
              rintro e w4 ⟨rfl, hb4⟩
              go_wp2_with fail
              refine ⟨?rel, ?measure⟩
              case rel => exact ⟨k + 1, by omega, by go_num, Ha.out, below_trans hbX hb4⟩
              case measure => first | (simp [intOf]; done) | (simp [intOf]; omega)
          · rw [h1] at HC1
            have Ha := Lib.hid (mem_snoc (P := fun x : Link => (⟨0, x.obv⟩ : Die) ∈ l ∨ (⟨1, x.rev⟩ : Die) ∈ l) hx Hall.out (.inl (by simpa using h1)))
            clear hx h1
            go_wp2_with fail
            refine HC1.out.mono ?_
            rintro e w3 ⟨rfl, hb3⟩
            go_wp2_with fail
            refine ⟨?rel, ?measure⟩
            case rel => exact ⟨k + 1, by omega, by go_num, Ha.out, below_trans hbW hb3⟩
            case measure => first | (simp [intOf]; done) | (simp [intOf]; omega)
        · have HY : Hid (isCovB g l = true) := Lib.hid (isCovB_yes (HC.out.2 ⟨Hal.out, fun x hx => Hall.out x (by rw [List.take_of_length_le (by omega)]; exact hx)⟩))
          go_wp2_with fail
          go_ret
          exact ⟨ret_bool HY.out.symm, hbq⟩
end Go.Proofs.Ytnaoiochfdipiaa
