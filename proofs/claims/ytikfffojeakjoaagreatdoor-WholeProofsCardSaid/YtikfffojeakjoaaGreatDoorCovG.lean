/- slices.Index and Contains at pairs and dies, byDie. No condition but that the slices read as lists. -/
import Derived.Test.YtikfffojeakjoaaGreatDoorCovE
import Derived.Test.YtikfffojeakjoaaGreatDoorDelL
import Derived.Test.YtikfffojeakjoaaGreatDoorPairA
namespace Go.Proofs.YtikfffojeakjoaaGreatDoor
open Go.RowKit Go.Shelf Go.Maps

theorem firstI_mem {α : Type} [DecidableEq α] (y : α) (xs : List α) : decide (0 ≤ firstI (fun z => decide (z = y)) xs) = decide (y ∈ xs) := by
  by_cases h : xs.all (fun x => !(fun z => decide (z = y)) x) = true
  · rw [firstI_miss h, decide_eq_false (by omega), decide_eq_false]
    intro hm
    have := List.all_eq_true.1 h y hm
    simp at this
  · obtain ⟨i, x, h1, h2, h3⟩ := first_hit h
    rw [firstI_hit h1 h2 h3, decide_eq_true (by omega), decide_eq_true]
    simp only [decide_eq_true_eq] at h3
    rw [← h3]
    exact List.mem_of_getElem? h1
set_option maxHeartbeats 2000000 in
set_option maxRecDepth 100000 in
theorem indexD_ok (v : Value) (xs : List Die) (y : Die) (w : World) (h : Dies w v xs) :
    Calls Tryz.prog 110 #[v, valD y] w fun e w' => e = .returned (.int .i64 (firstI (fun z => decide (z = y)) xs)) ∧ Below w.heap.size w w' := by
  obtain ⟨A, c, rfl, _, _, hc⟩ := h.cells
  obtain ⟨W, hW, Hz, hwW, hlt0, hc1⟩ := boxed w #[.int .i64 y.side, .int .i64 y.num] 43
  have b0 := hc1 0 _ rfl; have b1 := hc1 1 _ rfl
  clear hc1
  go_enter Tryz.func110, Tryz.ntmps110
  go_wp2_with fail
  clear hW
  go_loopw [8] (fun i wr => ∃ k : Nat, k ≤ xs.length ∧ i = .int .i64 k ∧ Hid ((xs.take k).all (fun x => !decide (x = y)) = true) ∧ Below W.heap.size W wr) (fun i _ => xs.length - (intOf i).toNat)
  case atStart => exact ⟨0, Nat.zero_le _, rfl, by show _ = _; simp, Below.refl _ _⟩
  case round =>
    obtain ⟨k, hk, rfl, Hr, hb⟩ := hrel
    by_cases hlt : k < xs.length
    · obtain ⟨b, o, rfl, _, hcb⟩ := hc k hlt
      obtain ⟨x, hx⟩ := get_of_lt hlt
      have hw := below_trans hwW hb
      obtain ⟨e0, e1⟩ := hcb wr hw k x hx
      have m0 := Later.cell_all e0; have m1 := Later.cell_all e1
      have n0 := Later.cell_all (cell_later hb b0); have n1 := Later.cell_all (cell_later hb b1)
      have hl1 : (k : Int) < (xs.length : Int) := by omega
      have hl0 : (0 : Int) ≤ (k : Int) := by omega
      have Hx := Lib.hid hx; clear hx hc hcb e0 e1
      by_cases h1 : y.side = x.side
      · have d1 : (y.side = x.side) = True := eq_true h1
        by_cases h2 : y.num = x.num
        · have d2 : (y.num = x.num) = True := eq_true h2
          have hp := firstI_hit (p := fun z => decide (z = y)) Hx.out Hr.out (by cases x; cases y; simp_all)
          have Hp := Lib.hid hp; clear hp h1 h2
          go_wp2_with fail
          refine wp_region_later (by kernel_rfl) (by kernel_rfl) ?_
          repeat (go_big_quiet_step (first | fail))
          refine wpQuiet_nil ?_
          intro _ hw'
          obtain ⟨xq, hw''⟩ := hw'
          subst hw''
          have hba := xq.h
          generalize xq.to = wa at hba ⊢
          clear m0 m1 n0 n1
          have hb' := below_trans hb hba
          go_wp2_with fail
          go_ret
          exact ⟨ret_i64 Hp.out.symm, below_trans hwW hb'⟩
        · have d2 : (y.num = x.num) = False := eq_false h2
          have hn := all_snoc (p := fun z => !decide (z = y)) Hx.out Hr.out (by simp; intro e; subst e; exact h2 rfl)
          have Hn := Lib.hid hn; clear hn h1 h2
          go_wp2_with fail
          refine wp_region_later (by kernel_rfl) (by kernel_rfl) ?_
          repeat (go_big_quiet_step (first | fail))
          refine wpQuiet_nil ?_
          intro _ hw'
          obtain ⟨xq, hw''⟩ := hw'
          subst hw''
          have hba := xq.h
          generalize xq.to = wa at hba ⊢
          clear m0 m1 n0 n1
          have hb' := below_trans hb hba
          go_wp2_with fail
          refine ⟨?rel, ?measure⟩
          case rel => exact ⟨k + 1, by omega, by go_num, Hn.out, hb'⟩
          case measure => first | (simp [intOf]; done) | (simp [intOf]; omega)
      · have d1 : (y.side = x.side) = False := eq_false h1
        have hn := all_snoc (p := fun z => !decide (z = y)) Hx.out Hr.out (by simp; intro e; subst e; exact h1 rfl)
        have Hn := Lib.hid hn; clear hn h1
        go_wp2_with fail
        refine wp_region_later (by kernel_rfl) (by kernel_rfl) ?_
        repeat (go_big_quiet_step (first | fail))
        refine wpQuiet_nil ?_
        intro _ hw'
        obtain ⟨xq, hw''⟩ := hw'
        subst hw''
        have hba := xq.h
        generalize xq.to = wa at hba ⊢
        clear m0 m1 n0 n1
        have hb' := below_trans hb hba
        go_wp2_with fail
        refine ⟨?rel, ?measure⟩
        case rel => exact ⟨k + 1, by omega, by go_num, Hn.out, hb'⟩
        case measure => first | (simp [intOf]; done) | (simp [intOf]; omega)
    · have Hm : Hid (firstI (fun z => decide (z = y)) xs = -1) := firstI_miss (all_end hlt Hr.out)
      go_wp2_with fail
      go_ret
      exact ⟨ret_i64 Hm.out.symm, below_trans hwW hb⟩
theorem containsD_ok (v : Value) (xs : List Die) (y : Die) (w : World) (h : Dies w v xs) :
    Calls Tryz.prog 99 #[v, valD y] w fun e w' => e = .returned (.bool (decide (y ∈ xs))) ∧ Below w.heap.size w w' := by
  obtain ⟨W, hW, Hz, hwW, hlt0, hc1⟩ := boxed w #[.int .i64 y.side, .int .i64 y.num] 43
  have b0 := hc1 0 _ rfl; have b1 := hc1 1 _ rfl
  clear hc1
  have HC := Lib.hid (indexD_ok v xs y W (h.below hwW))
  obtain ⟨R, hR⟩ : ∃ R, firstI (fun z => decide (z = y)) xs = R := ⟨_, rfl⟩
  have hd : decide (0 ≤ R) = decide (y ∈ xs) := by rw [← hR]; exact firstI_mem y xs
  rw [hR] at HC
  clear hR
  generalize decide (y ∈ xs) = D at hd ⊢
  have Hd := Lib.hid hd; clear hd
  go_enter Tryz.func99, Tryz.ntmps99
  go_wp2_with fail
  clear hW
  refine HC.out.mono ?_
  rintro e w1 ⟨rfl, hb1⟩
  go_wp2_with fail
  go_ret
  exact ⟨by rw [← Hd.out]; rfl, below_trans hwW hb1⟩
end Go.Proofs.YtikfffojeakjoaaGreatDoor
/- cover.byDie, IsCover. Condition: the arguments read as a graph and dies. -/
namespace Go.Proofs.YtikfffojeakjoaaGreatDoor
open Go.RowKit Go.Shelf Go.Maps

def cmpD (x y : Die) : Int := orI (Lib.compareInt x.side y.side) (Lib.compareInt x.num y.num)
theorem below_grow (W : World) (q : Nat) (os : Array Obj) : Below W.heap.size W (Go.Sort.grow (W.drewN q) os) :=
  ⟨rfl, rfl, rfl, by simp [Go.Sort.grow, World.drewN], fun k hk => by simp [Go.Sort.grow, World.drewN, Array.getElem?_append_left hk]⟩
theorem cmpD_neg (x y : Die) : (cmpD x y < 0) = ltD x y := by
  unfold cmpD Lib.compareInt orI ltD
  apply propext
  repeat' split
  all_goals omega
theorem cmpP_neg (x y : Pair) : (cmpP x y < 0) = ltP x y := by
  unfold cmpP Lib.compareInt orI ltP
  apply propext
  repeat' split
  all_goals omega

/-- An element of a list that has the right place and is one of D. -/
def OkAt {α : Type} (D : List α) (lt : α → α → Prop) (l : List α) (j : Nat) : Prop := ∃ d, l[j]? = some d ∧ d ∈ D ∧ ∀ y, 0 < j → l[j - 1]? = some y → lt y d
section
variable {α : Type} {D : List α} {lt : α → α → Prop} {l : List α} {k : Nat} {x : α}
theorem okAt_no (hx : l[k]? = some x) (h : x ∉ D ∨ ∃ y, 0 < k ∧ l[k - 1]? = some y ∧ ¬ lt y x) : ¬ ∀ j < l.length, OkAt D lt l j := fun ha => by
  obtain ⟨d, e, h1, h2⟩ := ha k (lt_of_get hx)
  rw [hx] at e
  cases e
  rcases h with h | ⟨y, h3, h4, h5⟩
  · exact h h1
  · exact h5 (h2 y h3 h4)
theorem okAt_yes (hx : l[k]? = some x) (hm : x ∈ D) (h : k = 0 ∨ ∃ y, l[k - 1]? = some y ∧ lt y x) : OkAt D lt l k := by
  refine ⟨x, hx, hm, fun z h0 hz => ?_⟩
  rcases h with h | ⟨y, h1, h2⟩
  · omega
  · rw [h1] at hz; cases hz; exact h2
theorem okAt_snoc (h : ∀ j < k, OkAt D lt l j) (hk : OkAt D lt l k) : ∀ j < k + 1, OkAt D lt l j := fun j hj => by
  by_cases e : j = k
  · rw [e]; exact hk
  · exact h j (by omega)
theorem okAt_all (hk : ¬ k < l.length) (h : ∀ j < k, OkAt D lt l j) : ∀ j < l.length, OkAt D lt l j := fun j hj => h j (by omega)
theorem mem_snoc {β : Type} {l : List β} {k : Nat} {x : β} {P : β → Prop} (hx : l[k]? = some x) (h : ∀ y ∈ l.take k, P y) (hp : P x) : ∀ y ∈ l.take (k + 1), P y := fun y hy => by
  rw [take_snoc' hx, List.mem_append, List.mem_singleton] at hy
  rcases hy with hy | rfl
  · exact h y hy
  · exact hp
theorem pairwise_consec (tr : ∀ a b c, lt a b → lt b c → lt a c) : ∀ {l : List α}, (∀ j x y, l[j]? = some x → l[j + 1]? = some y → lt x y) → l.Pairwise lt
  | [], _ => List.Pairwise.nil
  | a :: l, h => by
    have ih := pairwise_consec tr (l := l) (fun j x y hx hy => h (j + 1) x y (by simpa using hx) (by simpa using hy))
    refine List.pairwise_cons.2 ⟨fun b hb => ?_, ih⟩
    cases l with
    | nil => cases hb
    | cons c l =>
      have hac := h 0 a c rfl rfl
      rcases List.mem_cons.1 hb with rfl | hb
      · exact hac
      · exact tr _ _ _ hac ((List.pairwise_cons.1 ih).1 b hb)
theorem okAll_iff (tr : ∀ a b c, lt a b → lt b c → lt a c) : (∀ j < l.length, OkAt D lt l j) ↔ (∀ d ∈ l, d ∈ D) ∧ l.Pairwise lt := by
  constructor
  · refine fun h => ⟨fun d hd => ?_, pairwise_consec tr fun j x y hx hy => ?_⟩
    · obtain ⟨i, hi⟩ := List.getElem?_of_mem hd
      obtain ⟨z, e, h1, _⟩ := h i (lt_of_get hi)
      rw [hi] at e; cases e; exact h1
    · obtain ⟨z, e, _, h2⟩ := h (j + 1) (lt_of_get hy)
      rw [hy] at e; cases e
      exact h2 x (by omega) hx
  · rintro ⟨h1, h2⟩ j hj
    obtain ⟨d, hd⟩ := get_of_lt hj
    refine ⟨d, hd, h1 d (List.mem_of_getElem? hd), fun y h0 hy => ?_⟩
    rw [List.pairwise_iff_getElem] at h2
    obtain ⟨i1, e1⟩ := List.getElem?_eq_some_iff.1 hy
    obtain ⟨i2, e2⟩ := List.getElem?_eq_some_iff.1 hd
    rw [← e1, ← e2]
    exact h2 _ _ i1 i2 (by omega)
end
theorem ltD_trans (a b c : Die) (h : ltD a b) (k : ltD b c) : ltD a c := by unfold ltD at *; omega
theorem ltP_trans (a b c : Pair) (h : ltP a b) (k : ltP b c) : ltP a c := by unfold ltP at *; omega
/-- Whether dies are a cover. -/
def IsCovP (g : Graph) (l : List Die) : Prop := graphB g = true ∧ IsCov g l
noncomputable def isCovB (g : Graph) (l : List Die) : Bool := @decide (IsCovP g l) (Classical.propDecidable _)
theorem isCovB_yes {g : Graph} {l : List Die} (h : IsCovP g l) : isCovB g l = true := by unfold isCovB; exact @decide_eq_true _ (Classical.propDecidable _) h
theorem isCovB_no {g : Graph} {l : List Die} (h : ¬ IsCovP g l) : isCovB g l = false := by unfold isCovB; exact @decide_eq_false _ (Classical.propDecidable _) h
theorem diesG_mem {g : Graph} (hg : graphB g = true) (d : Die) : d ∈ diesG g ↔ dieIn g d = true := by
  obtain ⟨s, n⟩ := d
  simp only [diesG, if_pos hg, List.mem_append, List.mem_map, Die.mk.injEq, dieIn, Bool.or_eq_true, Bool.and_eq_true, beq_iff_eq, hasB_iff]
  constructor
  · rintro (⟨x, hx, rfl, rfl⟩ | ⟨x, hx, rfl, rfl⟩)
    · exact .inl ⟨rfl, hx⟩
    · exact .inr ⟨rfl, hx⟩
  · rintro (⟨rfl, hx⟩ | ⟨rfl, hx⟩)
    · exact .inl ⟨n, hx, rfl, rfl⟩
    · exact .inr ⟨n, hx, rfl, rfl⟩
theorem isCov_iff {g : Graph} (hg : graphB g = true) {l : List Die} : IsCovP g l ↔ (∀ j < l.length, OkAt (diesG g) ltD l j) ∧ ∀ x ∈ g.links, (⟨0, x.obv⟩ : Die) ∈ l ∨ (⟨1, x.rev⟩ : Die) ∈ l := by
  rw [okAll_iff ltD_trans]
  constructor
  · rintro ⟨_, h1, h2, h3⟩
    exact ⟨⟨fun d hd => (diesG_mem hg d).2 (h1 d hd), h2⟩, h3⟩
  · rintro ⟨⟨h1, h2⟩, h3⟩
    exact ⟨hg, fun d hd => (diesG_mem hg d).1 (h1 d hd), h2, h3⟩
end Go.Proofs.YtikfffojeakjoaaGreatDoor
/- cover.IsMatching. Condition: the arguments read as a graph and pairs of wellformed numbers. -/
namespace Go.Proofs.YtikfffojeakjoaaGreatDoor
open Go.RowKit Go.Shelf Go.Maps

theorem pairsG_mem {g : Graph} (hg : graphB g = true) (p : Pair) : p ∈ pairsG g ↔ linkedP g p.a p.b := by
  have hE := graphB_ends hg
  rw [pairsG, if_pos hg, pairsOf_mem hE.1 hE.2, List.mem_map]
  constructor
  · rintro ⟨x, hx, rfl⟩; exact ⟨x, hx, rfl, rfl⟩
  · rintro ⟨x, hx, h1, h2⟩; exact ⟨x, hx, by cases p; simp only [pairOf]; simp_all⟩
/-- Whether pairs are a matching. -/
def IsMatP (g : Graph) (l : List Pair) : Prop := graphB g = true ∧ IsMat g l
noncomputable def isMatB (g : Graph) (l : List Pair) : Bool := @decide (IsMatP g l) (Classical.propDecidable _)
theorem isMatB_yes {g : Graph} {l : List Pair} (h : IsMatP g l) : isMatB g l = true := by unfold isMatB; exact @decide_eq_true _ (Classical.propDecidable _) h
theorem isMatB_no {g : Graph} {l : List Pair} (h : ¬ IsMatP g l) : isMatB g l = false := by unfold isMatB; exact @decide_eq_false _ (Classical.propDecidable _) h
theorem isMatB_iff {g : Graph} {l : List Pair} : isMatB g l = true ↔ IsMatP g l := ⟨fun h => by unfold isMatB at h; exact @of_decide_eq_true _ (Classical.propDecidable _) h, isMatB_yes⟩
/-- The maps of a list are as long as it just when no number stands twice. -/
theorem putAll_len {f h : Pair → Int} : ∀ (l : List Pair) (m : List (Int × Int)), (m.map Prod.fst).Nodup →
    ((l.foldl (fun m p => putM m (f p) (h p)) m).length ≤ m.length + l.length ∧ ((l.foldl (fun m p => putM m (f p) (h p)) m).length = m.length + l.length ↔ (m.map Prod.fst ++ l.map f).Nodup))
  | [], m, hm => by simp [hm]
  | p :: l, m, hm => by
    have ih := putAll_len (f := f) (h := h) l (putM m (f p) (h p)) (putM_nodup hm _ _)
    rw [putM_len, putM_keys] at ih
    simp only [List.foldl_cons, List.length_cons, List.map_cons]
    by_cases hx : f p ∈ m.map Prod.fst
    · rw [if_pos hx, if_pos hx] at ih
      refine ⟨by omega, ⟨fun e => by omega, fun hn => ?_⟩⟩
      rw [List.nodup_append] at hn
      exact absurd rfl (hn.2.2 _ hx _ (by simp))
    · rw [if_neg hx, if_neg hx] at ih
      refine ⟨by omega, ?_⟩
      rw [show m.length + (l.length + 1) = m.length + 1 + l.length by omega, ih.2, List.append_assoc]
      simp
theorem ofS_obv (l : List Pair) : (ofS l).obv = l.foldl (fun m p => putM m p.a p.b) [] ∧ (ofS l).rev = l.foldl (fun m p => putM m p.b p.a) [] := by
  have : ∀ (l : List Pair) (s : St), (l.foldl (fun s p => s.set p.a p.b) s).obv = l.foldl (fun m p => putM m p.a p.b) s.obv ∧ (l.foldl (fun s p => s.set p.a p.b) s).rev = l.foldl (fun m p => putM m p.b p.a) s.rev := by
    intro l
    induction l with
    | nil => intro s; exact ⟨rfl, rfl⟩
    | cons p l ih => intro s; exact ih _
  exact this l _
theorem ofS_obv_len (l : List Pair) : (ofS l).obv.length = l.length ↔ (l.map Pair.a).Nodup := by
  have := (putAll_len (f := Pair.a) (h := Pair.b) l [] (by simp)).2
  rw [(ofS_obv l).1]
  simpa using this
theorem ofS_rev_len (l : List Pair) : (ofS l).rev.length = l.length ↔ (l.map Pair.b).Nodup := by
  have := (putAll_len (f := Pair.b) (h := Pair.a) l [] (by simp)).2
  rw [(ofS_obv l).2]
  simpa using this
theorem isMat_iff {g : Graph} (hg : graphB g = true) {l : List Pair} : IsMatP g l ↔ (∀ j < l.length, OkAt (pairsG g) ltP l j) ∧ (ofS l).obv.length = l.length ∧ (ofS l).rev.length = l.length := by
  rw [okAll_iff ltP_trans, ofS_obv_len, ofS_rev_len]
  constructor
  · rintro ⟨_, h1, h2, h3⟩
    have h2' := h2
    rw [List.pairwise_map] at h2'
    exact ⟨⟨fun d hd => (pairsG_mem hg d).2 (h1 d hd), h2'.imp fun h => .inl h⟩, h2.imp fun h e => by omega, h3⟩
  · rintro ⟨⟨h1, h2⟩, h3, h4⟩
    refine ⟨hg, fun d hd => (pairsG_mem hg d).1 (h1 d hd), ?_, h4⟩
    rw [List.pairwise_map]
    rw [List.nodup_iff_pairwise_ne, List.pairwise_map] at h3
    exact (h2.and h3).imp fun {a b} h => by
      obtain ⟨h5, h6⟩ := h
      unfold ltP at h5
      omega
end Go.Proofs.YtikfffojeakjoaaGreatDoor
/- A matching that is given as pairs, and one step more, plain. No program in sight, no condition. -/
namespace Go.Proofs.YtikfffojeakjoaaGreatDoor
open Go.RowKit

section
variable {f h : Pair → Int}
theorem putAll_out {x : Int} : ∀ (l : List Pair) (m : List (Int × Int)), x ∉ l.map f → lookM (l.foldl (fun m p => putM m (f p) (h p)) m) x = lookM m x
  | [], m, _ => rfl
  | p :: l, m, hx => by
    simp only [List.map_cons, List.mem_cons, not_or] at hx
    rw [List.foldl_cons, putAll_out l _ hx.2, lookM_putM, if_neg (fun e => hx.1 e.symm)]
theorem putAll_in : ∀ (l : List Pair) (m : List (Int × Int)), (l.map f).Nodup → ∀ p ∈ l, lookM (l.foldl (fun m p => putM m (f p) (h p)) m) (f p) = some (h p)
  | [], _, _, p, hp => absurd hp (by simp)
  | q :: l, m, hn, p, hp => by
    rw [List.map_cons, List.nodup_cons] at hn
    rw [List.foldl_cons]
    rcases List.mem_cons.1 hp with rfl | hp
    · rw [putAll_out l _ hn.1, lookM_putM, if_pos rfl]
    · exact putAll_in l _ hn.2 p hp
theorem putAll_nodup : ∀ (l : List Pair) (m : List (Int × Int)), (m.map Prod.fst).Nodup → ((l.foldl (fun m p => putM m (f p) (h p)) m).map Prod.fst).Nodup
  | [], _, hm => hm
  | p :: l, m, hm => by rw [List.foldl_cons]; exact putAll_nodup l _ (putM_nodup hm _ _)
theorem putAll_look {l : List Pair} (hn : (l.map f).Nodup) {x y : Int} (hl : lookM (l.foldl (fun m p => putM m (f p) (h p)) []) x = some y) : ∃ p ∈ l, f p = x ∧ h p = y := by
  by_cases hx : x ∈ l.map f
  · obtain ⟨p, hp, rfl⟩ := List.mem_map.1 hx
    rw [putAll_in l [] hn p hp] at hl
    exact ⟨p, hp, rfl, Option.some.inj hl⟩
  · rw [putAll_out l [] hx] at hl
    simp [lookM] at hl
end
theorem IsMat.nodA {g : Graph} {l : List Pair} (h : IsMat g l) : (l.map Pair.a).Nodup := h.asc.imp fun h e => by omega
theorem ofS_look {g : Graph} {l : List Pair} (h : IsMat g l) {a r : Int} : (lookM (ofS l).obv a = some r ↔ (⟨a, r⟩ : Pair) ∈ l) ∧ (lookM (ofS l).rev r = some a ↔ (⟨a, r⟩ : Pair) ∈ l) := by
  rw [(ofS_obv l).1, (ofS_obv l).2]
  refine ⟨⟨fun e => ?_, fun e => putAll_in (f := Pair.a) (h := Pair.b) l [] h.nodA _ e⟩, ⟨fun e => ?_, fun e => putAll_in (f := Pair.b) (h := Pair.a) l [] h.inj _ e⟩⟩
  · obtain ⟨p, hp, rfl, rfl⟩ := putAll_look (f := Pair.a) (h := Pair.b) h.nodA e; exact hp
  · obtain ⟨p, hp, rfl, rfl⟩ := putAll_look (f := Pair.b) (h := Pair.a) h.inj e; exact hp
theorem ofS_good {g : Graph} (hg : graphB g = true) {l : List Pair} (h : IsMat g l) : Good g (ofS l) := by
  refine ⟨⟨fun a r e => (ofS_look h).2.2 ((ofS_look h).1.1 e), fun a r e => (ofS_look h).1.2 ((ofS_look h).2.1 e), fun a r e => (nbr_mem hg).2 (h.link _ ((ofS_look h).2.1 e))⟩, ?_, ?_⟩
  · rw [(ofS_obv l).2]; exact putAll_nodup l [] (by simp)
  · rw [(ofS_obv l).1]; exact putAll_nodup l [] (by simp)
/-- Whatever had a pair has one. -/
def KeptP (l m : List Pair) : Prop := ∀ p ∈ l, (∃ q ∈ m, q.a = p.a) ∧ ∃ q ∈ m, q.b = p.b
/-- One search more. -/
def moreG (g : Graph) (l : List Pair) : Bool × St := moreL (nbr g) (g.rev.length + 1) g.obv (ofS l)
theorem more_list {g : Graph} (hg : graphB g = true) {l : List Pair} (h : IsMat g l) {n : Nat} (hO : Opt g n) :
    l.length ≤ n ∧ ((moreG g l).1 = false → l.length = n) ∧ ((moreG g l).1 = true → Good g (moreG g l).2 ∧ ∀ ys, ListOf (moreG g l).2.obv ys → IsMat g ys ∧ ys.length = l.length + 1 ∧ l.length < n ∧ KeptP l ys) := by
  have hG := ofS_good hg h
  have hlr : (ofS l).rev.length = l.length := (ofS_rev_len l).2 h.inj
  obtain ⟨b, s', hq⟩ : ∃ b s', moreG g l = (b, s') := ⟨_, _, rfl⟩
  rw [hq]
  refine ⟨hO.le h, fun e => ?_, fun e => ?_⟩
  · simp only at e
    subst e
    obtain ⟨_, _, F, h3, h4⟩ := moreL_false hg (Nat.lt_succ_self _) hG hq
    have := (Great.opt hg ⟨hG, F, h3, h4⟩ (sortM_of hG.nodO)).unique hO
    omega
  · simp only at e
    subst e
    obtain ⟨h1, h2, h3, h4⟩ := moreL_true hg hG hq
    refine ⟨h1, fun ys hy => ?_⟩
    have hm := hy.isMat hg h1
    have hl : ys.length = l.length + 1 := by rw [hy.len, h1.len, h2, hlr]
    have := hO.le hm
    refine ⟨hm, hl, by omega, fun p hp => ⟨?_, ?_⟩⟩
    · have := h3 p.a (by rw [(ofS_look h).1.2 (show (⟨p.a, p.b⟩ : Pair) ∈ l from hp)]; rfl)
      obtain ⟨r, hr⟩ := Option.isSome_iff_exists.1 this
      exact ⟨⟨p.a, r⟩, (hy.mem h1.nodO).2 hr, rfl⟩
    · have := h4 p.b (by rw [(ofS_look h).2.2 (show (⟨p.a, p.b⟩ : Pair) ∈ l from hp)]; rfl)
      obtain ⟨a, ha⟩ := Option.isSome_iff_exists.1 this
      exact ⟨⟨a, p.b⟩, (hy.mem h1.nodO).2 (h1.mate.bwd _ _ ha), rfl⟩
end Go.Proofs.YtikfffojeakjoaaGreatDoor
