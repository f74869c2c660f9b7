/- The reference of chapter 14: ends, place. Condition: the slice reads as a list of dies. -/
import Derived.Test.YtlmjncncmgmehaaGreatQueD
import Derived.Test.YtlmjncncmgmehaaGreatJoinQ
import Derived.Test.YtlmjncncmgmehaaGreatStepP
import Derived.Test.YtlmjncncmgmehaaGreatCompB
namespace Go.Proofs.YtlmjncncmgmehaaGreat
open Go.RowKit Go.Shelf Go.Maps

set_option maxHeartbeats 2000000 in
theorem ends14_ok (x : Link) (w : World) : Calls Tryz.prog 144 #[valL x] w fun e w' => e = .returned (.tuple #[vlD (lA x), vlD (lB x)]) ∧ Below w.heap.size w w' := by
  obtain ⟨W0, hW0, Hz0, hb0, hlt0, hc0⟩ := boxed w #[.int .i64 x.id, .int .i64 x.obv, .int .i64 x.rev] 65
  obtain ⟨W1, hW1, Hz1, hb1, hlt1, hc1⟩ := boxed W0 #[.int .i64 0, .int .i64 0] 24
  obtain ⟨W2, hW2, Hz2, hb2, hlt2, hc2⟩ := boxed W1 #[.int .i64 0, .int .i64 0] 24
  have hb12 := below_trans hb1 hb2
  have a1 := cell_later hb12 (hc0 1 _ rfl); have a2 := cell_later hb12 (hc0 2 _ rfl)
  have HW := Lib.hid (below_trans hb0 hb12)
  have g1 : W1.heap[W0.heap.size]? = some (.cells #[.int .i64 0, .int .i64 0] 24 (0, 0)) := by rw [← hW1]; exact heap_alloc_new _ _
  have g2 : W2.heap[W1.heap.size]? = some (.cells #[.int .i64 0, .int .i64 0] 24 (0, 0)) := by rw [← hW2]; exact heap_alloc_new _ _
  have G1 := Lib.hid (heap_below g1 hb2 (heap_lt g1)); have G2 := Lib.hid g2
  clear hc0 hc1 hc2 g1 g2 hb0 hb1 hb2 hb12
  go_enter Tryz.func144, Tryz.ntmps144
  go_wp2_with fail
  have hba : Below W2.heap.size W2 W2.drew := (Below.refl _ _).drew
  obtain ⟨wa, hwa⟩ : ∃ W, W2.drew = W := ⟨_, rfl⟩
  rw [hwa] at hba
  have b1 := cell_later hba a1; have b2 := cell_later hba a2
  have hHeld : wa.cell? ⟨w.heap.size, 1, none⟩ = some (.int .i64 x.obv) ∧ wa.cell? ⟨w.heap.size, 2, none⟩ = some (.int .i64 x.rev) := ⟨b1, b2⟩
  have h1 := heap_below G1.out hba (heap_lt G1.out); have h2 := heap_below G2.out hba (heap_lt G2.out)
  have hne : W0.heap.size ≠ w.heap.size ∧ W1.heap.size ≠ w.heap.size ∧ W0.heap.size ≠ W1.heap.size := by omega
  have HW' := Lib.hid (below_trans HW.out hba)
  refine wp_region_S 7 (fun w' => w'.cell? ⟨w.heap.size, 1, none⟩ = some (.int .i64 x.obv) ∧ w'.cell? ⟨w.heap.size, 2, none⟩ = some (.int .i64 x.rev)) (by kernel_rfl) (by decide) ?_
  rw [hwa]
  clear hwa hW0 hW1 hW2 a1 a2 G1 G2 hba
  refine wpAnyS_takeD 0 (some 4) (.pointer (some ⟨w.heap.size, 1, none⟩)) (by rfl) (by rfl) (by kernel_rfl) (by exact fun _ _ _ h => h) (by rfl) (fun w' hS => by go_simp) hHeld ?_
  simp only [Act.put, List.setIfInBounds_toArray, List.set_cons_succ, List.set_cons_zero]
  refine wpAnyS_takeD 1 (some 5) (.int .i64 x.obv) (by rfl) (by rfl) (by kernel_rfl) (by exact fun _ _ _ h => h) (by rfl) (fun w' hS => by (have q := hS.1; go_simp)) hHeld ?_
  simp only [Act.put, List.setIfInBounds_toArray, List.set_cons_succ, List.set_cons_zero]
  refine wpAnyS_takeD 2 (some 6) (.agg #[.int .i64 0, .int .i64 x.obv]) (by rfl) (by rfl) (by kernel_rfl) (by exact fun _ _ _ h => h) (by rfl) (fun w' hS => by go_simp) hHeld ?_
  simp only [Act.put, List.setIfInBounds_toArray, List.set_cons_succ, List.set_cons_zero]
  refine wpAnyS_takeD 3 (some 7) (.pointer (some ⟨w.heap.size, 2, none⟩)) (by rfl) (by rfl) (by kernel_rfl) (by exact fun _ _ _ h => h) (by rfl) (fun w' hS => by go_simp) hHeld ?_
  simp only [Act.put, List.setIfInBounds_toArray, List.set_cons_succ, List.set_cons_zero]
  refine wpAnyS_takeD 4 (some 8) (.int .i64 x.rev) (by rfl) (by rfl) (by kernel_rfl) (by exact fun _ _ _ h => h) (by rfl) (fun w' hS => by (have q := hS.2; go_simp)) hHeld ?_
  simp only [Act.put, List.setIfInBounds_toArray, List.set_cons_succ, List.set_cons_zero]
  refine wpAnyS_takeD 5 (some 9) (.agg #[.int .i64 1, .int .i64 x.rev]) (by rfl) (by rfl) (by kernel_rfl) (by exact fun _ _ _ h => h) (by rfl) (fun w' hS => by go_simp) hHeld ?_
  simp only [Act.put, List.setIfInBounds_toArray, List.set_cons_succ, List.set_cons_zero]
  have c0 := (heap_cell (i := 0) h1).trans rfl; have c1 := (heap_cell (i := 1) h1).trans rfl; have f0 := heap_free (i := 0) h1; have f1 := heap_free (i := 1) h1
  have d0 := (heap_cell (i := 0) h2).trans rfl; have d1 := (heap_cell (i := 1) h2).trans rfl; have e0 := heap_free (i := 0) h2; have e1 := heap_free (i := 1) h2
  refine wpAnyS_one 6 (by kernel_rfl) (by rfl) (by decide) (fun K hK => ?_)
  have HK := Lib.hid hK; clear hK
  rw [if_pos (by rfl)]
  go_simp
  obtain ⟨wb, hwb⟩ : ∃ z, (wa.setCell ⟨W0.heap.size, 0, none⟩ (.int .i64 0)).setCell ⟨W0.heap.size, 1, none⟩ (.int .i64 x.obv) = z := ⟨_, rfl⟩
  rw [hwb]
  have hgb : wa.grownBy wb (some W0.heap.size) := by rw [← hwb]; exact setCells_grown W0.heap.size [.int .i64 0, .int .i64 x.obv] wa 0
  have r1 : wb.heap[W0.heap.size]? = some (.cells #[.int .i64 0, .int .i64 x.obv] 24 (0, 0)) := by
    have q1 := heap_setCell_same wa W0.heap.size 0 _ _ (.int .i64 0) h1
    have q2 := heap_setCell_same _ W0.heap.size 1 _ _ (.int .i64 x.obv) q1
    rw [hwb] at q2
    simpa using q2
  have r2 := (hgb.block _ (heap_lt h2) (fun e => hne.2.2 (Option.some.inj e).symm)).trans h2
  have s1 : wb.cell? ⟨w.heap.size, 1, none⟩ = some (.int .i64 x.obv) := by rw [World.cell?_of_block (hgb.block _ (World.block_lt_of_cell? wa _ b1) (fun e => hne.1 (Option.some.inj e).symm))]; exact b1
  have s2 : wb.cell? ⟨w.heap.size, 2, none⟩ = some (.int .i64 x.rev) := by rw [World.cell?_of_block (hgb.block _ (World.block_lt_of_cell? wa _ b2) (fun e => hne.1 (Option.some.inj e).symm))]; exact b2
  have HB := Lib.hid (HW'.out.grown hgb HW'.out.size (fun j e => by cases e; omega))
  refine HK.out _ _ ⟨s1, s2⟩ ?_
  clear HK hHeld hwb c0 c1 f0 f1 d0 d1 e0 e1 h1 h2 b1 b2 hgb s1 s2 HW' HW
  refine (show tailOf _ _ _ _ _ _ _ _ from ⟨by kernel_rfl, ?_⟩)
  simp only [List.drop_succ_cons, List.drop_zero]
  have d0 := (heap_cell (i := 0) r2).trans rfl; have d1 := (heap_cell (i := 1) r2).trans rfl; have e0 := heap_free (i := 0) r2; have e1 := heap_free (i := 1) r2
  have c0 : wb.cell? ⟨W0.heap.size, 0, none⟩ = some (.int .i64 0) := heap_cell (i := 0) r1
  have c1 : wb.cell? ⟨W0.heap.size, 1, none⟩ = some (.int .i64 x.obv) := heap_cell (i := 1) r1
  have d0' : wb.cell? ⟨W1.heap.size, 0, none⟩ = some (.int .i64 0) := heap_cell (i := 0) r2
  have d1' : wb.cell? ⟨W1.heap.size, 1, none⟩ = some (.int .i64 0) := heap_cell (i := 1) r2
  obtain ⟨n1, n2, n3⟩ := hne
  have R2 := Lib.hid r2
  clear r1 r2
  go_wp2_with fail
  refine bodyPost_ret (v := .tuple #[vlD (lA x), vlD (lB x)]) (by simp [results, Tryz.results144, go_sem, c0, c1, d0', d1', lA, lB]) rfl ⟨rfl, HB.out.grown (setCells_grown W1.heap.size [.int .i64 1, .int .i64 x.rev] wb 0) HB.out.size (fun j e => by cases e; omega)⟩
def plI (l : List Die) (d : Die) : Int := firstI (fun z => decide (z = d)) l
theorem plI_mem {l : List Die} {d : Die} : 0 ≤ plI l d ↔ d ∈ l := by
  have := firstI_mem d l
  rw [decide_eq_decide] at this
  exact this
theorem plI_at {l : List Die} {d : Die} (h : d ∈ l) : ∃ k : Nat, plI l d = k ∧ l[k]? = some d := by
  by_cases ha : l.all (fun x => !(fun z => decide (z = d)) x) = true
  · have := List.all_eq_true.1 ha d h
    simp at this
  · obtain ⟨i, x, h1, h2, h3⟩ := first_hit ha
    refine ⟨i, firstI_hit h1 h2 h3, ?_⟩
    simp only [decide_eq_true_eq] at h3
    rw [← h3]; exact h1
theorem plI_lt (l : List Die) (d : Die) : -1 ≤ plI l d ∧ plI l d < l.length := by
  by_cases h : d ∈ l
  · obtain ⟨k, h1, h2⟩ := plI_at h
    have := lt_of_get h2
    omega
  · have : l.all (fun x => !(fun z => decide (z = d)) x) = true := by
      rw [List.all_eq_true]
      intro x hx
      simp
      intro e
      subst e
      exact h hx
    have := firstI_miss this
    unfold plI
    omega
set_option maxHeartbeats 2000000 in
set_option maxRecDepth 100000 in
theorem place14_ok (v : Value) (xs : List Die) (y : Die) (w : World) (h : Dies w v xs) :
    Calls Tryz.prog 106 #[v, vlD y] w fun e w' => e = .returned (.int .i64 (plI xs y)) ∧ Below w.heap.size w w' := by
  obtain ⟨A, c, rfl, _, _, hc⟩ := h.cells
  obtain ⟨W, hW, Hz, hwW, hlt0, hc1⟩ := boxed w #[.int .i64 y.side, .int .i64 y.num] 24
  have b0 := hc1 0 _ rfl; have b1 := hc1 1 _ rfl
  clear hc1
  unfold plI
  go_enter Tryz.func106, Tryz.ntmps106
  go_wp2_with fail
  clear hW
  go_loopw [5] (fun i wr => ∃ k : Nat, k ≤ xs.length ∧ i = .int .i64 k ∧ Hid ((xs.take k).all (fun x => !decide (x = y)) = true) ∧ Below W.heap.size W wr) (fun i _ => xs.length - (intOf i).toNat)
  case atStart => exact ⟨0, Nat.zero_le _, rfl, by show _ = _; simp, Below.refl _ _⟩
  case round =>
    obtain ⟨k, hk, rfl, Hr, hb⟩ := hrel
    by_cases hlt : k < xs.length
    · obtain ⟨b, o, rfl, _, hcb⟩ := hc k hlt
      obtain ⟨x, hx⟩ := get_of_lt hlt
      have hw := below_trans hwW hb
      obtain ⟨e0, e1⟩ := hcb wr hw k x hx
      have m0 := Later.cell_all e0; have m1 := Later.cell_all e1
      have n0 := Later.cell_all (cell_later hb b0); have n1 := Later.cell_all (cell_later hb b1)
      have hl1 : (k : Int) < (xs.length : Int) := by omega
      have hl0 : (0 : Int) ≤ (k : Int) := by omega
      have Hx := Lib.hid hx; clear hx hc hcb e0 e1
      by_cases h1 : x.side = y.side
      · have d1 : (x.side = y.side) = True := eq_true h1
        by_cases h2 : x.num = y.num
        · have d2 : (x.num = y.num) = True := eq_true h2
          have hp := firstI_hit (p := fun z => decide (z = y)) Hx.out Hr.out (by cases x; cases y; simp_all)
          have Hp := Lib.hid hp; clear hp h1 h2
          go_wp2_with fail
          refine wp_region_later (by kernel_rfl) (by kernel_rfl) ?_
          repeat (go_big_quiet_step (first | fail))
          refine wpQuiet_nil ?_
          intro _ hw'
          obtain ⟨xq, hw''⟩ := hw'
          subst hw''
          have hba := xq.h
          generalize xq.to = wa at hba ⊢
          clear m0 m1 n0 n1
          have hb' := below_trans hb hba
          go_wp2_with fail
          go_ret
          exact ⟨ret_i64 Hp.out.symm, below_trans hwW hb'⟩
        · have d2 : (x.num = y.num) = False := eq_false h2
          have hn := all_snoc (p := fun z => !decide (z = y)) Hx.out Hr.out (by simp; intro e; subst e; exact h2 rfl)
          have Hn := Lib.hid hn; clear hn h1 h2
          go_wp2_with fail
          refine wp_region_later (by kernel_rfl) (by kernel_rfl) ?_
          repeat (go_big_quiet_step (first | fail))
          refine wpQuiet_nil ?_
          intro _ hw'
          obtain ⟨xq, hw''⟩ := hw'
          subst hw''
          have hba := xq.h
          generalize xq.to = wa at hba ⊢
          clear m0 m1 n0 n1
          have hb' := below_trans hb hba
          go_wp2_with fail
          refine ⟨?rel, ?measure⟩
          case rel => exact ⟨k + 1, by omega, by go_num, Hn.out, hb'⟩
          case measure => first | (simp [intOf]; done) | (simp [intOf]; omega)
      · have d1 : (x.side = y.side) = False := eq_false h1
        have hn := all_snoc (p := fun z => !decide (z = y)) Hx.out Hr.out (by simp; intro e; subst e; exact h1 rfl)
        have Hn := Lib.hid hn; clear hn h1
        go_wp2_with fail
        refine wp_region_later (by kernel_rfl) (by kernel_rfl) ?_
        repeat (go_big_quiet_step (first | fail))
        refine wpQuiet_nil ?_
        intro _ hw'
        obtain ⟨xq, hw''⟩ := hw'
        subst hw''
        have hba := xq.h
        generalize xq.to = wa at hba ⊢
        clear m0 m1 n0 n1
        have hb' := below_trans hb hba
        go_wp2_with fail
        refine ⟨?rel, ?measure⟩
        case rel => exact ⟨k + 1, by omega, by go_num, Hn.out, hb'⟩
        case measure => first | (simp [intOf]; done) | (simp [intOf]; omega)
    · have Hm : Hid (firstI (fun z => decide (z = y)) xs = -1) := firstI_miss (all_end hlt Hr.out)
      go_wp2_with fail
      go_ret
      exact ⟨ret_i64 Hm.out.symm, below_trans hwW hb⟩
end Go.Proofs.YtlmjncncmgmehaaGreat
/- The reference of chapter 14: far. Condition: a valid graph in its memory. -/
namespace Go.Proofs.YtlmjncncmgmehaaGreat
open Go.RowKit Go.Shelf Go.Maps

theorem dies_wfF {g : Graph} (hg : graphB g = true) : ∀ x ∈ g.links, lA x ∈ diesG g ∧ lB x ∈ diesG g := fun x hx => by
  have hE := graphB_ends hg
  rw [diesG, if_pos hg, List.mem_append, List.mem_append]
  exact ⟨.inl (List.mem_map_of_mem (f := Die.mk 0) (hE.1 x hx)), .inr (List.mem_map_of_mem (f := Die.mk 1) (hE.2 x hx))⟩
/-- The row of a make in which the first numbers are -1. -/
def negF (n j : Nat) : List Int := (List.range n).map fun i => if i < j then -1 else 0
theorem negF_zero (n : Nat) : negF n 0 = List.replicate n 0 := by
  refine List.ext_getElem? fun i => ?_
  rw [negF, List.getElem?_map]
  by_cases hi : i < n
  · rw [List.getElem?_range hi, List.getElem?_replicate, if_pos hi]; rfl
  · rw [List.getElem?_eq_none (by simpa using hi), List.getElem?_eq_none (by simpa using hi)]; rfl
theorem negF_set {n j : Nat} (h : j < n) : (negF n j).set j (-1) = negF n (j + 1) := by
  refine List.ext_getElem? fun i => ?_
  rw [List.getElem?_set, negF, negF, List.getElem?_map, List.getElem?_map]
  by_cases hi : i < n
  · rw [List.getElem?_range hi]
    simp only [List.length_map, List.length_range, Option.map_some]
    by_cases e : j = i
    · subst e; rw [if_pos rfl, if_pos h, if_pos (by omega)]
    · rw [if_neg e]
      congr 1
      by_cases h1 : i < j
      · rw [if_pos h1, if_pos (by omega)]
      · rw [if_neg h1, if_neg (by omega)]
  · rw [List.getElem?_eq_none (by simpa using hi), if_neg (by omega)]; rfl
theorem negF_end (n : Nat) : negF n n = List.replicate n (-1) := by
  refine List.ext_getElem? fun i => ?_
  rw [negF, List.getElem?_map]
  by_cases hi : i < n
  · rw [List.getElem?_range hi, List.getElem?_replicate, if_pos hi]; simp [hi]
  · rw [List.getElem?_eq_none (by simpa using hi), List.getElem?_eq_none (by simpa using hi)]; rfl
/-- A row of numbers in a block of its own. -/
def RowI (w : World) (b : Nat) (r : List Int) : Prop := w.heap[b]? = some (.cells (r.map (Value.int .i64)).toArray 3 (0, 0))
section
variable {w w' : World} {b : Nat} {r : List Int}
theorem RowI.cell (h : RowI w b r) {k : Nat} {x : Int} (hx : r[k]? = some x) : w.cell? ⟨b, k, none⟩ = some (.int .i64 x) ∧ w.frozen? ⟨b, k, none⟩ = false := by
  refine ⟨?_, heap_free h⟩
  rw [heap_cell h]; simp [hx]
theorem RowI.set (h : RowI w b r) (k : Nat) (x : Int) : RowI (w.setCell ⟨b, k, none⟩ (.int .i64 x)) b (r.set k x) := by
  have := heap_setCell_same w b k _ _ (.int .i64 x) h
  unfold RowI
  rw [this]; simp [List.map_set]
theorem RowI.lt (h : RowI w b r) : b < w.heap.size := heap_lt h
theorem RowI.below (h : RowI w b r) (hb : Below w.heap.size w w') : RowI w' b r := heap_below h hb (heap_lt h)
theorem RowI.ints (h : RowI w b r) {n : Nat} (hn : n = r.length) (hm : n ≤ maxLen) : Ints w (.slice (some ⟨b, 0, none⟩) n n) r := by
  subst hn
  exact ⟨some ⟨b, 0, none⟩, r.length, rfl, Nat.le_refl _, hm, flat_len encI 1 lenI r, fun _ => ⟨b, 0, rfl, heap_lt h, fun j u hu => by
    rw [Nat.zero_add, heap_cell h]
    rw [flatI] at hu
    simpa using hu⟩⟩
end
theorem map_set_upd {ds : List Die} (hn : ds.Nodup) {k : Nat} {d : Die} (hd : ds[k]? = some d) (f : Die → Int) (x : Int) : (ds.map f).set k x = ds.map (updF f d x) := by
  refine List.ext_getElem? fun i => ?_
  rw [List.getElem?_set, List.getElem?_map, List.getElem?_map]
  have hk := lt_of_get hd
  by_cases e : k = i
  · subst e
    rw [if_pos rfl, if_pos (by rw [List.length_map]; exact hk), hd]
    simp [updF_same]
  · rw [if_neg e]
    cases hi : ds[i]? with
    | none => rfl
    | some y =>
      have : y ≠ d := fun h => by
        subst h
        obtain ⟨h1, h2⟩ := List.getElem?_eq_some_iff.1 hd
        obtain ⟨h3, h4⟩ := List.getElem?_eq_some_iff.1 hi
        exact e ((List.getElem_inj (h₀ := h1) (h₁ := h3) hn).1 (h2.trans h4.symm))
      simp [updF_ne _ _ this]
def farG (g : Graph) (s : Die) : Die → Int := if s ∈ diesG g then roundsF g s (diesG g).length else fun _ => -1

set_option maxHeartbeats 8000000 in
set_option maxRecDepth 100000 in
theorem far14_ok (v : Value) (g : Graph) (hg : graphB g = true) (td : Die) (w : World) (h : GraphAt w v g) :
    Calls Tryz.prog 107 #[v, vlD td] w fun e w' => ∃ b, e = .returned (.slice (some ⟨b, 0, none⟩) (diesG g).length (diesG g).length) ∧ RowI w' b ((diesG g).map (farG g td)) ∧ w.heap.size ≤ b ∧ Below w.heap.size w w' := by
  have h' := h
  obtain ⟨v1, v2, v3, rfl, ho, hr, hk⟩ := h
  obtain ⟨A1, c1, rfl, _, _, _⟩ := ho.cells
  obtain ⟨A2, c2, rfl, _, _, _⟩ := hr.cells
  obtain ⟨A3, c3, rfl, _, _, hkc⟩ := hk.cells
  obtain ⟨W0, hW0, Hz0, hb0, hlt0, hc0⟩ := boxed w #[.slice A1 g.obv.length c1, .slice A2 g.rev.length c2, .slice A3 g.links.length c3] 54
  obtain ⟨W1, hW1, Hz1, hb1, hlt1, hc1⟩ := boxed W0 #[.int .i64 td.side, .int .i64 td.num] 24
  have a0 := cell_later hb1 (hc0 0 _ rfl); have a1 := cell_later hb1 (hc0 1 _ rfl); have a2 := cell_later hb1 (hc0 2 _ rfl)
  have b0 := hc1 0 _ rfl; have b1 := hc1 1 _ rfl
  have hw1 := below_trans hb0 hb1
  clear hc0 hc1 ho hr hk
  have hvz : validE g = 0 := by simp [validE, hg]
  have hdd := dies_wfF hg
  have hnd := dies_nodup hg
  have hok := (graphB_iff g).1 hg
  have hll := hok.ll
  have hdl : (diesG g).length ≤ 64 := by
    have := hok.lo; have := hok.lr
    rw [dies_len hg]; omega
  go_enter Tryz.func107, Tryz.ntmps107
  go_wp2_with fail
  refine (Dies_ok13 _ g _ (h'.below hw1)).mono ?_
  rintro e w2 ⟨ud, rfl, hd, hb2⟩
  rw [hvz]
  have a0 := cell_later hb2 a0; have a1 := cell_later hb2 a1; have a2 := cell_later hb2 a2; have b0 := cell_later hb2 b0; have b1 := cell_later hb2 b1
  have hw2 := below_trans hw1 hb2
  have Hdd := Lib.hid hdd; have Hg := Lib.hid hg
  have HF : Hid (farG g td = if td ∈ diesG g then roundsF g td (diesG g).length else fun _ => -1) := Lib.hid rfl
  obtain ⟨ds, hds⟩ : ∃ ds, diesG g = ds := ⟨_, rfl⟩
  rw [hds] at hd hnd hdl Hdd HF
  obtain ⟨Ad, cd, rfl, _, _, hdc⟩ := id hd.cells
  obtain ⟨N, hN⟩ : ∃ N, ds.length = N := ⟨_, rfl⟩
  have HN := Lib.hid hN
  have hd' := hd
  rw [hN] at hd hdl HF ⊢
  have hmk := run_make_row' (P := Tryz.prog) 26 3 (.int .i64 0) 8 Tryz.underlying26 infoI rfl .i64 .i64 N (by omega) (by omega)
  rw [made_zero] at hmk
  obtain ⟨M, hM⟩ : ∃ z, w2.alloc (.cells (Array.replicate N (Value.int .i64 0)) 3) = z := ⟨_, rfl⟩
  have hbM : Below w2.heap.size w2 M := by rw [← hM]; exact (Below.refl _ _).alloc (Nat.le_refl _) _
  have hMz : w2.heap.size < M.heap.size := by rw [← hM]; simp
  have hrow : RowI M w2.heap.size (negF N 0) := by
    rw [negF_zero, ← hM]
    unfold RowI
    simpa using heap_alloc_new w2 (.cells (Array.replicate N (Value.int .i64 0)) 3)
  have a0 := cell_later hbM a0; have a1 := cell_later hbM a1; have a2 := cell_later hbM a2; have b0 := cell_later hbM b0; have b1 := cell_later hbM b1
  have hwM := below_trans hw2 hbM
  have hw2z := hw2.size
  have hn0 : w.heap.size ∉ [w2.heap.size] ∧ W0.heap.size ∉ [w2.heap.size] := by have := hb2.size; simp; omega
  have Hnd := Lib.hid hnd; have Hds := Lib.hid hds
  clear hvz hdd hok hg hds hN hnd hW0 hW1 hd
  have HC := Lib.hid (fun (w' : World) (hT : Touch M w' [w2.heap.size]) => (⟨cell_off hT hn0.1 a0, cell_off hT hn0.1 a1, cell_off hT hn0.1 a2, cell_off hT hn0.2 b0, cell_off hT hn0.2 b1⟩ : _ ∧ _ ∧ _ ∧ _ ∧ _))
  clear a0 a1 a2 b0 b1
  have hdM := hd'.below hbM
  go_wp2_with fail
  clear hM hmk
  go_loopw [8] (fun jv wr => ∃ j : Nat, j ≤ N ∧ jv = .int .i64 j ∧ RowI wr w2.heap.size (negF N j) ∧ Touch M wr [w2.heap.size]) (fun jv _ => N - (intOf jv).toNat)
  case atStart => exact ⟨0, Nat.zero_le _, rfl, hrow, Touch.refl _ _⟩
  case round =>
    clear hrow
    obtain ⟨j, hj, rfl, hR, hT⟩ := hrel
    by_cases hlt : j < N
    · have d0 : decide (j < N) = true := decide_eq_true hlt
      obtain ⟨p0, p1⟩ := hR.cell (k := j) (x := 0) (by rw [negF, List.getElem?_map, List.getElem?_range hlt]; simp)
      have HR := Lib.hid (hR.set j (-1))
      rw [negF_set hlt] at HR
      have hl1 : (j : Int) < (N : Int) := by omega
      have hl0 : (0 : Int) ≤ (j : Int) := by omega
      clear hR
      go_wp2_with fail
      refine ⟨?rel, ?measure⟩
      case rel => exact ⟨j + 1, by omega, by go_num, HR.out, hT.trans (touch_set rfl (by simp))⟩
      case measure => first | (simp [intOf]; done) | (simp [intOf]; omega)
    · have ej : j = N := by omega
      subst ej
      rw [negF_end, show List.replicate j (-1 : Int) = ds.map (fun _ => -1) by rw [← HN.out, List.map_const']] at hR
      have hwr : Below w.heap.size w wr := (touch_below hwM [w2.heap.size]).trans hT |>.below (by simp; omega) (Nat.le_refl _)
      obtain ⟨a0, a1, a2, b0, b1⟩ := HC.out wr hT
      have hdr : Dies wr (.slice Ad j cd) ds := by rw [← HN.out]; exact hd'.below (((touch_below hbM [w2.heap.size]).trans hT).below (by simp) (Nat.le_refl _))
      have hpl := fun w' (hh : Dies w' (.slice Ad j cd) ds) => place14_ok _ ds td w' hh
      by_cases hin : td ∈ ds
      case neg =>
        have hneg : plI ds td < 0 := by have h1 := mt plI_mem.1 hin; omega
        rw [if_neg hin] at HF
        have HR := Lib.hid hR
        generalize plI ds td = P at hpl hneg
        have HP := Lib.hid hpl
        have d1 : decide (P < 0) = true := decide_eq_true hneg
        clear hneg hin hpl hR a0 a1 a2
        go_wp2_with fail
        refine (HP.out _ hdr).mono ?_
        rintro e w3 ⟨rfl, hb3⟩
        clear b0 b1
        go_wp2_with fail
        go_ret
        exact ⟨w2.heap.size, by rw [Hds.out, HN.out]; rfl, by rw [HF.out, Hds.out]; exact HR.out.below hb3, by omega, below_trans hwr hb3⟩
      obtain ⟨k0, hk0, hget⟩ := plI_at hin
      rw [if_pos hin] at HF
      rw [hk0] at hpl
      have HP := Lib.hid hpl
      have hk0N : k0 < j := by rw [← HN.out]; exact lt_of_get hget
      have HR := Lib.hid hR
      have Hget := Lib.hid hget; have Hin := Lib.hid hin
      clear hpl hR hk0 hget hin
      go_wp2_with fail
      refine (HP.out _ hdr).mono ?_
      rintro e w3 ⟨rfl, hb3⟩
      have b0 := cell_later hb3 b0; have b1 := cell_later hb3 b1
      go_wp2_with fail
      refine (HP.out _ (hdr.below hb3)).mono ?_
      rintro e w4 ⟨rfl, hb4⟩
      have hb34 := below_trans hb3 hb4
      have hR4 := HR.out.below hb34
      obtain ⟨p0, p1⟩ := hR4.cell (k := k0) (x := -1) (by rw [List.getElem?_map, Hget.out]; rfl)
      have hl1 : (k0 : Int) < (j : Int) := by omega
      have hRs := hR4.set k0 0
      rw [map_set_upd Hnd.out Hget.out, show updF (fun _ => (-1 : Int)) td 0 = startF td from rfl] at hRs
      have HRs := Lib.hid hRs
      have HTs := Lib.hid ((hT.trans (touch_below hb34 [w2.heap.size])).trans (touch_set (a := ⟨w2.heap.size, k0, none⟩) (x := .int .i64 0) rfl (by simp)))
      clear hRs hR4 b0 b1 hT
      go_wp2_with fail
      obtain ⟨wS, hwS⟩ : ∃ z, w4.setCell ⟨w2.heap.size, k0, none⟩ (.int .i64 0) = z := ⟨_, rfl⟩
      rw [hwS] at HRs HTs ⊢
      clear p0 p1 hwS hwr hdr a0 a1 a2
      go_loopw [9] (fun kv wr => ∃ k : Nat, k ≤ j ∧ kv = .int .i64 k ∧ RowI wr w2.heap.size (ds.map (roundsF g td k)) ∧ Touch M wr [w2.heap.size]) (fun kv _ => j - (intOf kv).toNat)
      case atStart => exact ⟨0, Nat.zero_le _, rfl, HRs.out, HTs.out⟩
      case round =>
        clear HRs HTs
        obtain ⟨k, hk, rfl, hR, hT⟩ := hrel
        have hwr : Below w.heap.size w wr := (touch_below hwM [w2.heap.size]).trans hT |>.below (by simp; omega) (Nat.le_refl _)
        by_cases hlt2 : k < j
        · obtain ⟨wo, hwo⟩ : ∃ z, z = wr := ⟨_, rfl⟩
          subst hwo
          have d1 : decide (k < j) = true := decide_eq_true hlt2
          obtain ⟨fk, hfk⟩ : ∃ fk, roundsF g td k = fk := ⟨_, rfl⟩
          have Hfk := Lib.hid hfk
          rw [hfk] at hR
          have hkI : (0 : Int) ≤ (k : Int) := by omega
          clear hfk
          go_wp2_with fail
          go_loopw [10] (fun iv wr => ∃ i : Nat, i ≤ g.links.length ∧ iv = .int .i64 i ∧ RowI wr w2.heap.size (ds.map (roundF (g.links.take i) k fk)) ∧ Touch M wr [w2.heap.size]) (fun iv _ => g.links.length - (intOf iv).toNat)
          case atStart => exact ⟨0, Nat.zero_le _, rfl, by simpa [roundF] using hR, hT⟩
          case round =>
            clear hR hT hwr
            obtain ⟨i, hi, rfl, hR, hT⟩ := hrel
            have hwr : Below w.heap.size w wr := (touch_below hwM [w2.heap.size]).trans hT |>.below (by simp; omega) (Nat.le_refl _)
            obtain ⟨a0, a1, a2, b0, b1⟩ := HC.out wr hT
            by_cases hlt3 : i < g.links.length
            · obtain ⟨bl, ol, rfl, _, hlc⟩ := hkc i hlt3
              obtain ⟨x, hx⟩ := get_of_lt hlt3
              obtain ⟨y0, y1, y2⟩ := hlc wr hwr i x hx
              have hxm := List.mem_of_getElem? hx
              obtain ⟨ia, hia, hga⟩ := plI_at (Hdd.out x hxm).1
              obtain ⟨ib, hib, hgb⟩ := plI_at (Hdd.out x hxm).2
              have Hstep : Hid (roundF (g.links.take (i + 1)) k fk = stepF k (roundF (g.links.take i) k fk) x) := Lib.hid (by rw [roundF, take_snoc' hx, List.foldl_append]; rfl)
              have hiaj : ia < j := by rw [← HN.out]; exact lt_of_get hga
              have hibj : ib < j := by rw [← HN.out]; exact lt_of_get hgb
              have Hx := Lib.hid hx; have Hia := Lib.hid hia; have Hib := Lib.hid hib; have Hga := Lib.hid hga; have Hgb := Lib.hid hgb
              clear hkc hlc hx hia hib hga hgb b0 b1
              go_wp2_with fail
              refine (ends14_ok x _).mono ?_
              rintro e w5 ⟨rfl, hb5⟩
              obtain ⟨V1, V2, V, hV1, hV2, hV, HzV, hltV, kz1, kz2, k1, k2, hbV, hltV'⟩ := fresh2 w5 [.int .i64 0, .int .i64 0] [.int .i64 (lA x).side, .int .i64 (lA x).num] [.int .i64 0, .int .i64 0] [.int .i64 (lB x).side, .int .i64 (lB x).num] 24 rfl rfl
              have hsV : (((V2.setCell ⟨w5.heap.size, 0, none⟩ (.int .i64 (lA x).side)).setCell ⟨w5.heap.size, 1, none⟩ (.int .i64 (lA x).num)).setCell ⟨V1.heap.size, 0, none⟩ (.int .i64 (lB x).side)).setCell ⟨V1.heap.size, 1, none⟩ (.int .i64 (lB x).num) = V := hV
              clear hV
              obtain ⟨⟨z0, z1⟩, f0, f1⟩ := cells2 kz1
              obtain ⟨⟨z2, z3⟩, f2, f3⟩ := cells2 kz2
              obtain ⟨⟨p0, p1⟩, _, _⟩ := cells2 k1
              obtain ⟨⟨q0, q1⟩, _, _⟩ := cells2 k2
              have hb5V := below_trans hb5 hbV
              have hRV := hR.below hb5V
              have HTV := Lib.hid (hT.trans (touch_below hb5V [w2.heap.size]))
              have hdV : Dies V (.slice Ad j cd) ds := by rw [← HN.out]; exact hd'.below (((touch_below hbM [w2.heap.size]).trans HTV.out).below (by simp) (Nat.le_refl _))
              clear kz1 kz2 k1 k2 a0 a1 a2 y0 y1 y2 hR hT
              go_wp2_with fail
              have P0 := Later.cell_all p0; have P1 := Later.cell_all p1; have Q0 := Later.cell_all q0; have Q1 := Later.cell_all q1
              have h1 := fun y : Later V => place14_ok _ ds (lA x) y.to (hdV.below y.h)
              have h2 := fun y : Later V => place14_ok _ ds (lB x) y.to (hdV.below y.h)
              rw [Hia.out] at h1
              rw [Hib.out] at h2
              have H1 := Lib.hid h1; have H2 := Lib.hid h2
              clear h1 h2 z0 z1 z2 z3 f0 f1 f2 f3 p0 p1 q0 q1 hsV hV1 hV2
              refine wp_region_later (by kernel_rfl) (by kernel_rfl) ?_
              repeat (go_big_quiet_step (first | (go_at_call 106; with_reducible exact calls_later (H1.out _)) | (go_at_call 106; with_reducible exact calls_later (H2.out _))))
              refine wpQuiet_nil ?_
              intro _ hw'
              obtain ⟨xq, hw''⟩ := hw'
              subst hw''
              have hb6 := xq.h
              generalize xq.to = w6 at hb6 ⊢
              clear P0 P1 Q0 Q1 H1 H2
              have hR6 := hRV.below hb6
              have HT6 := Lib.hid (HTV.out.trans (touch_below hb6 [w2.heap.size]))
              obtain ⟨f, hf⟩ : ∃ f, roundF (g.links.take i) k fk = f := ⟨_, rfl⟩
              rw [hf] at hR6 Hstep
              have HR6 := Lib.hid hR6
              have Hst2 : Hid (stepF k f x = fwdF k (fwdF k f (lA x) (lB x)) (lB x) (lA x)) := Lib.hid rfl
              obtain ⟨da, hda⟩ : ∃ d, lA x = d := ⟨_, rfl⟩
              obtain ⟨db, hdb⟩ : ∃ d, lB x = d := ⟨_, rfl⟩
              rw [hda, hdb] at Hst2
              rw [hda] at Hga
              rw [hdb] at Hgb
              have hdc1 := hR6.cell (k := ia) (x := f da) (by rw [List.getElem?_map, Hga.out]; rfl)
              have hdc2 := hR6.cell (k := ib) (x := f db) (by rw [List.getElem?_map, Hgb.out]; rfl)
              have hia1 : (ia : Int) < (j : Int) := by omega
              have hib1 : (ib : Int) < (j : Int) := by omega
              have hia0 : (0 : Int) ≤ (ia : Int) := by omega
              have hib0 : (0 : Int) ≤ (ib : Int) := by omega
              have hk65 : (k : Int) ≤ 65 := by omega
              obtain ⟨c0, c1'⟩ := hdc1
              obtain ⟨e0, e1⟩ := hdc2
              clear hf hda hdb hRV hR6 hdV
              by_cases ha : f da = k ∧ f db < 0
              · have hf1 := Lib.hid (show fwdF k f da db = updF f db (k + 1) from if_pos ha)
                have d1 : (f da == (k : Int)) = true := by simpa using ha.1
                have d2 : decide (f db < 0) = true := decide_eq_true ha.2
                have HRW := Lib.hid (HR6.out.set ib ((k : Int) + 1))
                have HTW := Lib.hid (HT6.out.trans (touch_set (a := ⟨w2.heap.size, ib, none⟩) (x := .int .i64 ((k : Int) + 1)) (S := [w2.heap.size]) rfl (by simp)))
                rw [map_set_upd Hnd.out Hgb.out, ← hf1.out] at HRW
                obtain ⟨W, hW⟩ : ∃ z, w6.setCell ⟨w2.heap.size, ib, none⟩ (.int .i64 ((k : Int) + 1)) = z := ⟨_, rfl⟩
                rw [hW] at HRW HTW
                obtain ⟨f1, hf1e⟩ : ∃ f1, fwdF k f da db = f1 := ⟨_, rfl⟩
                rw [hf1e] at HRW Hst2
                have hdc1 := HRW.out.cell (k := ia) (x := f1 da) (by rw [List.getElem?_map, Hga.out]; rfl)
                have hdc2 := HRW.out.cell (k := ib) (x := f1 db) (by rw [List.getElem?_map, Hgb.out]; rfl)
                obtain ⟨g0, g1⟩ := hdc1
                obtain ⟨g2, g3⟩ := hdc2
                clear ha hf1e
                by_cases hb : f1 db = k ∧ f1 da < 0
                · have hf2 := Lib.hid (show fwdF k (f1) db da = updF (f1) da (k + 1) from if_pos hb)
                  have t1 : (f1 db == (k : Int)) = true := by simpa using hb.1
                  have t2 : decide (f1 da < 0) = true := decide_eq_true hb.2
                  have HRn := Lib.hid (HRW.out.set ia ((k : Int) + 1))
                  rw [map_set_upd Hnd.out Hga.out, ← hf2.out, ← Hst2.out, ← Hstep.out] at HRn
                  have HTn := Lib.hid (HTW.out.trans (touch_set (a := ⟨w2.heap.size, ia, none⟩) (x := .int .i64 ((k : Int) + 1)) (S := [w2.heap.size]) rfl (by simp)))
                  clear hb
                  go_wp2_with fail
                  refine ⟨?rel, ?measure⟩
                  case rel => exact ⟨i + 1, by omega, by go_num, HRn.out, HTn.out⟩
                  case measure => first | (simp [intOf]; done) | (simp [intOf]; omega)
                · have hf2 := Lib.hid (show fwdF k (f1) db da = f1 from if_neg hb)
                  have D : ((f1 db == (k : Int)) = false) ∨ ((f1 db == (k : Int)) = true ∧ decide (f1 da < 0) = false) := by
                    by_cases h1 : f1 db = k
                    · exact .inr ⟨by simpa using h1, decide_eq_false fun h2 => hb ⟨h1, h2⟩⟩
                    · exact .inl (by simpa using h1)
                  have HRn := HRW
                  rw [← hf2.out, ← Hst2.out, ← Hstep.out] at HRn
                  have HD2 := Lib.hid D
                  clear hb D
                  rcases HD2.out with t1 | ⟨t1, t2⟩
                  all_goals
                    go_wp2_with fail
                    refine ⟨?rel, ?measure⟩
                    case rel => exact ⟨i + 1, by omega, by go_num, HRn.out, HTW.out⟩
                    case measure => first | (simp [intOf]; done) | (simp [intOf]; omega)
              · have hf1 := Lib.hid (show fwdF k f da db = f from if_neg ha)
                rw [hf1.out] at Hst2
                have D : ((f da == (k : Int)) = false) ∨ ((f da == (k : Int)) = true ∧ decide (f db < 0) = false) := by
                  by_cases h1 : f da = k
                  · exact .inr ⟨by simpa using h1, decide_eq_false fun h2 => ha ⟨h1, h2⟩⟩
                  · exact .inl (by simpa using h1)
                have HD := Lib.hid D
                clear ha D
                rcases HD.out with d1 | ⟨d1, d2⟩
                all_goals
                  by_cases hb : f db = k ∧ f da < 0
                  · have hf2 := Lib.hid (show fwdF k (f) db da = updF (f) da (k + 1) from if_pos hb)
                    have t1 : (f db == (k : Int)) = true := by simpa using hb.1
                    have t2 : decide (f da < 0) = true := decide_eq_true hb.2
                    have HRn := Lib.hid (HR6.out.set ia ((k : Int) + 1))
                    rw [map_set_upd Hnd.out Hga.out, ← hf2.out, ← Hst2.out, ← Hstep.out] at HRn
                    have HTn := Lib.hid (HT6.out.trans (touch_set (a := ⟨w2.heap.size, ia, none⟩) (x := .int .i64 ((k : Int) + 1)) (S := [w2.heap.size]) rfl (by simp)))
                    clear hb
                    go_wp2_with fail
                    refine ⟨?rel, ?measure⟩
                    case rel => exact ⟨i + 1, by omega, by go_num, HRn.out, HTn.out⟩
                    case measure => first | (simp [intOf]; done) | (simp [intOf]; omega)
                  · have hf2 := Lib.hid (show fwdF k (f) db da = f from if_neg hb)
                    have D : ((f db == (k : Int)) = false) ∨ ((f db == (k : Int)) = true ∧ decide (f da < 0) = false) := by
                      by_cases h1 : f db = k
                      · exact .inr ⟨by simpa using h1, decide_eq_false fun h2 => hb ⟨h1, h2⟩⟩
                      · exact .inl (by simpa using h1)
                    have HRn := HR6
                    rw [← hf2.out, ← Hst2.out, ← Hstep.out] at HRn
                    have HD2 := Lib.hid D
                    clear hb D
                    rcases HD2.out with t1 | ⟨t1, t2⟩
                    all_goals
                      go_wp2_with fail
                      refine ⟨?rel, ?measure⟩
                      case rel => exact ⟨i + 1, by omega, by go_num, HRn.out, HT6.out⟩
                      case measure => first | (simp [intOf]; done) | (simp [intOf]; omega)
            · have ei : i = g.links.length := by omega
              subst ei
              rw [List.take_length] at hR
              have Hrr : Hid (roundsF g td (k + 1) = roundF g.links k fk) := Lib.hid (by rw [← Hfk.out]; rfl)
              have HR := Lib.hid hR
              clear hkc hR b0 b1
              go_wp2_with fail
              refine ⟨?rel, ?measure⟩
              case rel => exact ⟨k + 1, by omega, by go_num, by rw [Hrr.out]; exact HR.out, hT⟩
              case measure => first | (simp [intOf]; done) | (simp [intOf]; omega)
        · have ek : k = j := by omega
          subst ek
          have HR := Lib.hid hR
          clear hR
          go_wp2_with fail
          go_ret
          exact ⟨w2.heap.size, by rw [Hds.out, HN.out]; rfl, by rw [HF.out, Hds.out]; exact HR.out, by omega, hwr⟩
end Go.Proofs.YtlmjncncmgmehaaGreat
/- The reference of chapter 14: Parts, Number. Condition: a valid graph in its memory. -/
namespace Go.Proofs.YtlmjncncmgmehaaGreat
open Go.RowKit Go.Shelf Go.Maps

theorem farG_at {g : Graph} (hg : graphB g = true) {s : Die} (hs : s ∈ diesG g) : FarAt g s (farG g s) := by
  rw [farG, if_pos hs]
  exact far_done hs fun d hd => (dies_end hg d).2 hd
theorem farG_join {g : Graph} (hg : graphB g = true) {s : Die} (hs : s ∈ diesG g) (d : Die) : 0 ≤ farG g s d ↔ joinB (edgesG g) s d = true := by
  rw [(farG_at hg hs).con, joinB_iff]
  have hE := (dies_end hg s).1 hs
  constructor
  · intro hc
    refine ⟨hE, ?_, hc⟩
    by_cases e : s = d
    · rw [← e]; exact hE
    · exact (con_end hc e).2
  · exact fun h => h.2.2
/-- The numbers of components so far. -/
def numF (R : Die → Die → Bool) (rs : List Die) (d : Die) : Int := if rs.any (fun r => R r d) then ((partI R rs d : Nat) : Int) else -1
theorem numF_new {R : Die → Die → Bool} (hs : ∀ a b, R a b = true → R b a = true) (ht : ∀ a b c, R a b = true → R b c = true → R a c = true) {rs : List Die} {s : Die} (hno : rs.any (fun r => R r s) = false) (d : Die) :
    numF R (rs ++ [s]) d = if R s d = true then (rs.length : Int) else numF R rs d := by
  unfold numF
  cases hd : R s d
  · have e1 : (rs ++ [s]).any (fun r => R r d) = rs.any (fun r => R r d) := by rw [List.any_append]; simp [hd]
    rw [e1, if_neg (by simp : ¬ false = true)]
    cases ha : rs.any (fun r => R r d)
    · rfl
    · rw [if_pos rfl, if_pos rfl]
      congr 1
      rw [partI, partI, findIdx_pre (List.prefix_append _ _) ha]
  · have hn : rs.any (fun r => R r d) = false := by
      rw [← Bool.not_eq_true]
      intro ha
      obtain ⟨r, h1, h2⟩ := List.any_eq_true.1 ha
      rw [← Bool.not_eq_true] at hno
      exact hno (List.any_eq_true.2 ⟨r, h1, ht _ _ _ h2 (hs _ _ hd)⟩)
    rw [if_pos (by rw [List.any_append]; simp [hd]), if_pos rfl]
    congr 1
    rw [partI, findIdx_new hn hd]
theorem numF_all {R : Die → Die → Bool} {ds : List Die} (hr : Rel R ds) : ds.map (numF R (repsA R ds)) = partsA R ds := by
  rw [partsA]
  refine List.map_congr_left fun d hd => ?_
  rw [numF, if_pos (reps_any hr d hd)]
/-- In the inner loop. -/
def inF (R : Die → Die → Bool) (f : Die → Int) (s : Die) (n : Int) (seen : List Die) (d : Die) : Int := if d ∈ seen ∧ R s d = true then n else f d
theorem inF_snoc {R : Die → Die → Bool} {f : Die → Int} {s : Die} {n : Int} {ds : List Die} {k : Nat} {x : Die} (hx : ds[k]? = some x) : inF R f s n (ds.take (k + 1)) = if R s x = true then updF (inF R f s n (ds.take k)) x n else inF R f s n (ds.take k) := by
  funext d
  unfold inF
  rw [take_snoc' hx]
  by_cases e : d = x
  · subst e
    cases hd : R s d
    · simp [hd]
    · simp [updF]
  · cases hd : R s x
    · simp [e]
    · simp [e, updF]
theorem inF_nil {R : Die → Die → Bool} {f : Die → Int} {s : Die} {n : Int} : inF R f s n [] = f := by funext d; simp [inF]

end Go.Proofs.YtlmjncncmgmehaaGreat
/- The reference of chapter 14: Number, Distance, Joined, Path. Condition: a valid graph in its memory. -/
namespace Go.Proofs.YtlmjncncmgmehaaGreat
open Go.RowKit Go.Shelf Go.Maps

noncomputable def numG (g : Graph) : Nat := (repsA (joinB (edgesG g)) (diesG g)).length
def mxP (l : List Int) (k : Nat) : Int := (l.take k).foldl (fun n p => max n (p + 1)) 0
theorem mxP_snoc {l : List Int} {k : Nat} {p : Int} (h : l[k]? = some p) : mxP l (k + 1) = max (mxP l k) (p + 1) := by
  rw [mxP, take_snoc' h, List.foldl_append]; rfl
theorem mxP_le {l : List Int} {n : Int} (h0 : 0 ≤ n) (h : ∀ p ∈ l, p + 1 ≤ n) : ∀ k, 0 ≤ mxP l k ∧ mxP l k ≤ n
  | 0 => by simp [mxP]; exact h0
  | k + 1 => by
    have ih := mxP_le h0 h k
    cases hk : l[k]? with
    | none =>
      have h1 := List.getElem?_eq_none_iff.1 hk
      rw [mxP, List.take_of_length_le (by omega)]
      rw [mxP, List.take_of_length_le h1] at ih
      exact ih
    | some p =>
      have := h p (List.mem_of_getElem? hk)
      rw [mxP_snoc hk]; omega
theorem mxP_ge {l : List Int} {p : Int} {i : Nat} (hp : l[i]? = some p) : ∀ k, i < k → p + 1 ≤ mxP l k
  | 0, h => absurd h (by omega)
  | k + 1, h => by
    cases hk : l[k]? with
    | none =>
      have h1 := List.getElem?_eq_none_iff.1 hk
      have := lt_of_get hp
      have ih := mxP_ge hp k (by omega)
      rw [mxP, List.take_of_length_le (by omega)]
      rwa [mxP, List.take_of_length_le h1] at ih
    | some q =>
      rw [mxP_snoc hk]
      by_cases e : i = k
      · subst e
        rw [hp] at hk
        cases hk
        omega
      · have := mxP_ge hp k (by omega)
        omega
theorem mx_num {g : Graph} (hg : graphB g = true) : mxP (partsG g) (partsG g).length = (numG g : Int) := by
  have hrel := rel_join (E := edgesG g) (fun d hd => (dies_end hg d).1 hd)
  have h1 := mxP_le (l := partsG g) (n := (numG g : Int)) (by omega) (fun p hp => by
    rw [partsG, partsA] at hp
    obtain ⟨d, hd, rfl⟩ := List.mem_map.1 hp
    have := part_lt (reps_any hrel d hd)
    unfold numG
    omega) (partsG g).length
  rcases Nat.eq_zero_or_pos (numG g) with h0 | h0
  · omega
  · have hk : numG g - 1 < (repsA (joinB (edgesG g)) (diesG g)).length := by unfold numG at h0 ⊢; omega
    have hm : (repsA (joinB (edgesG g)) (diesG g))[numG g - 1] ∈ diesG g := (repsA_sub _).subset (List.getElem_mem hk)
    obtain ⟨i, hi, hi2⟩ := List.getElem_of_mem hm
    have hp : (partsG g)[i]? = some ((numG g - 1 : Nat) : Int) := by
      rw [partsG, partsA, List.getElem?_map, List.getElem?_eq_getElem hi, hi2, Option.map_some, part_rep hrel hk]
    have := mxP_ge hp (partsG g).length (lt_of_get hp)
    omega

theorem farG_no {g : Graph} (hg : graphB g = true) {a b : Die} (hb : b ∈ diesG g) (hn : ¬ joinB (edgesG g) a b = true) : farG g b a < 0 := by
  have h1 := mt (farG_join hg hb a).1 (fun h => hn ((rel_join (E := edgesG g) (ds := []) (fun d hd => by cases hd)).symm _ _ h))
  omega
theorem farG_yes {g : Graph} (hg : graphB g = true) {a b : Die} (hb : b ∈ diesG g) (hj : joinB (edgesG g) a b = true) : 0 ≤ farG g b a :=
  (farG_join hg hb a).2 ((rel_join (E := edgesG g) (ds := []) (fun d hd => by cases hd)).symm _ _ hj)
noncomputable def distG (g : Graph) (a b : Die) : Int := if joinB (edgesG g) a b = true then farG g b a else 0
theorem dist_none {g : Graph} (hg : graphB g = true) {a b : Die} (h : joinB (edgesG g) a b = false) : distG g a b = 0 ∧ awayE g a b = 7 := by
  rw [distG, awayE, if_pos hg, h, if_neg (by simp), if_neg (by simp)]
  exact ⟨rfl, rfl⟩
theorem dist_some {g : Graph} (hg : graphB g = true) {a b : Die} (h : joinB (edgesG g) a b = true) : distG g a b = farG g b a ∧ awayE g a b = 0 := by
  rw [distG, awayE, if_pos hg, h, if_pos rfl, if_pos rfl]
  exact ⟨rfl, rfl⟩
set_option maxHeartbeats 4000000 in
set_option maxRecDepth 100000 in
theorem Distance14_ok (v : Value) (g : Graph) (hg : graphB g = true) (da db : Die) (w : World) (h : GraphAt w v g) :
    Calls Tryz.prog 70 #[v, vlD da, vlD db] w fun e w' => e = .returned (.tuple #[.int .i64 (distG g da db), .int .i64 (awayE g da db)]) ∧ Below w.heap.size w w' := by
  have h' := h
  obtain ⟨v1, v2, v3, rfl, ho, hr, hk⟩ := h
  obtain ⟨A1, c1, rfl, _, _, _⟩ := ho.cells
  obtain ⟨A2, c2, rfl, _, _, _⟩ := hr.cells
  obtain ⟨A3, c3, rfl, _, _, _⟩ := hk.cells
  obtain ⟨W0, hW0, Hz0, hb0, hlt0, hc0⟩ := boxed w #[.slice A1 g.obv.length c1, .slice A2 g.rev.length c2, .slice A3 g.links.length c3] 54
  obtain ⟨W1, hW1, Hz1, hb1, hlt1, hc1⟩ := boxed W0 #[.int .i64 da.side, .int .i64 da.num] 24
  obtain ⟨W2, hW2, Hz2, hb2, hlt2, hc2⟩ := boxed W1 #[.int .i64 db.side, .int .i64 db.num] 24
  have hb12 := below_trans hb1 hb2
  have a0 := cell_later hb12 (hc0 0 _ rfl); have a1 := cell_later hb12 (hc0 1 _ rfl); have a2 := cell_later hb12 (hc0 2 _ rfl)
  have b0 := cell_later hb2 (hc1 0 _ rfl); have b1 := cell_later hb2 (hc1 1 _ rfl)
  have d0 := hc2 0 _ rfl; have d1 := hc2 1 _ rfl
  have hw2 := below_trans hb0 hb12
  have hvz : validE g = 0 := by simp [validE, hg]
  have Hvz := Lib.hid hvz
  have hdl := dies_le hg
  have HEn := Lib.hid (fun (hh : ¬ (da ∈ diesG g ∧ db ∈ diesG g)) => dist_none hg (joinB_no.2 fun hj => hh ⟨(dies_end hg da).2 hj.1, (dies_end hg db).2 hj.2.1⟩))
  clear hc0 hc1 hc2 ho hr hk hvz
  go_enter Tryz.func70, Tryz.ntmps70
  go_wp2_with fail
  refine (Dies_ok13 _ g _ (h'.below hw2)).mono ?_
  rintro e w3 ⟨ud, rfl, hd, hb3⟩
  rw [Hvz.out]
  obtain ⟨Ad, cd, rfl, _⟩ := id hd
  have a0 := cell_later hb3 a0; have a1 := cell_later hb3 a1; have a2 := cell_later hb3 a2; have b0 := cell_later hb3 b0; have b1 := cell_later hb3 b1; have d0 := cell_later hb3 d0; have d1 := cell_later hb3 d1
  have hw3 := below_trans hw2 hb3
  clear hW0 hW1 hW2
  by_cases hA : da ∈ diesG g
  case neg =>
    have hneg : plI (diesG g) da < 0 := by have h1 := mt plI_mem.1 hA; omega
    have HE := Lib.hid (HEn.out (fun hh => hA hh.1))
    have HP := place14_ok _ (diesG g) da w3 hd
    generalize plI (diesG g) da = P at hneg HP
    have HP' := Lib.hid HP
    have dd : decide (P < 0) = true := decide_eq_true hneg
    clear hneg hA HP a0 a1 a2 d0 d1
    go_wp2_with fail
    refine HP'.out.mono ?_
    rintro e w4 ⟨rfl, hb4⟩
    clear b0 b1
    go_wp2_with fail
    exact bodyPost_ret (v := .tuple #[.int .i64 0, .int .i64 7]) (by simp [results, Tryz.results70, go_sem]) rfl ⟨by rw [HE.out.1, HE.out.2], below_trans hw3 hb4⟩
  obtain ⟨ka, hka, hga⟩ := plI_at hA
  have HP := place14_ok _ (diesG g) da w3 hd
  rw [hka] at HP
  have HP' := Lib.hid HP
  have Hga := Lib.hid hga
  have hkl := lt_of_get hga
  have HA := Lib.hid hA
  have Hka := Lib.hid hka
  clear HP hka hga hA
  go_wp2_with fail
  refine HP'.out.mono ?_
  rintro e w4 ⟨rfl, hb4⟩
  have a0 := cell_later hb4 a0; have a1 := cell_later hb4 a1; have a2 := cell_later hb4 a2; have b0 := cell_later hb4 b0; have b1 := cell_later hb4 b1; have d0 := cell_later hb4 d0; have d1 := cell_later hb4 d1
  have hw4 := below_trans hw3 hb4
  have hd4 := hd.below hb4
  clear HP'
  by_cases hB : db ∈ diesG g
  case neg =>
    have hneg : plI (diesG g) db < 0 := by have h1 := mt plI_mem.1 hB; omega
    have HE := Lib.hid (HEn.out (fun hh => hB hh.2))
    have HP := place14_ok _ (diesG g) db w4 hd4
    generalize plI (diesG g) db = P at hneg HP
    have HP' := Lib.hid HP
    have dd : decide (P < 0) = true := decide_eq_true hneg
    clear hneg hB HP a0 a1 a2 b0 b1
    go_wp2_with fail
    refine HP'.out.mono ?_
    rintro e w5 ⟨rfl, hb5⟩
    clear d0 d1
    go_wp2_with fail
    exact bodyPost_ret (v := .tuple #[.int .i64 0, .int .i64 7]) (by simp [results, Tryz.results70, go_sem]) rfl ⟨by rw [HE.out.1, HE.out.2], below_trans hw4 hb5⟩
  obtain ⟨kb, hkb, _⟩ := plI_at hB
  have HP := place14_ok _ (diesG g) db w4 hd4
  rw [hkb] at HP
  have HP' := Lib.hid HP
  have HB := Lib.hid hB
  clear HP hkb hB
  go_wp2_with fail
  refine HP'.out.mono ?_
  rintro e w5 ⟨rfl, hb5⟩
  have a0 := cell_later hb5 a0; have a1 := cell_later hb5 a1; have a2 := cell_later hb5 a2; have b0 := cell_later hb5 b0; have b1 := cell_later hb5 b1; have d0 := cell_later hb5 d0; have d1 := cell_later hb5 d1
  have hw5 := below_trans hw4 hb5
  have hd5 := hd4.below hb5
  clear HP'
  go_wp2_with fail
  refine (far14_ok _ g hg db w5 (h'.below hw5)).mono ?_
  rintro e w6 ⟨bf, rfl, hRf, hbf, hb6⟩
  have b0 := cell_later hb6 b0; have b1 := cell_later hb6 b1
  have hw6 := below_trans hw5 hb6
  have hd6 := hd5.below hb6
  have HPa := place14_ok _ (diesG g) da w6 hd6
  rw [Hka.out] at HPa
  have HPa' := Lib.hid HPa
  clear HPa a0 a1 a2 d0 d1
  go_wp2_with fail
  refine HPa'.out.mono ?_
  rintro e w7 ⟨rfl, hb7⟩
  obtain ⟨q0, _⟩ := (hRf.below hb7).cell (k := ka) (x := farG g db da) (by rw [List.getElem?_map, Hga.out]; rfl)
  have hk1 : (ka : Int) < ((diesG g).length : Int) := by omega
  have hw7 := below_trans hw6 hb7
  cases hj : joinB (edgesG g) da db
  · have hneg := farG_no (a := da) hg HB.out (by simp [hj])
    have HE := Lib.hid (dist_none hg hj)
    generalize farG g db da = X at q0 hneg
    have dd : decide (X < 0) = true := decide_eq_true hneg
    clear hneg hj b0 b1 HPa'
    go_wp2_with fail
    exact bodyPost_ret (v := .tuple #[.int .i64 0, .int .i64 7]) (by simp [results, Tryz.results70, go_sem]) rfl ⟨by rw [HE.out.1, HE.out.2], hw7⟩
  · have hpos := farG_yes (a := da) hg HB.out hj
    have HE := Lib.hid (dist_some hg hj)
    generalize farG g db da = X at q0 hpos HE
    have dd : decide (X < 0) = false := decide_eq_false (by omega)
    clear hpos hj b0 b1 HPa'
    go_wp2_with fail
    exact bodyPost_ret (v := .tuple #[.int .i64 X, .int .i64 0]) (by simp [results, Tryz.results70, go_sem]) rfl ⟨by rw [HE.out.1, HE.out.2], hw7⟩
set_option maxHeartbeats 2000000 in
theorem Joined14_ok (v : Value) (g : Graph) (hg : graphB g = true) (da db : Die) (w : World) (h : GraphAt w v g) :
    Calls Tryz.prog 44 #[v, vlD da, vlD db] w fun e w' => e = .returned (.bool (joinB (edgesG g) da db)) ∧ Below w.heap.size w w' := by
  have h' := h
  obtain ⟨v1, v2, v3, rfl, ho, hr, hk⟩ := h
  obtain ⟨A1, c1, rfl, _, _, _⟩ := ho.cells
  obtain ⟨A2, c2, rfl, _, _, _⟩ := hr.cells
  obtain ⟨A3, c3, rfl, _, _, _⟩ := hk.cells
  obtain ⟨W0, hW0, Hz0, hb0, hlt0, hc0⟩ := boxed w #[.slice A1 g.obv.length c1, .slice A2 g.rev.length c2, .slice A3 g.links.length c3] 54
  obtain ⟨W1, hW1, Hz1, hb1, hlt1, hc1⟩ := boxed W0 #[.int .i64 da.side, .int .i64 da.num] 24
  obtain ⟨W2, hW2, Hz2, hb2, hlt2, hc2⟩ := boxed W1 #[.int .i64 db.side, .int .i64 db.num] 24
  have hb12 := below_trans hb1 hb2
  have a0 := cell_later hb12 (hc0 0 _ rfl); have a1 := cell_later hb12 (hc0 1 _ rfl); have a2 := cell_later hb12 (hc0 2 _ rfl)
  have b0 := cell_later hb2 (hc1 0 _ rfl); have b1 := cell_later hb2 (hc1 1 _ rfl)
  have d0 := hc2 0 _ rfl; have d1 := hc2 1 _ rfl
  have hw2 := below_trans hb0 hb12
  have HA := Lib.hid (Distance14_ok _ g hg da db _ (h'.below hw2))
  have haw : (awayE g da db == 0) = joinB (edgesG g) da db := by rw [away_join, joinG, hg, Bool.true_and]
  rw [← haw]
  clear hc0 hc1 hc2 ho hr hk haw
  generalize awayE g da db = E at HA ⊢
  go_enter Tryz.func44, Tryz.ntmps44
  go_wp2_with fail
  refine HA.out.mono ?_
  rintro e w3 ⟨rfl, hb3⟩
  clear a0 a1 a2 b0 b1 d0 d1
  go_wp2_with fail
  go_ret
  exact ⟨rfl, below_trans hw2 hb3⟩
end Go.Proofs.YtlmjncncmgmehaaGreat
