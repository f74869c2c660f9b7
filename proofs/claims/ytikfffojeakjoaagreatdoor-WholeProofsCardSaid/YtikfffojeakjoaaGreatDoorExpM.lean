/- Package explanation: ends, across. No condition. -/
import Derived.Test.YtikfffojeakjoaaGreatDoorExpP
import Derived.Deep.DeepCutAuto
import Derived.Test.YtikfffojeakjoaaGreatDoorCmpL
import Derived.Test.YtikfffojeakjoaaGreatDoorIterI
import Derived.Test.YtikfffojeakjoaaGreatDoorOwn
import Derived.Test.YtikfffojeakjoaaGreatDoorExpA
namespace Go.Proofs.YtikfffojeakjoaaGreatDoor
open Go.RowKit Go.Maps

set_option maxHeartbeats 2000000 in
theorem endsX_ok (x : Link) (w : World) : Calls Tryz.prog 41 #[valL x] w fun e w' => e = .returned (.tuple #[vlD (lA x), vlD (lB x)]) ∧ Below w.heap.size w w' := by
  obtain ⟨W0, hW0, Hz0, hb0, hlt0, hc0⟩ := boxed w #[.int .i64 x.id, .int .i64 x.obv, .int .i64 x.rev] 73
  obtain ⟨W1, hW1, Hz1, hb1, hlt1, hc1⟩ := boxed W0 #[.int .i64 0, .int .i64 0] 43
  obtain ⟨W2, hW2, Hz2, hb2, hlt2, hc2⟩ := boxed W1 #[.int .i64 0, .int .i64 0] 43
  have hb12 := below_trans hb1 hb2
  have a1 := cell_later hb12 (hc0 1 _ rfl); have a2 := cell_later hb12 (hc0 2 _ rfl)
  have HW := Lib.hid (below_trans hb0 hb12)
  have g1 : W1.heap[W0.heap.size]? = some (.cells #[.int .i64 0, .int .i64 0] 43 (0, 0)) := by rw [← hW1]; exact heap_alloc_new _ _
  have g2 : W2.heap[W1.heap.size]? = some (.cells #[.int .i64 0, .int .i64 0] 43 (0, 0)) := by rw [← hW2]; exact heap_alloc_new _ _
  have G1 := Lib.hid (heap_below g1 hb2 (heap_lt g1)); have G2 := Lib.hid g2
  clear hc0 hc1 hc2 g1 g2 hb0 hb1 hb2 hb12
  go_enter Tryz.func41, Tryz.ntmps41
  go_wp2_with fail
  have hba : Below W2.heap.size W2 W2.drew := (Below.refl _ _).drew
  obtain ⟨wa, hwa⟩ : ∃ W, W2.drew = W := ⟨_, rfl⟩
  rw [hwa] at hba
  have b1 := cell_later hba a1; have b2 := cell_later hba a2
  have hHeld : wa.cell? ⟨w.heap.size, 1, none⟩ = some (.int .i64 x.obv) ∧ wa.cell? ⟨w.heap.size, 2, none⟩ = some (.int .i64 x.rev) := ⟨b1, b2⟩
  have h1 := heap_below G1.out hba (heap_lt G1.out); have h2 := heap_below G2.out hba (heap_lt G2.out)
  have hne : W0.heap.size ≠ w.heap.size ∧ W1.heap.size ≠ w.heap.size ∧ W0.heap.size ≠ W1.heap.size := by omega
  have HW' := Lib.hid (below_trans HW.out hba)
  refine wp_region_S 7 (fun w' => w'.cell? ⟨w.heap.size, 1, none⟩ = some (.int .i64 x.obv) ∧ w'.cell? ⟨w.heap.size, 2, none⟩ = some (.int .i64 x.rev)) (by kernel_rfl) (by decide) ?_
  rw [hwa]
  clear hwa hW0 hW1 hW2 a1 a2 G1 G2 hba
  refine wpAnyS_takeD 0 (some 4) (.pointer (some ⟨w.heap.size, 1, none⟩)) (by rfl) (by rfl) (by kernel_rfl) (by exact fun _ _ _ h => h) (by rfl) (fun w' hS => by go_simp) hHeld ?_
  simp only [Act.put, List.setIfInBounds_toArray, List.set_cons_succ, List.set_cons_zero]
  refine wpAnyS_takeD 1 (some 5) (.int .i64 x.obv) (by rfl) (by rfl) (by kernel_rfl) (by exact fun _ _ _ h => h) (by rfl) (fun w' hS => by (have q := hS.1; go_simp)) hHeld ?_
  simp only [Act.put, List.setIfInBounds_toArray, List.set_cons_succ, List.set_cons_zero]
  refine wpAnyS_takeD 2 (some 6) (.agg #[.int .i64 0, .int .i64 x.obv]) (by rfl) (by rfl) (by kernel_rfl) (by exact fun _ _ _ h => h) (by rfl) (fun w' hS => by go_simp) hHeld ?_
  simp only [Act.put, List.setIfInBounds_toArray, List.set_cons_succ, List.set_cons_zero]
  refine wpAnyS_takeD 3 (some 7) (.pointer (some ⟨w.heap.size, 2, none⟩)) (by rfl) (by rfl) (by kernel_rfl) (by exact fun _ _ _ h => h) (by rfl) (fun w' hS => by go_simp) hHeld ?_
  simp only [Act.put, List.setIfInBounds_toArray, List.set_cons_succ, List.set_cons_zero]
  refine wpAnyS_takeD 4 (some 8) (.int .i64 x.rev) (by rfl) (by rfl) (by kernel_rfl) (by exact fun _ _ _ h => h) (by rfl) (fun w' hS => by (have q := hS.2; go_simp)) hHeld ?_
  simp only [Act.put, List.setIfInBounds_toArray, List.set_cons_succ, List.set_cons_zero]
  refine wpAnyS_takeD 5 (some 9) (.agg #[.int .i64 1, .int .i64 x.rev]) (by rfl) (by rfl) (by kernel_rfl) (by exact fun _ _ _ h => h) (by rfl) (fun w' hS => by go_simp) hHeld ?_
  simp only [Act.put, List.setIfInBounds_toArray, List.set_cons_succ, List.set_cons_zero]
  have c0 := (heap_cell (i := 0) h1).trans rfl; have c1 := (heap_cell (i := 1) h1).trans rfl; have f0 := heap_free (i := 0) h1; have f1 := heap_free (i := 1) h1
  have d0 := (heap_cell (i := 0) h2).trans rfl; have d1 := (heap_cell (i := 1) h2).trans rfl; have e0 := heap_free (i := 0) h2; have e1 := heap_free (i := 1) h2
  refine wpAnyS_one 6 (by kernel_rfl) (by rfl) (by decide) (fun K hK => ?_)
  have HK := Lib.hid hK; clear hK
  rw [if_pos (by rfl)]
  go_simp
  obtain ⟨wb, hwb⟩ : ∃ z, (wa.setCell ⟨W0.heap.size, 0, none⟩ (.int .i64 0)).setCell ⟨W0.heap.size, 1, none⟩ (.int .i64 x.obv) = z := ⟨_, rfl⟩
  rw [hwb]
  have hgb : wa.grownBy wb (some W0.heap.size) := by rw [← hwb]; exact setCells_grown W0.heap.size [.int .i64 0, .int .i64 x.obv] wa 0
  have r1 : wb.heap[W0.heap.size]? = some (.cells #[.int .i64 0, .int .i64 x.obv] 43 (0, 0)) := by
    have q1 := heap_setCell_same wa W0.heap.size 0 _ _ (.int .i64 0) h1
    have q2 := heap_setCell_same _ W0.heap.size 1 _ _ (.int .i64 x.obv) q1
    rw [hwb] at q2
    simpa using q2
  have r2 := (hgb.block _ (heap_lt h2) (fun e => hne.2.2 (Option.some.inj e).symm)).trans h2
  have s1 : wb.cell? ⟨w.heap.size, 1, none⟩ = some (.int .i64 x.obv) := by rw [World.cell?_of_block (hgb.block _ (World.block_lt_of_cell? wa _ b1) (fun e => hne.1 (Option.some.inj e).symm))]; exact b1
  have s2 : wb.cell? ⟨w.heap.size, 2, none⟩ = some (.int .i64 x.rev) := by rw [World.cell?_of_block (hgb.block _ (World.block_lt_of_cell? wa _ b2) (fun e => hne.1 (Option.some.inj e).symm))]; exact b2
  have HB := Lib.hid (HW'.out.grown hgb HW'.out.size (fun j e => by cases e; omega))
  refine HK.out _ _ ⟨s1, s2⟩ ?_
  clear HK hHeld hwb c0 c1 f0 f1 d0 d1 e0 e1 h1 h2 b1 b2 hgb s1 s2 HW' HW
  refine (show tailOf _ _ _ _ _ _ _ _ from ⟨by kernel_rfl, ?_⟩)
  simp only [List.drop_succ_cons, List.drop_zero]
  have d0 := (heap_cell (i := 0) r2).trans rfl; have d1 := (heap_cell (i := 1) r2).trans rfl; have e0 := heap_free (i := 0) r2; have e1 := heap_free (i := 1) r2
  have c0 : wb.cell? ⟨W0.heap.size, 0, none⟩ = some (.int .i64 0) := heap_cell (i := 0) r1
  have c1 : wb.cell? ⟨W0.heap.size, 1, none⟩ = some (.int .i64 x.obv) := heap_cell (i := 1) r1
  have d0' : wb.cell? ⟨W1.heap.size, 0, none⟩ = some (.int .i64 0) := heap_cell (i := 0) r2
  have d1' : wb.cell? ⟨W1.heap.size, 1, none⟩ = some (.int .i64 0) := heap_cell (i := 1) r2
  obtain ⟨n1, n2, n3⟩ := hne
  have R2 := Lib.hid r2
  clear r1 r2
  go_wp2_with fail
  refine bodyPost_ret (v := .tuple #[vlD (lA x), vlD (lB x)]) (by simp [results, Tryz.results41, go_sem, c0, c1, d0', d1', lA, lB]) rfl ⟨rfl, HB.out.grown (setCells_grown W1.heap.size [.int .i64 1, .int .i64 x.rev] wb 0) HB.out.size (fun j e => by cases e; omega)⟩

set_option maxHeartbeats 4000000 in
theorem acrossX_ok (x : Link) (d : Die) (w : World) : Calls Tryz.prog 23 #[valL x, vlD d] w fun e w' => e = .returned (.tuple #[vlD (acrD x d), .bool (acrO x d).isSome]) ∧ Below w.heap.size w w' := by
  obtain ⟨W0, hW0, Hz0, hb0, hlt0, hc0⟩ := boxed w #[.int .i64 x.id, .int .i64 x.obv, .int .i64 x.rev] 73
  obtain ⟨W1, hW1, Hz1, hb1, hlt1, hc1⟩ := boxed W0 #[.int .i64 d.side, .int .i64 d.num] 43
  obtain ⟨W2, hW2, Hz2, hb2, hlt2, hc2⟩ := boxed W1 #[.int .i64 0, .int .i64 0] 43
  have hb12 := below_trans hb1 hb2
  have a0 := cell_later hb12 (hc0 0 _ rfl); have a1 := cell_later hb12 (hc0 1 _ rfl); have a2 := cell_later hb12 (hc0 2 _ rfl)
  have b0 := cell_later hb2 (hc1 0 _ rfl); have b1 := cell_later hb2 (hc1 1 _ rfl)
  have g2 : W2.heap[W1.heap.size]? = some (.cells #[.int .i64 0, .int .i64 0] 43 (0, 0)) := by rw [← hW2]; exact heap_alloc_new _ _
  have hbw := below_trans hb0 hb12
  have HA : Hid (acrO x d = if d = lA x then some (lB x) else if d = lB x then some (lA x) else none) := Lib.hid rfl
  have HE := Lib.hid (endsX_ok x)
  unfold acrD
  generalize acrO x d = R at HA ⊢
  generalize lA x = p at HA HE ⊢
  generalize lB x = q at HA HE ⊢
  clear hc0 hc1 hc2
  go_enter Tryz.func23, Tryz.ntmps23
  go_wp2_with fail
  refine (HE.out _).mono ?_
  rintro e w3 ⟨rfl, hb3⟩
  have hw3 := below_trans hbw hb3
  have g3 := heap_below g2 hb3 (heap_lt g2)
  have b0 := cell_later hb3 b0; have b1 := cell_later hb3 b1
  clear a0 a1 a2 hW0 hW1 hW2 g2
  obtain ⟨V1, V2, V, hV1, hV2, hV, HzV, hltV, kz1, kz2, k1, k2, hbV, hltV'⟩ := fresh2 w3 [.int .i64 0, .int .i64 0] [.int .i64 p.side, .int .i64 p.num] [.int .i64 0, .int .i64 0] [.int .i64 q.side, .int .i64 q.num] 43 rfl rfl
  have hsV : (((V2.setCell ⟨w3.heap.size, 0, none⟩ (.int .i64 p.side)).setCell ⟨w3.heap.size, 1, none⟩ (.int .i64 p.num)).setCell ⟨V1.heap.size, 0, none⟩ (.int .i64 q.side)).setCell ⟨V1.heap.size, 1, none⟩ (.int .i64 q.num) = V := hV
  clear hV
  obtain ⟨⟨z0, z1⟩, f0, f1⟩ := cells2 kz1
  obtain ⟨⟨z2, z3⟩, f2, f3⟩ := cells2 kz2
  obtain ⟨⟨p0, p1⟩, _, _⟩ := cells2 k1
  obtain ⟨⟨q0, q1⟩, _, _⟩ := cells2 k2
  have g4 := heap_below g3 hbV (heap_lt g3)
  obtain ⟨⟨r0, r1⟩, e0, e1⟩ := cells2 g4
  have b0 := cell_later hbV b0; have b1 := cell_later hbV b1
  have hw4 := below_trans hw3 hbV
  have G4 := Lib.hid g4
  have hlw : w.heap.size ≤ W1.heap.size := by omega
  clear kz1 kz2 k1 k2 g3 g4
  by_cases h1 : d = p
  · have hR := HA.out
    rw [if_pos h1] at hR
    subst hR
    have d1 : (d.side = p.side) = True := eq_true (by rw [h1])
    have d2 : (d.num = p.num) = True := eq_true (by rw [h1])
    clear h1 HA
    go_wp2_with fail
    exact bodyPost_ret (v := .tuple #[vlD q, .bool true]) (by simp [results, Tryz.results23, go_sem, r0, r1]) rfl ⟨rfl, hw4.grown (setCells_grown W1.heap.size [.int .i64 (q).side, .int .i64 (q).num] V 0) hw4.size (fun j e => by cases e; omega)⟩
  · have hR := HA.out
    rw [if_neg h1] at hR
    have D1 : Hid (((d.side = p.side) = False) ∨ (((d.side = p.side) = True) ∧ ((d.num = p.num) = False))) := Lib.hid (dieNe h1)
    by_cases h2 : d = q
    · rw [if_pos h2] at hR
      subst hR
      have d3 : (d.side = q.side) = True := eq_true (by rw [h2])
      have d4 : (d.num = q.num) = True := eq_true (by rw [h2])
      clear h1 h2 HA
      rcases D1.out with d1 | ⟨d1, d2⟩
      all_goals
        go_wp2_with fail
        exact bodyPost_ret (v := .tuple #[vlD p, .bool true]) (by simp [results, Tryz.results23, go_sem, r0, r1]) rfl ⟨rfl, hw4.grown (setCells_grown W1.heap.size [.int .i64 (p).side, .int .i64 (p).num] V 0) hw4.size (fun j e => by cases e; omega)⟩
    · rw [if_neg h2] at hR
      subst hR
      have D2 : Hid (((d.side = q.side) = False) ∨ (((d.side = q.side) = True) ∧ ((d.num = q.num) = False))) := Lib.hid (dieNe h2)
      clear h1 h2 HA
      rcases D1.out with d1 | ⟨d1, d2⟩
      all_goals
        rcases D2.out with d3 | ⟨d3, d4⟩
        all_goals
          go_wp2_with fail
          exact bodyPost_ret (v := .tuple #[vlD ⟨0, 0⟩, .bool false]) (by simp [results, Tryz.results23, go_sem, r0, r1]) rfl ⟨rfl, hw4.grown (setCells_grown W1.heap.size [.int .i64 0, .int .i64 0] V 0) hw4.size (fun j e => by cases e; omega)⟩
end Go.Proofs.YtikfffojeakjoaaGreatDoor
/- Package explanation: (*search).measure. Condition: the search in its memory, the graph is valid, the die's numbers are numbers. -/
namespace Go.Proofs.YtikfffojeakjoaaGreatDoor
open Go.RowKit Go.Maps

theorem links_off {q : Nat} {A : Option Addr} {c n : Nat} {ls : List Link} {w : World} (h : Links w (.slice A n c) ls) (hA : ∀ j, (Value.slice A n c).ownBlock = some j → j ≠ q) {k : Nat} (hk : k < ls.length) :
    ∃ b o, A = some ⟨b, o, none⟩ ∧ ∀ wr, Touch w wr [q] → ∀ x, ls[k]? = some x → wr.cell? ⟨b, o + k * 3, none⟩ = some (.int .i64 x.id) ∧ wr.cell? ⟨b, o + k * 3 + 1, none⟩ = some (.int .i64 x.obv) ∧ wr.cell? ⟨b, o + k * 3 + 2, none⟩ = some (.int .i64 x.rev) := by
  obtain ⟨A1, c1, e, _, _, hc⟩ := h.cells
  cases e
  obtain ⟨b, o, rfl, _, _⟩ := hc k hk
  refine ⟨b, o, rfl, fun wr hT x hx => ?_⟩
  have h' : Links wr (.slice (some ⟨b, o, none⟩) ls.length c) ls := slOf_off h hT (fun j e => by simpa using hA j e)
  obtain ⟨A2, c2, e2, _, _, hc2⟩ := h'.cells
  cases e2
  obtain ⟨b2, o2, e3, _, hcb⟩ := hc2 k hk
  cases e3
  obtain ⟨y0, y1, y2⟩ := hcb wr (Below.refl _ _) k x hx
  exact ⟨y0, y1, y2⟩
theorem heap_set4 {w : World} {g : Nat} {a b c d x : Value} {t : TypeId} (h : w.heap[g]? = some (.cells #[a, b, c, d] t (0, 0))) :
    (w.setCell ⟨g, 1, none⟩ x).heap[g]? = some (.cells #[a, x, c, d] t (0, 0)) ∧ (w.setCell ⟨g, 2, none⟩ x).heap[g]? = some (.cells #[a, b, x, d] t (0, 0)) ∧ (w.setCell ⟨g, 3, none⟩ x).heap[g]? = some (.cells #[a, b, c, x] t (0, 0)) := by
  have h1 := heap_setCell_same w g 1 _ _ x h
  have h2 := heap_setCell_same w g 2 _ _ x h
  have h3 := heap_setCell_same w g 3 _ _ x h
  exact ⟨by simpa using h1, by simpa using h2, by simpa using h3⟩
/-- The search in its memory. -/
def SeaAt (w : World) (q : Nat) (x0 x1 x2 x3 : Value) : Prop := w.heap[q]? = some (.cells #[x0, x1, x2, x3] 79 (0, 0))
theorem SeaAt.cells {w : World} {q : Nat} {a b c d : Value} (h : SeaAt w q a b c d) : (w.cell? ⟨q, 0, none⟩ = some a ∧ w.cell? ⟨q, 1, none⟩ = some b ∧ w.cell? ⟨q, 2, none⟩ = some c ∧ w.cell? ⟨q, 3, none⟩ = some d) ∧ w.frozen? ⟨q, 1, none⟩ = false ∧ w.frozen? ⟨q, 2, none⟩ = false ∧ w.frozen? ⟨q, 3, none⟩ = false :=
  ⟨⟨heap_cell h, heap_cell h, heap_cell h, heap_cell h⟩, heap_free h, heap_free h, heap_free h⟩
theorem SeaAt.lt {w : World} {q : Nat} {a b c d : Value} (h : SeaAt w q a b c d) : q < w.heap.size := heap_lt h
theorem SeaAt.off {w w' : World} {q : Nat} {a b c d : Value} {S : List Nat} (h : SeaAt w q a b c d) (ht : Touch w w' S) (hq : q ∉ S) : SeaAt w' q a b c d := (ht.block q (heap_lt h) hq).trans h
theorem SeaAt.below {w w' : World} {q : Nat} {a b c d : Value} (h : SeaAt w q a b c d) (hb : Below w.heap.size w w') : SeaAt w' q a b c d := heap_below h hb (heap_lt h)
set_option maxHeartbeats 8000000 in
set_option maxRecDepth 100000 in
theorem measure_ok (q : Nat) (g : Graph) (hgl : LinkWf g) (hlen : g.links.length ≤ 64) (s : Die) (hs : wfD s) (A : Option Addr) (c : Nat) (p1 p2 p3 : Value) (w : World) (hq : SeaAt w q (.slice A g.links.length c) p1 p2 p3) (hk : Links w (.slice A g.links.length c) g.links) (hA : ∀ j, (Value.slice A g.links.length c).ownBlock = some j → j ≠ q) :
    Calls Tryz.prog 24 #[.pointer (some ⟨q, 0, none⟩), vlD s] w fun e w' => (∃ u, e = .returned u) ∧ ∃ b m n, SeaAt w' q (.slice A g.links.length c) (.map (some b)) p2 p3 ∧ MapD w' b m ∧ BfsD g s m [] n ∧ w.heap.size ≤ b ∧ Touch w w' [q] ∧ m.length ≤ 200 := by
  have hmm := @run_makeMap Tryz.prog
  have hql := hq.lt
  have HK := Lib.hid fun (k : Nat) (h : k < g.links.length) => links_off hk hA h
  obtain ⟨W1, hW1, Hz1, hb1, hlt1, hc1⟩ := boxed w #[.int .i64 s.side, .int .i64 s.num] 43
  have b0 := hc1 0 _ rfl; have b1 := hc1 1 _ rfl
  obtain ⟨M1, hM1⟩ : ∃ W, W1.alloc (.map #[] 0) = W := ⟨_, rfl⟩
  have hbM : Below W1.heap.size W1 M1 := by rw [← hM1]; exact (Below.refl _ _).alloc (Nat.le_refl _) _
  have hM1z : M1.heap.size = W1.heap.size + 1 := by rw [← hM1]; simp
  have HM1z := Lib.hid hM1z
  have hm1 : MapD M1 W1.heap.size [] := by rw [← hM1]; exact mapD_made W1
  obtain ⟨M2, hu, hm2, hg2⟩ := hm1.put (y := 0) hs (wfN (n := 0) (by omega)) (by simp [maxLen])
  have hm2' : MapD M2 W1.heap.size [(s, 0)] := hm2
  have b0' := cell_later hbM b0; have b1' := cell_later hbM b1
  have hws : w.heap.size < W1.heap.size := hlt1
  have hne1 : some w.heap.size ≠ some W1.heap.size := fun e => by have := Option.some.inj e; omega
  have hb2' : w.heap.size < M1.heap.size := by omega
  have c0 : M2.cell? ⟨w.heap.size, 0, none⟩ = some (.int .i64 s.side) := (World.cell?_of_block (hg2.block _ hb2' hne1)).trans b0'
  have c1 : M2.cell? ⟨w.heap.size, 1, none⟩ = some (.int .i64 s.num) := (World.cell?_of_block (hg2.block _ hb2' hne1)).trans b1'
  have hwM1 := below_trans hb1 hbM
  have hwM : Below w.heap.size w M2 := hwM1.grown hg2 hwM1.size (fun j e => by cases e; omega)
  have hMz : W1.heap.size < M2.heap.size := by have := hg2.size; omega
  have hqM := hq.below hwM
  obtain ⟨⟨_, _, _, _⟩, fq, _, _⟩ := hqM.cells
  have qc := hqM.cells.1.2.1
  obtain ⟨M3, hM3⟩ : ∃ W, M2.setCell ⟨q, 1, none⟩ (.map (some W1.heap.size)) = W := ⟨_, rfl⟩
  have hq3 : SeaAt M3 q (.slice A g.links.length c) (.map (some W1.heap.size)) p2 p3 := by rw [← hM3]; exact (heap_set4 hqM).1
  have hT3 : Touch M2 M3 [q] := by rw [← hM3]; exact touch_set (a := ⟨q, 1, none⟩) rfl (by simp)
  have hm3 : MapD M3 W1.heap.size [(s, 0)] := MapAt.same hm2' (hT3.block _ hMz (by simp; omega))
  have d0 : M3.cell? ⟨w.heap.size, 0, none⟩ = some (.int .i64 s.side) := cell_off hT3 (show w.heap.size ∉ [q] by simp; omega) c0
  have d1 : M3.cell? ⟨w.heap.size, 1, none⟩ = some (.int .i64 s.num) := cell_off hT3 (show w.heap.size ∉ [q] by simp; omega) c1
  have hz3 := hT3.size
  obtain ⟨W2, hW2, Hz2, hb2, hlt2, _⟩ := boxed M3 #[.int .i64 s.side, .int .i64 s.num] 43
  have hkq : W2.heap[M3.heap.size]? = some (.cells (encD s).toArray 43 (0, 0)) := by rw [← hW2]; exact heap_alloc_new _ _
  have hq0 : QuD M3.heap.size W2 (.slice (some ⟨M3.heap.size, 0, none⟩) 1 1) [s] := Own.qu (own_one (lenD s) hkq (Nat.le_refl _))
  have hm4 := hm3.below hb2
  have hT0 : Touch M3 W2 [W1.heap.size] := touch_below hb2 _
  have hTw : Touch w M3 [q] := (touch_below hwM [q]).trans hT3
  have HTw : Hid (∀ wr, Touch M3 wr [W1.heap.size] → Touch w wr [q]) := Lib.hid fun wr hT => hTw.fresh hT (fun b hb => by simp at hb; right; omega)
  have Hq3 := Lib.hid fun (wr : World) (hT : Touch M3 wr [W1.heap.size]) => (hq3.off hT (by simp; omega) : SeaAt wr q (.slice A g.links.length c) (.map (some W1.heap.size)) p2 p3)
  obtain ⟨iD, hiD, hzD, hkD, hbD⟩ := info_parts infoD
  clear hc1 hm2 hm2' hkq b0 b1 hb2' hqM hq hk hq3 hm3 hg2 HM1z hT3 hTw
  go_enter Tryz.func24, Tryz.ntmps24
  go_wp2_with fail
  clear hmm hu hM1 hW2 hW1 b0' b1' c0 c1 hb2 d0 d1 fq qc hM3 hM1z
  go_loopw [4] (fun qv wr => ∃ (m : List (Die × Int)) (Q : List Die) (n : Int), Hid (BfsD g s m Q n) ∧ Hid (∀ d1 Q', Q = d1 :: Q' → (d1, n) ∈ m) ∧ MapD wr W1.heap.size m ∧ QuD M3.heap.size wr qv Q ∧ Touch M3 wr [W1.heap.size] ∧ Hid (Q.length ≤ m.length)) (fun qv wr => (130 - mapSz wr W1.heap.size) + qLen qv)
  case atStart => exact ⟨[(s, 0)], [s], 0, Lib.hid (bfsD_start g s), Lib.hid (fun d1 Q' e => by cases e; simp), hm4, hq0, hT0, Lib.hid (Nat.le_refl _)⟩
  case round =>
    clear hm4 hq0 hT0
    obtain ⟨m, Q, n, HB, HN, hm, hqu, hT, HQ⟩ := hrel
    have hml := HB.out.base.len
    have hMr := hT.size
    cases Q with
    | nil =>
      obtain ⟨Aq, cq, rfl⟩ := hqu.nil
      have HT := Lib.hid hT
      clear hqu hT
      go_wp2_with fail
      go_end0
      exact ⟨⟨_, rfl⟩, _, m, n, Hq3.out _ HT.out, hm, HB.out, by omega, HTw.out _ HT.out, by omega⟩
    | cons d Q =>
      have qs := (Hq3.out _ hT).cells
      have q0 := qs.1.1
      have hwd : wfD d := by
        have := (hm.good _ (List.mem_map.1 (HB.out.base.que d (by simp))).choose_spec.1).1
        rwa [(List.mem_map.1 (HB.out.base.que d (by simp))).choose_spec.2] at this
      have Hsz := Lib.hid (mapSz_of hm)
      have HN := Lib.hid (HN.out d Q rfl)
      have hN0 := HB.out.base.rng _ HN.out
      simp only at hN0
      obtain ⟨gq, off, cap, rfl, hcm, hlc, _, _, _, _, _⟩ := hqu.head lenD
      have HT := Lib.hid hT
      clear hT qs hlc hcm
      go_wp2_with fail
      clear q0
      go_loopw [4, 29] (fun qv i wr => ∃ (j : Nat) (m' : List (Die × Int)) (Q' : List Die), j ≤ g.links.length ∧ i = .int .i64 j ∧ Hid (BfsD g s m' (d :: Q') n) ∧ Hid ((d, n) ∈ m') ∧ Hid (∀ x ∈ g.links.take j, ∀ e, acrO x d = some e → e ∈ m'.map Prod.fst) ∧ MapD wr W1.heap.size m' ∧ QuD M3.heap.size wr qv (d :: Q') ∧ Touch M3 wr [W1.heap.size] ∧ Hid (m'.length + Q.length = m.length + Q'.length) ∧ Hid (Q'.length + 1 ≤ m'.length)) (fun _ i _ => g.links.length - (intOf i).toNat)
      case atStart => exact ⟨0, m, Q, Nat.zero_le _, rfl, HB, HN, Lib.hid (fun x hx => by simp at hx), hm, hqu, HT.out, Lib.hid rfl, HQ⟩
      case round =>
        clear hm hqu HT
        rename_i wo
        obtain ⟨j, m', Q', hj, rfl, HB', HN', Hdone, hm', hq', hT', Heq, HQ'⟩ := hrel
        have hml' := HB'.out.base.len
        by_cases hlt : j < g.links.length
        · obtain ⟨x, hx⟩ := get_of_lt hlt
          obtain ⟨bo, o, rfl, hcb⟩ := HK.out j hlt
          obtain ⟨y0, y1, y2⟩ := hcb wr (HTw.out wr hT') x hx
          have hxm := List.mem_of_getElem? hx
          have Hx := Lib.hid hx
          obtain ⟨gq', off', cap', rfl, hcm', hlc', hgq', _, hcells', _, _⟩ := hq'.head lenD
          have q0 : wr.cell? ⟨gq', off', none⟩ = some (.int .i64 d.side) := hcells' 0 _ rfl
          have q1 : wr.cell? ⟨gq', off' + 1, none⟩ = some (.int .i64 d.num) := hcells' 1 _ rfl
          obtain ⟨L1, L2, hL1, hL2, HzL2, hkL1, hkL2, hbL2, hltL2⟩ := fresh wr [.int .i64 0, .int .i64 0, .int .i64 0] [.int .i64 (x).id, .int .i64 (x).obv, .int .i64 (x).rev] 73 rfl
          have hsL2 : ((L1.setCell ⟨wr.heap.size, 0, none⟩ (.int .i64 (x).id)).setCell ⟨wr.heap.size, 1, none⟩ (.int .i64 (x).obv)).setCell ⟨wr.heap.size, 2, none⟩ (.int .i64 (x).rev) = L2 := hL2
          clear hL2
          obtain ⟨⟨z0a, z1a, z2a⟩, f0a, f1a, f2a⟩ := cells3 hkL1
          obtain ⟨⟨s0a, s1a, s2a⟩, _⟩ := cells3 hkL2
          clear hkL1
          have HwL := Lib.hid hbL2
          have hwy := acrD_wf hgl hxm d
          have q0 := cell_later hbL2 q0; have q1 := cell_later hbL2 q1
          have hqp : (0 : Int) < (Q'.length : Int) + 1 := by omega
          have HQ0 := Lib.hid (And.intro q0 q1)
          have hwrz := hT'.size
          have hL2z := HwL.out.size
          have HA := Lib.hid (acrossX_ok x d)
          clear hcb hx hcells'
          go_upto_region 8 with fail
          go_cut [7, 8] (fun p ok w2 => ∃ b : Nat, p = .pointer (some ⟨b, 0, none⟩) ∧ ok = .bool (acrO x d).isSome ∧ L2.heap.size ≤ b ∧ (w2.cell? ⟨b, 0, none⟩ = some (.int .i64 (acrD x d).side) ∧ w2.cell? ⟨b, 1, none⟩ = some (.int .i64 (acrD x d).num)) ∧ Below L2.heap.size L2 w2)
          case first =>
            have hba : Below L2.heap.size L2 L2.drew := (Below.refl _ _).drew
            obtain ⟨wa, hwa⟩ : ∃ W, L2.drew = W := ⟨_, rfl⟩
            rw [hwa] at hba
            have hbz := hba.size
            have hHeld : (fun w' : World => w'.cell? ⟨wr.heap.size, 0, none⟩ = some (.int .i64 x.id) ∧ w'.cell? ⟨wr.heap.size, 1, none⟩ = some (.int .i64 x.obv) ∧ w'.cell? ⟨wr.heap.size, 2, none⟩ = some (.int .i64 x.rev) ∧ w'.cell? ⟨gq', off', none⟩ = some (.int .i64 d.side) ∧ w'.cell? ⟨gq', off' + 1, none⟩ = some (.int .i64 d.num)) wa := ⟨cell_later hba s0a, cell_later hba s1a, cell_later hba s2a, cell_later hba q0, cell_later hba q1⟩
            have HH := Lib.hid fun (w9 : World) (hb : Below wa.heap.size wa w9) => (show (fun w' : World => w'.cell? ⟨wr.heap.size, 0, none⟩ = some (.int .i64 x.id) ∧ w'.cell? ⟨wr.heap.size, 1, none⟩ = some (.int .i64 x.obv) ∧ w'.cell? ⟨wr.heap.size, 2, none⟩ = some (.int .i64 x.rev) ∧ w'.cell? ⟨gq', off', none⟩ = some (.int .i64 d.side) ∧ w'.cell? ⟨gq', off' + 1, none⟩ = some (.int .i64 d.num)) w9 from ⟨cell_later hb hHeld.1, cell_later hb hHeld.2.1, cell_later hb hHeld.2.2.1, cell_later hb hHeld.2.2.2.1, cell_later hb hHeld.2.2.2.2⟩)
            refine wp_region_S 10 (fun w' : World => w'.cell? ⟨wr.heap.size, 0, none⟩ = some (.int .i64 x.id) ∧ w'.cell? ⟨wr.heap.size, 1, none⟩ = some (.int .i64 x.obv) ∧ w'.cell? ⟨wr.heap.size, 2, none⟩ = some (.int .i64 x.rev) ∧ w'.cell? ⟨gq', off', none⟩ = some (.int .i64 d.side) ∧ w'.cell? ⟨gq', off' + 1, none⟩ = some (.int .i64 d.num)) (by kernel_rfl) (by decide) ?_
            rw [hwa]
            clear hwa s0a s1a s2a q0 q1 y0 y1 y2 z0a z1a z2a f0a f1a f2a hsL2 hL1
            refine wpAnyS_takeD 0 (some 34) (valL x) (by rfl) (by rfl) (by kernel_rfl) (by exact fun _ _ _ h => h) (by rfl) (fun w' hS => by (obtain ⟨x0, x1, x2, x3, x4⟩ := hS; go_simp)) hHeld ?_
            simp only [Act.put, List.setIfInBounds_toArray, List.set_cons_succ, List.set_cons_zero]
            refine wpAnyS_takeD 1 (some 35) (.slice (some ⟨gq', off', none⟩) (Q'.length + 1) (cap' + 1)) (by rfl) (by rfl) (by kernel_rfl) (by exact fun _ _ _ h => h) (by rfl) (fun w' hS => by go_simp) hHeld ?_
            simp only [Act.put, List.setIfInBounds_toArray, List.set_cons_succ, List.set_cons_zero]
            refine wpAnyS_takeD 2 (some 36) (.pointer (some ⟨gq', off', none⟩)) (by rfl) (by rfl) (by kernel_rfl) (by exact fun _ _ _ h => h) (by rfl) (fun w' hS => by go_simp) hHeld ?_
            simp only [Act.put, List.setIfInBounds_toArray, List.set_cons_succ, List.set_cons_zero]
            refine wpAnyS_takeD 3 (some 37) (vlD d) (by rfl) (by rfl) (by kernel_rfl) (by exact fun _ _ _ h => h) (by rfl) (fun w' hS => by (obtain ⟨x0, x1, x2, x3, x4⟩ := hS; go_simp)) hHeld ?_
            simp only [Act.put, List.setIfInBounds_toArray, List.set_cons_succ, List.set_cons_zero]
            clear hHeld
            refine wpAnyS_two 4 8 (by kernel_rfl) (by rfl) (by rfl) (by decide) (by decide) (fun K hK => ?_) (fun K hK => ?_)
            · have HK := Lib.hid hK; clear hK
              rw [if_pos (by rfl)]
              go_simp
              refine (HA.out _).mono ?_
              rintro e w5 ⟨rfl, hb5⟩
              have hHeld := HH.out _ hb5
              refine HK.out _ _ hHeld ?_
              clear HK
              refine wpAnyS_takeD 5 (some 33) (.tuple #[vlD (acrD x d), .bool (acrO x d).isSome]) (by rfl) (by rfl) (by kernel_rfl) (by exact fun _ _ _ h => h) (by rfl) (fun w' hS => by go_simp) hHeld ?_
              simp only [Act.put, List.setIfInBounds_toArray, List.set_cons_succ, List.set_cons_zero]
              refine wpAnyS_takeD 6 (some 39) (vlD (acrD x d)) (by rfl) (by rfl) (by kernel_rfl) (by exact fun _ _ _ h => h) (by rfl) (fun w' hS => by go_simp) hHeld ?_
              simp only [Act.put, List.setIfInBounds_toArray]
              refine wpAnyS_takeD 7 (some 40) (.bool (acrO x d).isSome) (by rfl) (by rfl) (by kernel_rfl) (by exact fun _ _ _ h => h) (by rfl) (fun w' hS => by go_simp) hHeld ?_
              simp only [Act.put, List.setIfInBounds_toArray]
              clear hHeld
              obtain ⟨V, hV, HzV, hbV, hltV, _⟩ := boxed w5 #[.int .i64 0, .int .i64 0] 43
              have hkV : V.heap[w5.heap.size]? = some (.cells [.int .i64 0, .int .i64 0].toArray 43 (0, 0)) := by rw [← hV]; exact heap_alloc_new _ _
              have hb6 := below_trans hb5 hbV
              have hz5 := hb5.size
              refine wpAnyS_one 8 (by kernel_rfl) (by rfl) (by decide) (fun K hK => ?_)
              have HK := Lib.hid hK; clear hK
              rw [if_pos (by rfl)]
              go_simp
              refine HK.out _ _ (HH.out _ hb6) ?_
              clear HK hV
              obtain ⟨⟨z0, z1⟩, f0, f1⟩ := cells2 hkV
              obtain ⟨W9, hW9⟩ : ∃ W, ((V).setCell ⟨w5.heap.size, 0, none⟩ (.int .i64 (acrD x d).side)).setCell ⟨w5.heap.size, 1, none⟩ (.int .i64 (acrD x d).num) = W := ⟨_, rfl⟩
              have hk9 : W9.heap[w5.heap.size]? = some (.cells [.int .i64 (acrD x d).side, .int .i64 (acrD x d).num].toArray 43 (0, 0)) := by rw [← hW9]; exact heap_set2 hkV
              have hg9 : (V).grownBy W9 (some (w5.heap.size)) := by rw [← hW9]; exact setCells_grown (w5.heap.size) [.int .i64 (acrD x d).side, .int .i64 (acrD x d).num] (V) 0
              have hb9 : Below wa.heap.size wa W9 := (hb6).grown hg9 (hb6).size (fun j e => by cases e; omega)
              have HF := Lib.hid (And.intro hk9 hb9)
              obtain ⟨⟨e0, e1⟩, _⟩ := cells2 hk9
              clear hk9 hg9 hb9
              refine wpAnyS_one 9 (by kernel_rfl) (by rfl) (by decide) (fun K hK => ?_)
              have HK := Lib.hid hK; clear hK
              rw [if_pos (by rfl)]
              go_simp
              refine HK.out _ _ (HH.out _ HF.out.2) ?_
              clear HK hW9 z0 z1 f0 f1
              refine (show tailOf _ _ _ _ _ _ _ _ from ⟨by kernel_rfl, ?_⟩)
              simp only [List.drop_succ_cons, List.drop_zero]
              go_wp2_with fail
              go_meet
              exact ⟨_, rfl, rfl, by omega, ⟨e0, e1⟩, below_trans hba HF.out.2⟩
            · have HK := Lib.hid hK; clear hK
              obtain ⟨V, hV, HzV, hbV, hltV, _⟩ := boxed wa #[.int .i64 0, .int .i64 0] 43
              have hkV : V.heap[wa.heap.size]? = some (.cells [.int .i64 0, .int .i64 0].toArray 43 (0, 0)) := by rw [← hV]; exact heap_alloc_new _ _
              rw [if_pos (by rfl)]
              go_simp
              refine HK.out _ _ (HH.out _ hbV) ?_
              clear HK hV
              refine wpAnyS_one 4 (by kernel_rfl) (by rfl) (by decide) (fun K hK => ?_)
              have HK := Lib.hid hK; clear hK
              rw [if_pos (by rfl)]
              go_simp
              refine (HA.out _).mono ?_
              rintro e w5 ⟨rfl, hb5⟩
              have hb6 := below_trans hbV hb5
              have hk5 := heap_below hkV hb5 (heap_lt hkV)
              have hHeld := HH.out _ hb6
              refine HK.out _ _ hHeld ?_
              clear HK
              refine wpAnyS_takeD 5 (some 33) (.tuple #[vlD (acrD x d), .bool (acrO x d).isSome]) (by rfl) (by rfl) (by kernel_rfl) (by exact fun _ _ _ h => h) (by rfl) (fun w' hS => by go_simp) hHeld ?_
              simp only [Act.put, List.setIfInBounds_toArray, List.set_cons_succ, List.set_cons_zero]
              refine wpAnyS_takeD 6 (some 39) (vlD (acrD x d)) (by rfl) (by rfl) (by kernel_rfl) (by exact fun _ _ _ h => h) (by rfl) (fun w' hS => by go_simp) hHeld ?_
              simp only [Act.put, List.setIfInBounds_toArray]
              refine wpAnyS_takeD 7 (some 40) (.bool (acrO x d).isSome) (by rfl) (by rfl) (by kernel_rfl) (by exact fun _ _ _ h => h) (by rfl) (fun w' hS => by go_simp) hHeld ?_
              simp only [Act.put, List.setIfInBounds_toArray]
              clear hHeld
              obtain ⟨⟨z0, z1⟩, f0, f1⟩ := cells2 hk5
              obtain ⟨W9, hW9⟩ : ∃ W, ((w5).setCell ⟨wa.heap.size, 0, none⟩ (.int .i64 (acrD x d).side)).setCell ⟨wa.heap.size, 1, none⟩ (.int .i64 (acrD x d).num) = W := ⟨_, rfl⟩
              have hk9 : W9.heap[wa.heap.size]? = some (.cells [.int .i64 (acrD x d).side, .int .i64 (acrD x d).num].toArray 43 (0, 0)) := by rw [← hW9]; exact heap_set2 hk5
              have hg9 : (w5).grownBy W9 (some (wa.heap.size)) := by rw [← hW9]; exact setCells_grown (wa.heap.size) [.int .i64 (acrD x d).side, .int .i64 (acrD x d).num] (w5) 0
              have hb9 : Below wa.heap.size wa W9 := (hb6).grown hg9 (hb6).size (fun j e => by cases e; omega)
              have HF := Lib.hid (And.intro hk9 hb9)
              obtain ⟨⟨e0, e1⟩, _⟩ := cells2 hk9
              clear hk9 hg9 hb9
              refine wpAnyS_one 9 (by kernel_rfl) (by rfl) (by decide) (fun K hK => ?_)
              have HK := Lib.hid hK; clear hK
              rw [if_pos (by rfl)]
              go_simp
              refine HK.out _ _ (HH.out _ HF.out.2) ?_
              clear HK hW9 z0 z1 f0 f1
              refine (show tailOf _ _ _ _ _ _ _ _ from ⟨by kernel_rfl, ?_⟩)
              simp only [List.drop_succ_cons, List.drop_zero]
              go_wp2_with fail
              go_meet
              exact ⟨_, rfl, rfl, by omega, ⟨e0, e1⟩, below_trans hba HF.out.2⟩
          case rest =>
            obtain ⟨b7, rfl, rfl, hL7, ⟨e0, e1⟩, hbc⟩ := hcut
            have hbwc := below_trans HwL.out hbc
            have hmc := hm'.below hbwc; have hqc := hq'.below hbwc
            have hTc := hT'.trans (touch_below hbwc [W1.heap.size])
            have qm := (Hq3.out wc hTc).cells.1.2.1
            have HTc := Lib.hid hTc
            have hTcz := hTc.size
            obtain ⟨y, hy⟩ : ∃ y, acrD x d = y := ⟨_, rfl⟩
            have hwy' : wfD y := by rw [← hy]; exact hwy
            rw [hy] at e0 e1
            have Hy := Lib.hid hy
            obtain ⟨B, hB⟩ : ∃ B, (acrO x d).isSome = B := ⟨_, rfl⟩
            rw [hB]
            have HBo := Lib.hid hB
            have hb7 : b7 < wc.heap.size := by
              rcases Nat.lt_or_ge b7 wc.heap.size with h | h
              · exact h
              · rw [World.cell?, Array.getElem?_eq_none h] at e0; cases e0
            clear hy hB hm' hq' hT' s0a s1a s2a q0 q1 y0 y1 y2 z0a z1a z2a f0a f1a f2a hsL2 hL1 hTc
            cases B
            case false =>
              have ha : acrO x d = none := by simpa using HBo.out
              have Hdone' : Hid (∀ x ∈ g.links.take (j + 1), ∀ e, acrO x d = some e → e ∈ m'.map Prod.fst) := Lib.hid (mem_snoc2 (P := fun x => ∀ e, acrO x d = some e → e ∈ m'.map Prod.fst) Hx.out (fun z hz => Hdone.out z hz) (fun e he => by rw [ha] at he; cases he))
              have HL := Lib.hid fun (w' : World) (hb : Below wc.heap.size wc w') => (hmc.below hb).look_ok hwy'
              generalize (lookM m' y).isSome = K at HL
              generalize (lookM m' y).getD 0 = K2 at HL
              clear ha Hdone
              go_wp2_with fail
              have hbc9 : Below wc.heap.size wc wc.drew := (Below.refl _ _).drew
              obtain ⟨wa, hwa⟩ : ∃ W, wc.drew = W := ⟨_, rfl⟩
              rw [hwa] at hbc9
              have x0 := cell_later hbc9 qm
              have x1 := cell_later hbc9 e0
              have x2 := cell_later hbc9 e1
              have kk := HL.out wa hbc9
              have hHeld : wa = wa := rfl
              refine wp_region_S 10 (fun w' => w' = wa) (by kernel_rfl) (by decide) ?_
              rw [hwa]
              clear hwa e0 e1 qm
              refine wpAnyS_takeD 0 (some 42) (.pointer (some ⟨q, 0, none⟩)) (by rfl) (by rfl) (by kernel_rfl) (by exact fun _ _ _ h => h) (by rfl) (fun w' hS => by (subst hS; go_simp)) hHeld ?_
              simp only [Act.put, List.setIfInBounds_toArray, List.set_cons_succ, List.set_cons_zero]
              refine wpAnyS_takeD 1 (some 43) (.pointer (some ⟨q, 0, none⟩)) (by rfl) (by rfl) (by kernel_rfl) (by exact fun _ _ _ h => h) (by rfl) (fun w' hS => by (subst hS; go_simp)) hHeld ?_
              simp only [Act.put, List.setIfInBounds_toArray, List.set_cons_succ, List.set_cons_zero]
              refine wpAnyS_takeD 2 (some 44) (.pointer (some ⟨q, 1, none⟩)) (by rfl) (by rfl) (by kernel_rfl) (by exact fun _ _ _ h => h) (by rfl) (fun w' hS => by (subst hS; go_simp)) hHeld ?_
              simp only [Act.put, List.setIfInBounds_toArray, List.set_cons_succ, List.set_cons_zero]
              refine wpAnyS_takeD 3 (some 45) (.map (some W1.heap.size)) (by rfl) (by rfl) (by kernel_rfl) (by exact fun _ _ _ h => h) (by rfl) (fun w' hS => by (subst hS; go_simp)) hHeld ?_
              simp only [Act.put, List.setIfInBounds_toArray, List.set_cons_succ, List.set_cons_zero]
              refine wpAnyS_takeD 4 (some 46) (vlD y) (by rfl) (by rfl) (by kernel_rfl) (by exact fun _ _ _ h => h) (by rfl) (fun w' hS => by (subst hS; go_simp)) hHeld ?_
              simp only [Act.put, List.setIfInBounds_toArray, List.set_cons_succ, List.set_cons_zero]
              refine wpAnyS_takeD 5 (some 47) (.tuple #[.int .i64 K2, .bool K]) (by rfl) (by rfl) (by kernel_rfl) (by exact fun _ _ _ h => h) (by rfl) (fun w' hS => by (subst hS; go_simp)) hHeld ?_
              simp only [Act.put, List.setIfInBounds_toArray, List.set_cons_succ, List.set_cons_zero]
              refine wpAnyS_takeD 6 (some 41) (.tuple #[.int .i64 K2, .bool K]) (by rfl) (by rfl) (by kernel_rfl) (by exact fun _ _ _ h => h) (by rfl) (fun w' hS => by (subst hS; go_simp)) hHeld ?_
              simp only [Act.put, List.setIfInBounds_toArray, List.set_cons_succ, List.set_cons_zero]
              refine wpAnyS_takeD 7 (some 48) (.int .i64 K2) (by rfl) (by rfl) (by kernel_rfl) (by exact fun _ _ _ h => h) (by rfl) (fun w' hS => by (subst hS; go_simp)) hHeld ?_
              simp only [Act.put, List.setIfInBounds_toArray]
              refine wpAnyS_takeD 8 (some 49) (.bool K) (by rfl) (by rfl) (by kernel_rfl) (by exact fun _ _ _ h => h) (by rfl) (fun w' hS => by (subst hS; go_simp)) hHeld ?_
              simp only [Act.put, List.setIfInBounds_toArray]
              refine wpAnyS_takeD 9 (some 9) (.int .i64 K2) (by rfl) (by rfl) (by kernel_rfl) (by exact fun _ _ _ h => h) (by rfl) (fun w' hS => by (subst hS; go_simp)) hHeld ?_
              simp only [Act.put, List.setIfInBounds_toArray]
              clear hHeld kk
              refine (show tailOf _ _ _ _ _ _ _ _ from ⟨by kernel_rfl, ?_⟩)
              simp only [List.drop_succ_cons, List.drop_zero]
              go_wp2_with fail
              refine ⟨?rel, ?measure⟩
              case rel => exact ⟨j + 1, m', Q', by omega, by go_num, HB', HN', Hdone', hmc.below hbc9, hqc.below hbc9, HTc.out.trans (touch_below hbc9 _), Heq, HQ'⟩
              case measure => first | (simp [intOf]; done) | (simp [intOf]; omega)
            case true =>
              have ha : acrO x d = some y := by
                obtain ⟨y', hy'⟩ := Option.isSome_iff_exists.1 HBo.out
                have := Hy.out
                rw [acrD, hy'] at this
                rw [hy']; exact congrArg some this
              have Ha := Lib.hid ha
              clear ha
              cases hl : lookM m' y with
              | some n1 =>
                have HL := Lib.hid fun (w' : World) (hb : Below wc.heap.size wc w') => (hmc.below hb).look_ok hwy'
                rw [hl] at HL
                dsimp only [Option.getD, Option.isSome] at HL
                have Hdone' : Hid (∀ x ∈ g.links.take (j + 1), ∀ e, acrO x d = some e → e ∈ m'.map Prod.fst) := Lib.hid (mem_snoc2 (P := fun x => ∀ e, acrO x d = some e → e ∈ m'.map Prod.fst) Hx.out (fun z hz => Hdone.out z hz) (fun e he => by rw [Ha.out] at he; cases he; exact List.mem_map.2 ⟨_, lookM_some hl, rfl⟩))
                clear hl Hdone
                go_wp2_with fail
                have hbc9 : Below wc.heap.size wc wc.drew := (Below.refl _ _).drew
                obtain ⟨wa, hwa⟩ : ∃ W, wc.drew = W := ⟨_, rfl⟩
                rw [hwa] at hbc9
                have x0 := cell_later hbc9 qm
                have x1 := cell_later hbc9 e0
                have x2 := cell_later hbc9 e1
                have kk := HL.out wa hbc9
                have hHeld : wa = wa := rfl
                refine wp_region_S 10 (fun w' => w' = wa) (by kernel_rfl) (by decide) ?_
                rw [hwa]
                clear hwa e0 e1 qm
                refine wpAnyS_takeD 0 (some 42) (.pointer (some ⟨q, 0, none⟩)) (by rfl) (by rfl) (by kernel_rfl) (by exact fun _ _ _ h => h) (by rfl) (fun w' hS => by (subst hS; go_simp)) hHeld ?_
                simp only [Act.put, List.setIfInBounds_toArray, List.set_cons_succ, List.set_cons_zero]
                refine wpAnyS_takeD 1 (some 43) (.pointer (some ⟨q, 0, none⟩)) (by rfl) (by rfl) (by kernel_rfl) (by exact fun _ _ _ h => h) (by rfl) (fun w' hS => by (subst hS; go_simp)) hHeld ?_
                simp only [Act.put, List.setIfInBounds_toArray, List.set_cons_succ, List.set_cons_zero]
                refine wpAnyS_takeD 2 (some 44) (.pointer (some ⟨q, 1, none⟩)) (by rfl) (by rfl) (by kernel_rfl) (by exact fun _ _ _ h => h) (by rfl) (fun w' hS => by (subst hS; go_simp)) hHeld ?_
                simp only [Act.put, List.setIfInBounds_toArray, List.set_cons_succ, List.set_cons_zero]
                refine wpAnyS_takeD 3 (some 45) (.map (some W1.heap.size)) (by rfl) (by rfl) (by kernel_rfl) (by exact fun _ _ _ h => h) (by rfl) (fun w' hS => by (subst hS; go_simp)) hHeld ?_
                simp only [Act.put, List.setIfInBounds_toArray, List.set_cons_succ, List.set_cons_zero]
                refine wpAnyS_takeD 4 (some 46) (vlD y) (by rfl) (by rfl) (by kernel_rfl) (by exact fun _ _ _ h => h) (by rfl) (fun w' hS => by (subst hS; go_simp)) hHeld ?_
                simp only [Act.put, List.setIfInBounds_toArray, List.set_cons_succ, List.set_cons_zero]
                refine wpAnyS_takeD 5 (some 47) (.tuple #[.int .i64 n1, .bool true]) (by rfl) (by rfl) (by kernel_rfl) (by exact fun _ _ _ h => h) (by rfl) (fun w' hS => by (subst hS; go_simp)) hHeld ?_
                simp only [Act.put, List.setIfInBounds_toArray, List.set_cons_succ, List.set_cons_zero]
                refine wpAnyS_takeD 6 (some 41) (.tuple #[.int .i64 n1, .bool true]) (by rfl) (by rfl) (by kernel_rfl) (by exact fun _ _ _ h => h) (by rfl) (fun w' hS => by (subst hS; go_simp)) hHeld ?_
                simp only [Act.put, List.setIfInBounds_toArray, List.set_cons_succ, List.set_cons_zero]
                refine wpAnyS_takeD 7 (some 48) (.int .i64 n1) (by rfl) (by rfl) (by kernel_rfl) (by exact fun _ _ _ h => h) (by rfl) (fun w' hS => by (subst hS; go_simp)) hHeld ?_
                simp only [Act.put, List.setIfInBounds_toArray]
                refine wpAnyS_takeD 8 (some 49) (.bool true) (by rfl) (by rfl) (by kernel_rfl) (by exact fun _ _ _ h => h) (by rfl) (fun w' hS => by (subst hS; go_simp)) hHeld ?_
                simp only [Act.put, List.setIfInBounds_toArray]
                refine wpAnyS_takeD 9 (some 9) (.int .i64 n1) (by rfl) (by rfl) (by kernel_rfl) (by exact fun _ _ _ h => h) (by rfl) (fun w' hS => by (subst hS; go_simp)) hHeld ?_
                simp only [Act.put, List.setIfInBounds_toArray]
                clear hHeld kk
                refine (show tailOf _ _ _ _ _ _ _ _ from ⟨by kernel_rfl, ?_⟩)
                simp only [List.drop_succ_cons, List.drop_zero]
                go_wp2_with fail
                refine ⟨?rel, ?measure⟩
                case rel => exact ⟨j + 1, m', Q', by omega, by go_num, HB', HN', Hdone', hmc.below hbc9, hqc.below hbc9, HTc.out.trans (touch_below hbc9 _), Heq, HQ'⟩
                case measure => first | (simp [intOf]; done) | (simp [intOf]; omega)
              | none =>
                have HL := Lib.hid fun (w' : World) (hb : Below wc.heap.size wc w') => (hmc.below hb).look_ok hwy'
                rw [hl] at HL
                dsimp only [Option.getD, Option.isSome] at HL
                have hny : y ∉ m'.map Prod.fst := lookM_none.1 hl
                have hnr := HB'.out.base.rng _ HN'.out
                simp only at hnr
                have HBadd := Lib.hid (HB'.out.add HN'.out hxm Ha.out hny)
                have Hpa := Lib.hid (putM_add (n := n + 1) hny)
                have Hdone' : Hid (∀ x ∈ g.links.take (j + 1), ∀ e, acrO x d = some e → e ∈ (m' ++ [(y, n + 1)]).map Prod.fst) := Lib.hid (mem_snoc2 (P := fun x => ∀ e, acrO x d = some e → e ∈ (m' ++ [(y, n + 1)]).map Prod.fst) Hx.out (fun z hz e he => by rw [List.map_append]; exact List.mem_append_left _ (Hdone.out z hz e he)) (fun e he => by rw [Ha.out] at he; cases he; simp))
                have HNadd : Hid ((d, n) ∈ m' ++ [(y, n + 1)]) := Lib.hid (List.mem_append_left _ HN'.out)
                have hwn : wfI (n + 1) := by
                  have e : n + 1 = ((n.toNat + 1 : Nat) : Int) := by omega
                  rw [e]; exact wfN (by omega)
                have Hn : Hid (lookM m' d = some n) := Lib.hid ((lookM_mem HB'.out.base.nod).2 HN'.out)
                have n0 := hnr.1
                have n1 : n ≤ 200 := by omega
                have Hq := Lib.hid (And.intro e0 e1)
                have Hqm := Lib.hid qm
                clear hl Hdone hny hnr
                go_wp2_with fail
                have hbc9 : Below wc.heap.size wc wc.drew := (Below.refl _ _).drew
                obtain ⟨wa, hwa⟩ : ∃ W, wc.drew = W := ⟨_, rfl⟩
                rw [hwa] at hbc9
                have x0 := cell_later hbc9 qm
                have x1 := cell_later hbc9 e0
                have x2 := cell_later hbc9 e1
                have kk := HL.out wa hbc9
                have hHeld : wa = wa := rfl
                refine wp_region_S 10 (fun w' => w' = wa) (by kernel_rfl) (by decide) ?_
                rw [hwa]
                clear hwa e0 e1 qm
                refine wpAnyS_takeD 0 (some 42) (.pointer (some ⟨q, 0, none⟩)) (by rfl) (by rfl) (by kernel_rfl) (by exact fun _ _ _ h => h) (by rfl) (fun w' hS => by (subst hS; go_simp)) hHeld ?_
                simp only [Act.put, List.setIfInBounds_toArray, List.set_cons_succ, List.set_cons_zero]
                refine wpAnyS_takeD 1 (some 43) (.pointer (some ⟨q, 0, none⟩)) (by rfl) (by rfl) (by kernel_rfl) (by exact fun _ _ _ h => h) (by rfl) (fun w' hS => by (subst hS; go_simp)) hHeld ?_
                simp only [Act.put, List.setIfInBounds_toArray, List.set_cons_succ, List.set_cons_zero]
                refine wpAnyS_takeD 2 (some 44) (.pointer (some ⟨q, 1, none⟩)) (by rfl) (by rfl) (by kernel_rfl) (by exact fun _ _ _ h => h) (by rfl) (fun w' hS => by (subst hS; go_simp)) hHeld ?_
                simp only [Act.put, List.setIfInBounds_toArray, List.set_cons_succ, List.set_cons_zero]
                refine wpAnyS_takeD 3 (some 45) (.map (some W1.heap.size)) (by rfl) (by rfl) (by kernel_rfl) (by exact fun _ _ _ h => h) (by rfl) (fun w' hS => by (subst hS; go_simp)) hHeld ?_
                simp only [Act.put, List.setIfInBounds_toArray, List.set_cons_succ, List.set_cons_zero]
                refine wpAnyS_takeD 4 (some 46) (vlD y) (by rfl) (by rfl) (by kernel_rfl) (by exact fun _ _ _ h => h) (by rfl) (fun w' hS => by (subst hS; go_simp)) hHeld ?_
                simp only [Act.put, List.setIfInBounds_toArray, List.set_cons_succ, List.set_cons_zero]
                refine wpAnyS_takeD 5 (some 47) (.tuple #[.int .i64 0, .bool false]) (by rfl) (by rfl) (by kernel_rfl) (by exact fun _ _ _ h => h) (by rfl) (fun w' hS => by (subst hS; go_simp)) hHeld ?_
                simp only [Act.put, List.setIfInBounds_toArray, List.set_cons_succ, List.set_cons_zero]
                refine wpAnyS_takeD 6 (some 41) (.tuple #[.int .i64 0, .bool false]) (by rfl) (by rfl) (by kernel_rfl) (by exact fun _ _ _ h => h) (by rfl) (fun w' hS => by (subst hS; go_simp)) hHeld ?_
                simp only [Act.put, List.setIfInBounds_toArray, List.set_cons_succ, List.set_cons_zero]
                refine wpAnyS_takeD 7 (some 48) (.int .i64 0) (by rfl) (by rfl) (by kernel_rfl) (by exact fun _ _ _ h => h) (by rfl) (fun w' hS => by (subst hS; go_simp)) hHeld ?_
                simp only [Act.put, List.setIfInBounds_toArray]
                refine wpAnyS_takeD 8 (some 49) (.bool false) (by rfl) (by rfl) (by kernel_rfl) (by exact fun _ _ _ h => h) (by rfl) (fun w' hS => by (subst hS; go_simp)) hHeld ?_
                simp only [Act.put, List.setIfInBounds_toArray]
                refine wpAnyS_takeD 9 (some 9) (.int .i64 0) (by rfl) (by rfl) (by kernel_rfl) (by exact fun _ _ _ h => h) (by rfl) (fun w' hS => by (subst hS; go_simp)) hHeld ?_
                simp only [Act.put, List.setIfInBounds_toArray]
                clear hHeld kk
                refine (show tailOf _ _ _ _ _ _ _ _ from ⟨by kernel_rfl, ?_⟩)
                simp only [List.drop_succ_cons, List.drop_zero]
                go_wp2_with fail
                have hbb : Below wa.heap.size wa wa.drew := (Below.refl _ _).drew
                obtain ⟨wb, hwb⟩ : ∃ W, wa.drew = W := ⟨_, rfl⟩
                rw [hwb] at hbb
                have hcb := below_trans hbc9 hbb
                have hm7 := hmc.below hcb
                have k2 := hm7.look hwd
                rw [Hn.out] at k2
                dsimp only [Option.getD] at k2
                obtain ⟨w8, hu8, hm8, hg8⟩ := hm7.put hwy' hwn (by simp only [maxLen]; omega)
                rw [Hpa.out] at hm8
                have hbLb := below_trans hbc hcb
                have u0 := cell_later hbLb HQ0.out.1; have u1 := cell_later hbLb HQ0.out.2
                have v0 := cell_later hcb Hq.out.1; have v1 := cell_later hcb Hq.out.2
                have qb := cell_later hcb Hqm.out
                have hbz := hcb.size
                have hb7n : b7 ≠ W1.heap.size := by omega
                have hoff : some b7 ≠ some W1.heap.size := fun e => hb7n (Option.some.inj e)
                have x2 : w8.cell? ⟨b7, 0, none⟩ = some (.int .i64 y.side) := (World.cell?_of_block (hg8.block b7 (by omega) hoff)).trans v0
                have x3 : w8.cell? ⟨b7, 1, none⟩ = some (.int .i64 y.num) := (World.cell?_of_block (hg8.block b7 (by omega) hoff)).trans v1
                have hq8 := (hqc.below hcb).kept hg8 (.inr fun e => by have := (hqc.lt _ e).1; omega)
                have HT8 := Lib.hid ((HTc.out.trans (touch_below hcb [W1.heap.size])).trans (grown_touch hg8 (by simp)))
                have hz8 : M3.heap.size ≤ w8.heap.size := HT8.out.size
                have hlq8 : Q'.length + 1 ≤ 129 := by have := HQ'.out; omega
                have hwr1 : IntKind.i64.wrap (n + 1) = n + 1 := IntWalk.i64_in _ (by omega)
                have hHeld : wb = wb := rfl
                refine wp_region_S 14 (fun w' => w' = wb) (by kernel_rfl) (by decide) ?_
                rw [hwb]
                clear hwb x0 x1
                refine wpAnyS_takeD 0 (some 55) (.pointer (some ⟨q, 0, none⟩)) (by rfl) (by rfl) (by kernel_rfl) (by exact fun _ _ _ h => h) (by rfl) (fun w' hS => by (subst hS; go_simp)) hHeld ?_
                simp only [Act.put, List.setIfInBounds_toArray, List.set_cons_succ, List.set_cons_zero]
                refine wpAnyS_takeD 1 (some 56) (.pointer (some ⟨q, 0, none⟩)) (by rfl) (by rfl) (by kernel_rfl) (by exact fun _ _ _ h => h) (by rfl) (fun w' hS => by (subst hS; go_simp)) hHeld ?_
                simp only [Act.put, List.setIfInBounds_toArray, List.set_cons_succ, List.set_cons_zero]
                refine wpAnyS_takeD 2 (some 57) (.pointer (some ⟨q, 1, none⟩)) (by rfl) (by rfl) (by kernel_rfl) (by exact fun _ _ _ h => h) (by rfl) (fun w' hS => by (subst hS; go_simp)) hHeld ?_
                simp only [Act.put, List.setIfInBounds_toArray, List.set_cons_succ, List.set_cons_zero]
                refine wpAnyS_takeD 3 (some 58) (.map (some W1.heap.size)) (by rfl) (by rfl) (by kernel_rfl) (by exact fun _ _ _ h => h) (by rfl) (fun w' hS => by (subst hS; go_simp)) hHeld ?_
                simp only [Act.put, List.setIfInBounds_toArray, List.set_cons_succ, List.set_cons_zero]
                refine wpAnyS_takeD 4 (some 59) (vlD y) (by rfl) (by rfl) (by kernel_rfl) (by exact fun _ _ _ h => h) (by rfl) (fun w' hS => by (subst hS; go_simp)) hHeld ?_
                simp only [Act.put, List.setIfInBounds_toArray, List.set_cons_succ, List.set_cons_zero]
                refine wpAnyS_takeD 5 (some 60) (.pointer (some ⟨q, 0, none⟩)) (by rfl) (by rfl) (by kernel_rfl) (by exact fun _ _ _ h => h) (by rfl) (fun w' hS => by (subst hS; go_simp)) hHeld ?_
                simp only [Act.put, List.setIfInBounds_toArray, List.set_cons_succ, List.set_cons_zero]
                refine wpAnyS_takeD 6 (some 61) (.pointer (some ⟨q, 0, none⟩)) (by rfl) (by rfl) (by kernel_rfl) (by exact fun _ _ _ h => h) (by rfl) (fun w' hS => by (subst hS; go_simp)) hHeld ?_
                simp only [Act.put, List.setIfInBounds_toArray, List.set_cons_succ, List.set_cons_zero]
                refine wpAnyS_takeD 7 (some 62) (.pointer (some ⟨q, 1, none⟩)) (by rfl) (by rfl) (by kernel_rfl) (by exact fun _ _ _ h => h) (by rfl) (fun w' hS => by (subst hS; go_simp)) hHeld ?_
                simp only [Act.put, List.setIfInBounds_toArray, List.set_cons_succ, List.set_cons_zero]
                refine wpAnyS_takeD 8 (some 63) (.map (some W1.heap.size)) (by rfl) (by rfl) (by kernel_rfl) (by exact fun _ _ _ h => h) (by rfl) (fun w' hS => by (subst hS; go_simp)) hHeld ?_
                simp only [Act.put, List.setIfInBounds_toArray, List.set_cons_succ, List.set_cons_zero]
                refine wpAnyS_takeD 9 (some 64) (.slice (some ⟨gq', off', none⟩) (Q'.length + 1) (cap' + 1)) (by rfl) (by rfl) (by kernel_rfl) (by exact fun _ _ _ h => h) (by rfl) (fun w' hS => by (subst hS; go_simp)) hHeld ?_
                simp only [Act.put, List.setIfInBounds_toArray, List.set_cons_succ, List.set_cons_zero]
                refine wpAnyS_takeD 10 (some 65) (.pointer (some ⟨gq', off', none⟩)) (by rfl) (by rfl) (by kernel_rfl) (by exact fun _ _ _ h => h) (by rfl) (fun w' hS => by (subst hS; go_simp)) hHeld ?_
                simp only [Act.put, List.setIfInBounds_toArray, List.set_cons_succ, List.set_cons_zero]
                refine wpAnyS_takeD 11 (some 66) (vlD d) (by rfl) (by rfl) (by kernel_rfl) (by exact fun _ _ _ h => h) (by rfl) (fun w' hS => by (subst hS; go_simp)) hHeld ?_
                simp only [Act.put, List.setIfInBounds_toArray, List.set_cons_succ, List.set_cons_zero]
                refine wpAnyS_takeD 12 (some 67) (.int .i64 n) (by rfl) (by rfl) (by kernel_rfl) (by exact fun _ _ _ h => h) (by rfl) (fun w' hS => by (subst hS; go_simp)) hHeld ?_
                simp only [Act.put, List.setIfInBounds_toArray, List.set_cons_succ, List.set_cons_zero]
                refine wpAnyS_takeD 13 (some 68) (.int .i64 (n + 1)) (by rfl) (by rfl) (by kernel_rfl) (by exact fun _ _ _ h => h) (by rfl) (fun w' hS => by (subst hS; go_simp)) hHeld ?_
                simp only [Act.put, List.setIfInBounds_toArray, List.set_cons_succ, List.set_cons_zero]
                clear hHeld u0 u1 v0 v1 k2 hwr1 qb
                refine (show tailOf _ _ _ _ _ _ _ _ from ⟨by kernel_rfl, ?_⟩)
                simp only [List.drop_succ_cons, List.drop_zero]
                have hlq9 : (d :: Q').length ≤ 129 := by simp; omega
                go_wp2_with (at_builtin; refine wpList_appendQu rfl (.tmp 69) (.tmp 71) _ rfl iD _ 16 Tryz.underlying110 hiD hzD hkD hbD rfl (by decide) lenD oneD rfl hq8 y _ rfl _ rfl rfl (by omega) (by omega) hz8 ?_; intro v' wf hqf hgf hat)
                have hnb : ∀ c, c < M3.heap.size → some c ≠ Value.ownBlock _ := fun c hc e => by have := (hq8.lt c e.symm).1; omega
                refine ⟨?rel, ?measure⟩
                case rel => exact ⟨j + 1, m' ++ [(y, n + 1)], Q' ++ [y], by omega, by go_num, HBadd, HNadd, Hdone', hm8.kept hgf (hnb _ (by omega)), hqf, HT8.out.trans_own hgf (fun i e => (hq8.lt i e).1), Lib.hid (by have := Heq.out; simp only [List.length_append, List.length_singleton]; omega), Lib.hid (by have := HQ'.out; simp only [List.length_append, List.length_singleton]; omega)⟩
                case measure => first | (simp [intOf]; done) | (simp [intOf]; omega)
        · have e1 : g.links.take j = g.links := List.take_of_length_le (by omega)
          obtain ⟨n', hBp, hNp⟩ := HB'.out.pop HN'.out (fun x hx e he => Hdone.out x (by rw [e1]; exact hx) e he)
          have HBp := Lib.hid hBp; have HNp := Lib.hid hNp
          obtain ⟨gq', off', cap', rfl, hcm', hlc', _, _, _, hcut, hcut0⟩ := hq'.head lenD
          have Hsz' := Lib.hid (mapSz_of hm')
          have hcap' : (cap' : Int) + 1 ≤ 9223372036854775807 := by simp only [maxLen] at hcm'; omega
          have HQp := Lib.hid (show Q'.length ≤ m'.length by have := HQ'.out; omega)
          have HM' := Lib.hid hm'; have HT' := Lib.hid hT'
          clear e1 hq' hm' hT' hBp hNp
          rcases Nat.eq_zero_or_pos cap' with h0 | h0
          · obtain ⟨e0, hQ2⟩ := hcut0 h0
            subst h0; subst e0
            clear hcut hcut0
            have HQ2 := Lib.hid hQ2; clear hQ2
            go_wp2_with fail
            refine ⟨?rel, ?measure⟩
            case rel => exact ⟨m', [], n', HBp, HNp, HM'.out, HQ2.out, HT'.out, HQp⟩
            case measure => rw [Hsz'.out, Hsz.out]; have := Heq.out; simp [qLen] at this ⊢; omega
          · have hQ2 := hcut h0
            clear hcut hcut0
            have HQ2 := Lib.hid hQ2; clear hQ2
            go_wp2_with fail
            refine ⟨?rel, ?measure⟩
            case rel => exact ⟨m', Q', n', HBp, HNp, HM'.out, HQ2.out, HT'.out, HQp⟩
            case measure => rw [Hsz'.out, Hsz.out]; have := Heq.out; simp only [qLen]; omega
end Go.Proofs.YtikfffojeakjoaaGreatDoor
/- Package explanation: (*search).walk: its memory, and its end. Condition: the search in its memory. -/
namespace Go.Proofs.YtikfffojeakjoaaGreatDoor
open Go.RowKit Go.Maps Go.Shelf

/-- A set of dies: a map to bools that are all true. -/
def SetD (w : World) (b : Nat) (l : List Die) : Prop := l.Nodup ∧ MapAt (P := Tryz.prog) keyDie (elBool Tryz.underlying4 zBool) w b (l.map fun x => (x, true))
theorem lookM_setD (l : List Die) (x : Die) : lookM (l.map fun x => (x, true)) x = if x ∈ l then some true else none := by
  induction l with
  | nil => rfl
  | cons a l ih =>
    rw [List.map_cons, lookM, ih]
    by_cases h : a = x
    · simp [h]
    · simp [h, Ne.symm h]
theorem putM_setD {l : List Die} {x : Die} (h : x ∉ l) : putM (l.map fun x => (x, true)) x true = (l ++ [x]).map fun x => (x, true) := by
  induction l with
  | nil => rfl
  | cons a l ih =>
    simp only [List.mem_cons, not_or] at h
    rw [List.map_cons, putM, if_neg (fun e => h.1 e.symm), ih h.2]
    rfl
section
variable {w w' : World} {b : Nat} {l : List Die}
theorem setD_made (w : World) : SetD (w.alloc (.map #[] 0)) w.heap.size [] := ⟨List.nodup_nil, mapAt_made w⟩
theorem SetD.lt (h : SetD w b l) : b < w.heap.size := MapAt.lt h.2
theorem SetD.below (h : SetD w b l) (hb : Below w.heap.size w w') : SetD w' b l := ⟨h.1, MapAt.below h.2 hb⟩
theorem SetD.touch {S : List Nat} (h : SetD w b l) (ht : Touch w w' S) (hb : b ∉ S) : SetD w' b l := ⟨h.1, MapAt.same h.2 (ht.block b h.lt hb)⟩
theorem SetD.look (h : SetD w b l) {x : Die} (hx : wfD x) : (Instr.lookup 117 (.map (some b)) (.agg #[.int .i64 x.side, .int .i64 x.num]) false).run Tryz.prog w = .ok (.bool (decide (x ∈ l))) w := by
  have := MapAt.look h.2 Tryz.underlying117 hx
  rw [lookM_setD] at this
  refine this.trans ?_
  by_cases hm : x ∈ l
  · rw [if_pos hm, decide_eq_true hm]; rfl
  · rw [if_neg hm, decide_eq_false hm]; rfl
theorem SetD.put (h : SetD w b l) {x : Die} (hx : wfD x) (hl : x ∉ l) (hn : l.length < maxLen) :
    ∃ w', (Instr.mapUpdate 117 (.map (some b)) (.agg #[.int .i64 x.side, .int .i64 x.num]) (.bool true)).run Tryz.prog w = .ok () w' ∧ SetD w' b (l ++ [x]) ∧ w.grownBy w' (some b) := by
  obtain ⟨w', h1, h2, h3⟩ := MapAt.put h.2 Tryz.underlying117 (x := x) (y := true) hx trivial (by simpa using hn)
  rw [putM_setD hl] at h2
  refine ⟨w', h1, ⟨?_, h2⟩, h3⟩
  rw [List.nodup_append]
  exact ⟨h.1, by simp, fun a ha c hc e => by simp at hc; subst hc; subst e; exact hl ha⟩
end
/-- The best list so far. -/
def BestAt (B : Nat) (w : World) (v : Value) : Option (List Int) → Prop
  | none => v = .slice none 0 0
  | some M => M ≠ [] ∧ OwnI B w v M
structure SW (g : Graph) (A : Option Addr) (c mb q B : Nat) (m : List (Die × Int)) (P : List Int) (b : Option (List Int)) (w : World) (v2 v3 : Value) : Prop where
  sea : SeaAt w q (.slice A g.links.length c) (.map (some mb)) v2 v3
  map : MapD w mb m
  lnk : Links w (.slice A g.links.length c) g.links
  path : OwnI B w v2 P
  best : BestAt B w v3 b
  ne : v3.ownBlock = none ∨ v3.ownBlock ≠ v2.ownBlock
  qm : q ≠ mb
  qB : q < B
  mB : mb < B
  Bw : B ≤ w.heap.size
  qA : ∀ j, (Value.slice A g.links.length c).ownBlock = some j → j < B ∧ j ≠ q
section
variable {g : Graph} {A : Option Addr} {c mb q B : Nat} {m : List (Die × Int)} {P : List Int} {b : Option (List Int)} {w w' : World} {v2 v3 : Value}
theorem BestAt.off {S : List Nat} (h : BestAt B w v3 b) (ht : Touch w w' S) (hS : ∀ j, v3.ownBlock = some j → j ∉ S) : BestAt B w' v3 b := by
  cases b with
  | none => exact h
  | some M => exact ⟨h.1, ⟨h.2.1, h.2.2.imp id fun ⟨g, cap, cur, hv, hb, hg, r⟩ => ⟨g, cap, cur, hv, hb, (ht.block g (heap_lt hg) (hS g (by rw [hv]; rfl))).trans hg, r⟩⟩⟩
theorem own_off {S : List Nat} {xs : List Int} (h : OwnI B w v2 xs) (ht : Touch w w' S) (hS : ∀ j, v2.ownBlock = some j → j ∉ S) : OwnI B w' v2 xs :=
  ⟨h.1, h.2.imp id fun ⟨g, cap, cur, hv, hb, hg, r⟩ => ⟨g, cap, cur, hv, hb, (ht.block g (heap_lt hg) (hS g (by rw [hv]; rfl))).trans hg, r⟩⟩
/-- The search is as it was where other blocks change. -/
theorem SW.off {S : List Nat} (h : SW g A c mb q B m P b w v2 v3) (ht : Touch w w' S) (h1 : ∀ j ∈ S, B ≤ j) (h2 : ∀ j, v2.ownBlock = some j → j ∉ S) (h3 : ∀ j, v3.ownBlock = some j → j ∉ S) : SW g A c mb q B m P b w' v2 v3 where
  sea := h.sea.off ht fun hm => by have := h1 q hm; have := h.qB; omega
  map := MapAt.same h.map (ht.block mb h.map.lt fun hm => by have := h1 mb hm; have := h.mB; omega)
  lnk := slOf_off h.lnk ht fun j e hm => by have := h1 j hm; have := (h.qA j e).1; omega
  path := own_off h.path ht h2
  best := h.best.off ht h3
  ne := h.ne
  qm := h.qm
  qB := h.qB
  mB := h.mB
  Bw := Nat.le_trans h.Bw ht.size
  qA := h.qA
theorem SW.below (h : SW g A c mb q B m P b w v2 v3) (hb : Below w.heap.size w w') : SW g A c mb q B m P b w' v2 v3 := h.off (touch_below hb []) (by simp) (by simp) (by simp)
/-- A new best list. -/
theorem SW.setBest {M : List Int} {v : Value} (h : SW g A c mb q B m P b w v2 v3) (hM : M ≠ []) (hv : OwnI B w v M) (hne : v.ownBlock ≠ v2.ownBlock) : SW g A c mb q B m P (some M) (w.setCell ⟨q, 3, none⟩ v) v2 v ∧ Touch w (w.setCell ⟨q, 3, none⟩ v) [q] := by
  have ht : Touch w (w.setCell ⟨q, 3, none⟩ v) [q] := touch_set (a := ⟨q, 3, none⟩) rfl (by simp)
  have hj : ∀ {u : Value} {xs : List Int}, OwnI B w u xs → ∀ j, u.ownBlock = some j → j ∉ [q] := fun hu j e hm => by
    have := (hu.lt j e).1; have := h.qB; simp at hm; omega
  exact ⟨⟨(heap_set4 h.sea).2.2, MapAt.same h.map (ht.block mb h.map.lt (by simpa using fun e => h.qm e.symm)), slOf_off h.lnk ht fun j e hm => by have := (h.qA j e).2; simp at hm; omega, own_off h.path ht (hj h.path), ⟨hM, own_off hv ht (hj hv)⟩, .inr hne, h.qm, h.qB, h.mB, Nat.le_trans h.Bw ht.size, h.qA⟩, ht⟩
/-- A new path. -/
theorem SW.setPath {P' : List Int} {v : Value} (h : SW g A c mb q B m P b w v2 v3) (hv : OwnI B w v P') (hne : v3.ownBlock = none ∨ v3.ownBlock ≠ v.ownBlock) : SW g A c mb q B m P' b (w.setCell ⟨q, 2, none⟩ v) v v3 ∧ Touch w (w.setCell ⟨q, 2, none⟩ v) [q] := by
  have ht : Touch w (w.setCell ⟨q, 2, none⟩ v) [q] := touch_set (a := ⟨q, 2, none⟩) rfl (by simp)
  have hj : ∀ {u : Value} {xs : List Int}, OwnI B w u xs → ∀ j, u.ownBlock = some j → j ∉ [q] := fun hu j e hm => by
    have := (hu.lt j e).1; have := h.qB; simp at hm; omega
  refine ⟨⟨(heap_set4 h.sea).2.1, MapAt.same h.map (ht.block mb h.map.lt (by simpa using fun e => h.qm e.symm)), slOf_off h.lnk ht fun j e hm => by have := (h.qA j e).2; simp at hm; omega, own_off hv ht (hj hv), h.best.off ht ?_, hne, h.qm, h.qB, h.mB, Nat.le_trans h.Bw ht.size, h.qA⟩, ht⟩
  have hb := h.best
  cases b with
  | none => rw [show v3 = .slice none 0 0 from hb]; intro j e; cases e
  | some M => exact hj hb.2
end
end Go.Proofs.YtikfffojeakjoaaGreatDoor
/- Package explanation: (*search).walk at its goal. Condition: the search in its memory. -/
namespace Go.Proofs.YtikfffojeakjoaaGreatDoor
open Go.RowKit Go.Maps Go.Shelf

/-- What walk leaves. -/
def WkPost (g : Graph) (A : Option Addr) (c mb q B : Nat) (m : List (Die × Int)) (P : List Int) (r : Option (List Int)) (w w' : World) (v2 v3 : Value) : Prop :=
  ∃ v2' v3', SW g A c mb q B m P r w' v2' v3' ∧ Touch w w' (q :: v2.ownBlock.toList) ∧ (v2'.ownBlock = v2.ownBlock ∨ ∀ j, v2'.ownBlock = some j → w.heap.size ≤ j) ∧ (v3'.ownBlock = v3.ownBlock ∨ ∀ j, v3'.ownBlock = some j → w.heap.size ≤ j)
theorem sortI_ne {P : List Int} (h : P ≠ []) : sortI P ≠ [] := fun e => h (List.eq_nil_of_length_eq_zero (by rw [← sortI_len, e]; rfl))
set_option maxHeartbeats 8000000 in
set_option maxRecDepth 100000 in
theorem walk0_ok (g : Graph) (A : Option Addr) (c mb q B : Nat) (m : List (Die × Int)) (P : List Int) (b : Option (List Int)) (d : Die) (v2 v3 : Value) (w : World) (hwd : wfD d) (hd : lookM m d = some 0) (hP : P ≠ []) (hPl : P.length ≤ 1000) (h : SW g A c mb q B m P b w v2 v3) :
    Calls Tryz.prog 25 #[.pointer (some ⟨q, 0, none⟩), vlD d] w fun e w' => (∃ u, e = .returned u) ∧ WkPost g A c mb q B m P (updB P b) w w' v2 v3 := by
  obtain ⟨W0, hW0, Hz0, hb0, hlt0, hc0⟩ := boxed w #[.int .i64 d.side, .int .i64 d.num] 43
  have a0 := hc0 0 _ rfl; have a1 := hc0 1 _ rfl
  have hba : Below W0.heap.size W0 W0.drew := (Below.refl _ _).drew
  obtain ⟨wa, hwa⟩ : ∃ W, W0.drew = W := ⟨_, rfl⟩
  rw [hwa] at hba
  have hwA := below_trans hb0 hba
  have hSa := h.below hwA
  have q1 := hSa.sea.cells.1.2.1
  have a0 := cell_later hba a0; have a1 := cell_later hba a1
  have kk := hSa.map.look hwd
  rw [hd] at kk
  dsimp only [Option.getD] at kk
  have q2 := hSa.sea.cells.1.2.2.1; have q3 := hSa.sea.cells.1.2.2.2
  have Hsa := Lib.hid hSa
  have hpa : Ints wa v2 P := hSa.path.slOf
  obtain ⟨A2, c2, rfl, _⟩ := id hpa
  have hqB := h.qB; have hBw := h.Bw
  have hT0 : Touch w wa (q :: (Value.slice A2 P.length c2).ownBlock.toList) := touch_below hwA _
  have en1 := fun (w : World) => Lib.run_eql_slice_nil (P := Tryz.prog) w 28 3 none 0 0 0 0 Tryz.underlying28
  have en2 := fun (w : World) (a : Addr) (n c : Nat) => Lib.run_eql_slice_nil (P := Tryz.prog) w 28 3 (some a) n c 0 0 Tryz.underlying28
  have Hp := Lib.hid hpa
  obtain ⟨r, hr⟩ : ∃ r, updB P b = r := ⟨_, rfl⟩
  rw [hr]
  have HR := Lib.hid hr
  clear hc0 hSa hpa h hr
  go_enter Tryz.func25, Tryz.ntmps25
  go_wp2_with fail
  have hHeld : wa = wa := rfl
  refine wp_region_S 6 (fun w' => w' = wa) (by kernel_rfl) (by decide) ?_
  rw [hwa]
  clear hwa
  refine wpAnyS_takeD 0 (some 10) (.pointer (some ⟨q, 0, none⟩)) (by rfl) (by rfl) (by kernel_rfl) (by exact fun _ _ _ h => h) (by rfl) (fun w' hS => by (subst hS; go_simp)) hHeld ?_
  simp only [Act.put, List.setIfInBounds_toArray, List.set_cons_succ, List.set_cons_zero]
  refine wpAnyS_takeD 1 (some 11) (.pointer (some ⟨q, 0, none⟩)) (by rfl) (by rfl) (by kernel_rfl) (by exact fun _ _ _ h => h) (by rfl) (fun w' hS => by (subst hS; go_simp)) hHeld ?_
  simp only [Act.put, List.setIfInBounds_toArray, List.set_cons_succ, List.set_cons_zero]
  refine wpAnyS_takeD 2 (some 12) (.pointer (some ⟨q, 1, none⟩)) (by rfl) (by rfl) (by kernel_rfl) (by exact fun _ _ _ h => h) (by rfl) (fun w' hS => by (subst hS; go_simp)) hHeld ?_
  simp only [Act.put, List.setIfInBounds_toArray, List.set_cons_succ, List.set_cons_zero]
  refine wpAnyS_takeD 3 (some 13) (.map (some mb)) (by rfl) (by rfl) (by kernel_rfl) (by exact fun _ _ _ h => h) (by rfl) (fun w' hS => by (subst hS; go_simp)) hHeld ?_
  simp only [Act.put, List.setIfInBounds_toArray, List.set_cons_succ, List.set_cons_zero]
  refine wpAnyS_takeD 4 (some 14) (vlD d) (by rfl) (by rfl) (by kernel_rfl) (by exact fun _ _ _ h => h) (by rfl) (fun w' hS => by (subst hS; go_simp)) hHeld ?_
  simp only [Act.put, List.setIfInBounds_toArray, List.set_cons_succ, List.set_cons_zero]
  refine wpAnyS_takeD 5 (some 15) (.int .i64 0) (by rfl) (by rfl) (by kernel_rfl) (by exact fun _ _ _ h => h) (by rfl) (fun w' hS => by (subst hS; go_simp)) hHeld ?_
  simp only [Act.put, List.setIfInBounds_toArray, List.set_cons_succ, List.set_cons_zero]
  clear hHeld kk q1
  refine (show tailOf _ _ _ _ _ _ _ _ from ⟨by kernel_rfl, ?_⟩)
  simp only [List.drop_succ_cons, List.drop_zero]
  go_wp2_with fail
  refine (valuesI_ok _ _ _ _).mono ?_
  rintro e w1 ⟨rfl, hw1⟩
  have hb1 : Below wa.heap.size wa w1 := by rw [hw1]; exact (Below.refl _ _).alloc (Nat.le_refl _) _
  have Hw1 := Lib.hid hw1.symm; clear hw1
  go_wp2_with fail
  refine (sortedI_ok A2 c2 P (by omega) wa w1 Hw1.out Hp.out).mono ?_
  rintro e w2 ⟨s, rfl, hs, hb2⟩
  have hb12 := below_trans hb1 hb2
  have hw2 := below_trans hwA hb12
  have hS2 := Hsa.out.below hb12
  have q3 := hS2.sea.cells.1.2.2.2
  have f3 := hS2.sea.cells.2.2.2
  have hwaz := hwA.size; have hb1z := hb1.size
  have hsl : ∀ j, s.ownBlock = some j → w.heap.size ≤ j := fun j e => by have := (hs.lt j e).1; omega
  have hne : s.ownBlock ≠ (Value.slice A2 P.length c2).ownBlock := fun e => by
    rcases hs.cases with ⟨rfl, e0⟩ | ⟨gs, cs, rfl, hg1, hg2, _⟩
    · exact sortI_ne hP e0
    · have := (Hsa.out.path.lt gs e.symm).2; omega
  have hsB : OwnI B w2 s (sortI P) := hs.base (by omega)
  have hset := Lib.hid (hS2.setBest (sortI_ne hP) hsB hne)
  have hT2 : Touch w w2 (q :: (Value.slice A2 P.length c2).ownBlock.toList) := touch_below hw2 _
  have HT2 := Lib.hid hT2
  have hfin : Hid (WkPost g A c mb q B m P (some (isL P)) w (w2.setCell ⟨q, 3, none⟩ s) (.slice A2 P.length c2) v3) := Lib.hid (by
    have h1 := hset.out.1
    rw [sortI_isL] at h1
    exact ⟨_, _, h1, hT2.trans ⟨hset.out.2.os, hset.out.2.tape, hset.out.2.output, hset.out.2.size, fun i hi hn => hset.out.2.block i hi (fun hm => hn (by simp at hm; simp [hm]))⟩, .inl rfl, .inr hsl⟩)
  have HS2 := Lib.hid hS2
  have hsi : Ints w2 s (sortI P) := hs.slOf
  have Hsi := Lib.hid hsi
  clear hS2 hsB hne hsl hT2 hT0 hs hset
  cases b with
  | none =>
    have hb := HS2.out.best
    obtain rfl : v3 = .slice none 0 0 := hb
    obtain ⟨As, cs, rfl, _⟩ := id hsi
    have HF : Hid (WkPost g A c mb q B m P r w (w2.setCell ⟨q, 3, none⟩ (.slice As (sortI P).length cs)) (.slice A2 P.length c2) (.slice none 0 0)) := Lib.hid (by rw [← HR.out]; exact hfin.out)
    clear hsi hfin
    obtain ⟨W9, hW9⟩ : ∃ W, w2.setCell ⟨q, 3, none⟩ (.slice As (sortI P).length cs) = W := ⟨_, rfl⟩
    rw [hW9] at HF
    go_wp2_with fail
    refine bodyPost_ret (results_none rfl _ _ _) rfl ?_
    exact ⟨⟨_, rfl⟩, HF.out⟩
  | some M =>
    obtain ⟨hM, hMo⟩ := HS2.out.best
    have hMi : Ints w2 v3 M := hMo.slOf
    have HM := Lib.hid hMi
    rcases hMo.cases with ⟨_, e0⟩ | ⟨gm, cm, rfl, _, _, _, _⟩
    · exact absurd e0 hM
    have HC := Lib.hid (Compare_ok _ _ _ _ w2 hsi hMi)
    obtain ⟨As, cs, rfl, _⟩ := id hsi
    have hup : (if cmpL (sortI P) M < 0 then some (isL P) else some M) = r := by rw [sortI_isL]; exact HR.out
    obtain ⟨K, hK⟩ : ∃ K, cmpL (sortI P) M = K := ⟨_, rfl⟩
    rw [hK] at HC hup
    clear hK
    by_cases hlt : K < 0
    · rw [if_pos hlt] at hup
      have hd1 : decide (K < 0) = true := by simpa using hlt
      obtain ⟨W9, hW9⟩ : ∃ W, w2.setCell ⟨q, 3, none⟩ (.slice As (sortI P).length cs) = W := ⟨_, rfl⟩
      rw [hW9] at hfin
      have HF : Hid (WkPost g A c mb q B m P r w W9 (.slice A2 P.length c2) (.slice (some ⟨gm, 0, none⟩) M.length cm)) := Lib.hid (by rw [← hup]; exact hfin.out)
      clear hsi hfin hlt hup hMo hMi hM
      go_wp2_with fail
      refine HC.out.mono ?_
      rintro e w5 ⟨rfl, rfl⟩
      go_wp2_with fail
      refine bodyPost_ret (results_none rfl _ _ _) rfl ?_
      exact ⟨⟨_, rfl⟩, HF.out⟩
    · rw [if_neg hlt] at hup
      have hd1 : decide (K < 0) = false := by simpa using hlt
      have HU := Lib.hid hup
      clear hsi hfin hlt hup hMo hMi hM
      go_wp2_with fail
      refine HC.out.mono ?_
      rintro e w5 ⟨rfl, rfl⟩
      go_wp2_with fail
      refine bodyPost_ret (results_none rfl _ _ _) rfl ?_
      exact ⟨⟨_, rfl⟩, _, _, by rw [← HU.out]; exact HS2.out, HT2.out, .inl rfl, .inl rfl⟩
end Go.Proofs.YtikfffojeakjoaaGreatDoor
/- Package explanation: (*search).walk. Condition: the search in its memory. -/
namespace Go.Proofs.YtikfffojeakjoaaGreatDoor
open Go.RowKit Go.Maps Go.Shelf

section
variable {g : Graph} {A : Option Addr} {c mb q B : Nat} {m : List (Die × Int)} {P P' : List Int} {b : Option (List Int)} {w w' w7 : World} {v v2 v3 : Value}
theorem best_lt (h : BestAt B w v3 b) : ∀ j, v3.ownBlock = some j → B ≤ j ∧ j < w.heap.size := by
  cases b with
  | none => rw [show v3 = .slice none 0 0 from h]; intro j e; cases e
  | some M => exact h.2.lt
/-- The path grows. -/
theorem SW.push (h : SW g A c mb q B m P b w v2 v3) (hg : w.grownBy w7 v2.ownBlock) (hv : OwnI B w7 v P') (hat : v.ownBlock = v2.ownBlock ∨ v.ownBlock = some w.heap.size) :
    SW g A c mb q B m P' b (w7.setCell ⟨q, 2, none⟩ v) v v3 ∧ Touch w (w7.setCell ⟨q, 2, none⟩ v) (q :: v2.ownBlock.toList) ∧ SeaAt w7 q (.slice A g.links.length c) (.map (some mb)) v2 v3 := by
  have hqB := h.qB; have hmB := h.mB
  have ht7 : Touch w w7 v2.ownBlock.toList := ⟨hg.os, hg.tape, hg.output, hg.size, fun i hi hn => hg.block i hi fun e => hn (by rw [← e]; simp)⟩
  have hin : ∀ j ∈ v2.ownBlock.toList, B ≤ j := fun j hj => (h.path.lt j (by simpa using hj)).1
  have hs7 : SeaAt w7 q (.slice A g.links.length c) (.map (some mb)) v2 v3 := h.sea.off ht7 fun hm => by have := hin q hm; omega
  have hmq : mb ≠ q := fun e => h.qm e.symm
  have hm7 : MapD w7 mb m := MapAt.same h.map (ht7.block mb h.map.lt fun hm => by have := hin mb hm; omega)
  have hl7 : Links w7 (.slice A g.links.length c) g.links := slOf_off h.lnk ht7 fun j e hm => by have := hin j hm; have := (h.qA j e).1; omega
  have h3 : ∀ j, v3.ownBlock = some j → j ∉ v2.ownBlock.toList := fun j e hm => by
    rcases h.ne with e0 | e0
    · rw [e0] at e; cases e
    · exact e0 (by rw [e]; symm; simpa using hm)
  have hb7 := h.best.off ht7 h3
  have ht : Touch w7 (w7.setCell ⟨q, 2, none⟩ v) [q] := touch_set (a := ⟨q, 2, none⟩) rfl (by simp)
  have hj : ∀ {u : Value} {xs : List Int}, OwnI B w7 u xs → ∀ j, u.ownBlock = some j → j ∉ [q] := fun hu j e hm => by
    have := (hu.lt j e).1; simp at hm; omega
  refine ⟨⟨(heap_set4 hs7).2.1, MapAt.same hm7 (ht.block mb hm7.lt (by simpa using hmq)), slOf_off hl7 ht fun j e hm => by have := (h.qA j e).2; simp at hm; omega, own_off hv ht (hj hv), hb7.off ht fun j e hm => by have := (best_lt hb7 j e).1; simp at hm; omega, ?_, h.qm, h.qB, h.mB, Nat.le_trans h.Bw (Nat.le_trans hg.size ht.size), h.qA⟩, ?_, hs7⟩
  · rcases hat with e | e
    · rw [e]; exact h.ne
    · cases hv3 : v3.ownBlock with
      | none => exact .inl rfl
      | some j =>
        refine .inr fun e2 => ?_
        rw [e] at e2
        have := (best_lt h.best j hv3).2
        have := Option.some.inj e2
        omega
  · exact ⟨ht.os.trans ht7.os, ht.tape.trans ht7.tape, ht.output.trans ht7.output, Nat.le_trans ht7.size ht.size, fun i hi hn => by
      simp only [List.mem_cons, not_or] at hn
      rw [ht.block i (Nat.lt_of_lt_of_le hi ht7.size) (by simpa using hn.1), ht7.block i hi hn.2]⟩
end
theorem foldl_snoc {α β : Type} (f : β → α → β) (b : β) {xs : List α} {k : Nat} {x : α} (h : xs[k]? = some x) : (xs.take (k + 1)).foldl f b = f ((xs.take k).foldl f b) x := by
  rw [take_snoc' h, List.foldl_append]; rfl
set_option maxHeartbeats 16000000 in
set_option maxRecDepth 100000 in
theorem walkX_ok (g : Graph) (hgl : LinkWf g) (_hlen : g.links.length ≤ 64) (A : Option Addr) (c mb q B : Nat) (m : List (Die × Int)) (hcl : ∀ d ∈ m.map Prod.fst, ∀ x ∈ g.links, ∀ y, acrO x d = some y → y ∈ m.map Prod.fst) : ∀ (k : Nat) (P : List Int) (b : Option (List Int)) (d : Die) (v2 v3 : Value) (w : World), wfD d → lookM m d = some (k : Int) → (P ≠ [] ∨ 0 < k) → P.length + k ≤ 1000 → SW g A c mb q B m P b w v2 v3 →
    Calls Tryz.prog 25 #[.pointer (some ⟨q, 0, none⟩), vlD d] w fun e w' => (∃ u, e = .returned u) ∧ WkPost g A c mb q B m P (dfsF g (farM m) k d P b) w w' v2 v3 := by
  intro k
  induction k with
  | zero => exact fun P b d v2 v3 w hwd hd hP hl h => walk0_ok g A c mb q B m P b d v2 v3 w hwd hd (hP.resolve_right (by omega)) (by omega) h
  | succ k ih =>
    intro P b d v2 v3 w hwd hd0 _ hPl h
    have IH := Lib.hid ih
    clear ih
    obtain ⟨n, hn⟩ : ∃ n, ((k + 1 : Nat) : Int) = n := ⟨_, rfl⟩
    have hd := hd0
    rw [hn] at hd
    have d1 : (n == 0) = false := by rw [← hn]; simp; omega
    have hmm := @run_makeMap Tryz.prog
    obtain ⟨W0, hW0, Hz0, hb0, hlt0, hc0⟩ := boxed w #[.int .i64 d.side, .int .i64 d.num] 43
    have a0 := hc0 0 _ rfl; have a1 := hc0 1 _ rfl
    have hba : Below W0.heap.size W0 W0.drew := (Below.refl _ _).drew
    obtain ⟨wa, hwa⟩ : ∃ W, W0.drew = W := ⟨_, rfl⟩
    rw [hwa] at hba
    have hwA := below_trans hb0 hba
    have hSa := h.below hwA
    have q1 := hSa.sea.cells.1.2.1
    have a0 := cell_later hba a0; have a1 := cell_later hba a1
    have kk := hSa.map.look hwd
    rw [hd] at kk
    dsimp only [Option.getD] at kk
    obtain ⟨w1, hw1⟩ : ∃ W, wa.alloc (.map #[] 0) = W := ⟨_, rfl⟩
    have hb1 : Below wa.heap.size wa w1 := by rw [← hw1]; exact (Below.refl _ _).alloc (Nat.le_refl _) _
    have h1z : w1.heap.size = wa.heap.size + 1 := by rw [← hw1]; simp
    have htr : SetD w1 wa.heap.size [] := by rw [← hw1]; exact setD_made wa
    have hS1 := hSa.below hb1
    have q0 := hS1.sea.cells.1.1
    have hwz := hwA.size
    have hwaz : w.heap.size < wa.heap.size := by have := hba.size; omega
    have hqB := h.qB; have hBw := h.Bw
    have hp2 : ∀ j, v2.ownBlock = some j → B ≤ j ∧ j < w.heap.size := h.path.lt
    have hp3 := best_lt h.best
    have hAt := Lib.hid (fun (wr : World) (hT : Touch w1 wr (q :: wa.heap.size :: v2.ownBlock.toList)) => (show wr.cell? ⟨w.heap.size, 0, none⟩ = some (.int .i64 d.side) ∧ wr.cell? ⟨w.heap.size, 1, none⟩ = some (.int .i64 d.num) from by
      have hnm : w.heap.size ∉ q :: wa.heap.size :: v2.ownBlock.toList := fun hm => by
        simp only [List.mem_cons] at hm
        rcases hm with e | e | e
        · omega
        · omega
        · have := (hp2 w.heap.size (by simpa using e)).2; omega
      exact ⟨cell_off hT hnm (cell_later hb1 a0), cell_off hT hnm (cell_later hb1 a1)⟩))
    have H1z := Lib.hid h1z
    have Hdm : Hid (d ∈ m.map Prod.fst) := Lib.hid (List.mem_map.2 ⟨_, lookM_some hd, rfl⟩)
    have Hd := Lib.hid hd; have Hn := Lib.hid hn
    have hwA1 := below_trans hwA hb1
    clear hc0 hSa h hd hn hd0
    go_enter Tryz.func25, Tryz.ntmps25
    go_wp2_with fail
    have hHeld : wa = wa := rfl
    refine wp_region_S 6 (fun w' => w' = wa) (by kernel_rfl) (by decide) ?_
    rw [hwa]
    clear hwa
    refine wpAnyS_takeD 0 (some 10) (.pointer (some ⟨q, 0, none⟩)) (by rfl) (by rfl) (by kernel_rfl) (by exact fun _ _ _ h => h) (by rfl) (fun w' hS => by (subst hS; go_simp)) hHeld ?_
    simp only [Act.put, List.setIfInBounds_toArray, List.set_cons_succ, List.set_cons_zero]
    refine wpAnyS_takeD 1 (some 11) (.pointer (some ⟨q, 0, none⟩)) (by rfl) (by rfl) (by kernel_rfl) (by exact fun _ _ _ h => h) (by rfl) (fun w' hS => by (subst hS; go_simp)) hHeld ?_
    simp only [Act.put, List.setIfInBounds_toArray, List.set_cons_succ, List.set_cons_zero]
    refine wpAnyS_takeD 2 (some 12) (.pointer (some ⟨q, 1, none⟩)) (by rfl) (by rfl) (by kernel_rfl) (by exact fun _ _ _ h => h) (by rfl) (fun w' hS => by (subst hS; go_simp)) hHeld ?_
    simp only [Act.put, List.setIfInBounds_toArray, List.set_cons_succ, List.set_cons_zero]
    refine wpAnyS_takeD 3 (some 13) (.map (some mb)) (by rfl) (by rfl) (by kernel_rfl) (by exact fun _ _ _ h => h) (by rfl) (fun w' hS => by (subst hS; go_simp)) hHeld ?_
    simp only [Act.put, List.setIfInBounds_toArray, List.set_cons_succ, List.set_cons_zero]
    refine wpAnyS_takeD 4 (some 14) (vlD d) (by rfl) (by rfl) (by kernel_rfl) (by exact fun _ _ _ h => h) (by rfl) (fun w' hS => by (subst hS; go_simp)) hHeld ?_
    simp only [Act.put, List.setIfInBounds_toArray, List.set_cons_succ, List.set_cons_zero]
    refine wpAnyS_takeD 5 (some 15) (.int .i64 n) (by rfl) (by rfl) (by kernel_rfl) (by exact fun _ _ _ h => h) (by rfl) (fun w' hS => by (subst hS; go_simp)) hHeld ?_
    simp only [Act.put, List.setIfInBounds_toArray, List.set_cons_succ, List.set_cons_zero]
    clear hHeld kk q1
    refine (show tailOf _ _ _ _ _ _ _ _ from ⟨by kernel_rfl, ?_⟩)
    simp only [List.drop_succ_cons, List.drop_zero]
    go_wp2_with fail
    clear a0 a1 q0 hmm
    go_loopw [47] (fun i wr => ∃ (j : Nat) (tr : List Die) (r : Option (List Int)) (u2 u3 : Value), j ≤ g.links.length ∧ i = .int .i64 j ∧ Hid ((g.links.take j).foldl (dfsS (dfsF g (farM m) k) (farM m) k d P) ([], b) = (tr, r)) ∧ SW g A c mb q B m P r wr u2 u3 ∧ SetD wr wa.heap.size tr ∧ Touch w1 wr (q :: wa.heap.size :: v2.ownBlock.toList) ∧ Hid (u2.ownBlock = v2.ownBlock ∨ ∀ j, u2.ownBlock = some j → w1.heap.size ≤ j) ∧ Hid (u3.ownBlock = v3.ownBlock ∨ ∀ j, u3.ownBlock = some j → w1.heap.size ≤ j) ∧ Hid (tr.length ≤ j)) (fun i _ => g.links.length - (intOf i).toNat)
    case atStart => exact ⟨0, [], b, v2, v3, Nat.zero_le _, rfl, Lib.hid rfl, hS1, htr, Touch.refl _ _, Lib.hid (.inl rfl), Lib.hid (.inl rfl), Lib.hid (Nat.le_refl _)⟩
    case round =>
      obtain ⟨j, tr, r, u2, u3, hj, rfl, HF, hS, htr', hT, Ho2, Ho3, Htl⟩ := hrel
      clear hS1 htr
      have hTz := hT.size
      by_cases hlt : j < g.links.length
      case neg =>
        have hfin : Hid (WkPost g A c mb q B m P (dfsF g (farM m) (k + 1) d P b) w wr v2 v3) := by
          have e1 : g.links.take j = g.links := List.take_of_length_le (by omega)
          have e2 : dfsF g (farM m) (k + 1) d P b = r := by
            show (g.links.foldl (dfsS (dfsF g (farM m) k) (farM m) k d P) ([], b)).2 = r
            have := HF.out
            rw [e1] at this
            rw [this]
          rw [e2]
          have h1z := H1z.out
          have hT0 : Touch w wr (q :: v2.ownBlock.toList) := (touch_below hwA1 _).fresh hT fun b hb => by
            simp only [List.mem_cons] at hb ⊢
            rcases hb with e | e | e
            · exact .inl (.inl e)
            · right; omega
            · exact .inl (.inr e)
          refine ⟨u2, u3, hS, hT0, ?_, ?_⟩
          · rcases Ho2.out with e | e
            · exact .inl e
            · exact .inr fun j hj => by have := e j hj; omega
          · rcases Ho3.out with e | e
            · exact .inl e
            · exact .inr fun j hj => by have := e j hj; omega
        clear hS htr' hT
        go_wp2_with fail
        go_end0
        exact ⟨⟨_, rfl⟩, hfin.out⟩
      case pos =>
        obtain ⟨x, hx⟩ := get_of_lt hlt
        obtain ⟨A1, c1, e1, _, _, hc⟩ := hS.lnk.cells
        cases e1
        obtain ⟨bo, o, rfl, _, hcb⟩ := hc j hlt
        obtain ⟨y0, y1, y2⟩ := hcb wr (Below.refl _ _) j x hx
        have hxm := List.mem_of_getElem? hx
        have Hfold := Lib.hid (foldl_snoc (dfsS (dfsF g (farM m) k) (farM m) k d P) (([] : List Die), b) hx)
        obtain ⟨t0, t1⟩ := hAt.out wr hT
        obtain ⟨L1, L2, hL1, hL2, HzL2, hkL1, hkL2, hbL2, hltL2⟩ := fresh wr [.int .i64 0, .int .i64 0, .int .i64 0] [.int .i64 (x).id, .int .i64 (x).obv, .int .i64 (x).rev] 73 rfl
        have hsL2 : ((L1.setCell ⟨wr.heap.size, 0, none⟩ (.int .i64 (x).id)).setCell ⟨wr.heap.size, 1, none⟩ (.int .i64 (x).obv)).setCell ⟨wr.heap.size, 2, none⟩ (.int .i64 (x).rev) = L2 := hL2
        clear hL2
        obtain ⟨⟨z0a, z1a, z2a⟩, f0a, f1a, f2a⟩ := cells3 hkL1
        obtain ⟨⟨s0a, s1a, s2a⟩, _⟩ := cells3 hkL2
        clear hkL1
        have t0 := cell_later hbL2 t0; have t1 := cell_later hbL2 t1
        have hwy := acrD_wf hgl hxm d
        have HA := Lib.hid (acrossX_ok x d)
        have HS := Lib.hid hS; have Htr := Lib.hid htr'; have HT := Lib.hid hT
        have HwL := Lib.hid hbL2
        have Hhcl := Lib.hid fun hd y hy => hcl d hd x hxm y hy
        clear hc hcb hx hS htr' hT
        go_wp2_with fail
        clear y0 y1 y2
        refine (HA.out _).mono ?_
        rintro e w5 ⟨rfl, hb5⟩
        obtain ⟨y, hy⟩ : ∃ y, acrD x d = y := ⟨_, rfl⟩
        obtain ⟨T0, hT0⟩ : ∃ T, (acrO x d).isSome = T := ⟨_, rfl⟩
        rw [hy] at hwy
        rw [hy, hT0]
        have Hy := Lib.hid hy; have HT0 := Lib.hid hT0
        clear hy hT0
        have t0 := cell_later hb5 t0; have t1 := cell_later hb5 t1
        have s0a := cell_later hb5 s0a
        obtain ⟨N1, N2, hN1, hN2, HzN2, hkN1, hkN2, hbN2, hltN2⟩ := fresh w5 [.int .i64 0, .int .i64 0] [.int .i64 (y).side, .int .i64 (y).num] 43 rfl
        have hsN2 : (N1.setCell ⟨w5.heap.size, 0, none⟩ (.int .i64 (y).side)).setCell ⟨w5.heap.size, 1, none⟩ (.int .i64 (y).num) = N2 := hN2
        clear hN2
        obtain ⟨⟨z0b, z1b⟩, f0b, f1b⟩ := cells2 hkN1
        obtain ⟨⟨s0b, s1b⟩, _⟩ := cells2 hkN2
        clear hkN1
        have t0 := cell_later hbN2 t0; have t1 := cell_later hbN2 t1
        have s0a := cell_later hbN2 s0a
        have hbN := below_trans HwL.out (below_trans hb5 hbN2)
        have HbN := Lib.hid hbN
        have hSN := HS.out.below hbN
        have q1 := hSN.sea.cells.1.2.1
        have HSN := Lib.hid hSN
        have htN := Htr.out.below hbN
        have HtN := Lib.hid htN
        have HTN := Lib.hid (HT.out.trans (touch_below hbN _))
        have Q1 := Later.cell_all q1
        have T0a := Later.cell_all t0; have T1a := Later.cell_all t1
        have Y0a := Later.cell_all s0b; have Y1a := Later.cell_all s1b
        have hbNz := hbN.size
        have h5z := hb5.size
        have hwrN : wr.heap.size < N2.heap.size := by have := HwL.out.size; omega
        clear hbN hSN htN
        cases T0
        case false =>
          have ha : acrO x d = none := by simpa using HT0.out
          have HF' : Hid ((g.links.take (j + 1)).foldl (dfsS (dfsF g (farM m) k) (farM m) k d P) ([], b) = (tr, r)) := Lib.hid (by rw [Hfold.out, HF.out, dfsS, ha])
          clear ha q1 t0 t1 s0b s1b
          go_wp2_with fail
          refine wp_region_later (by kernel_rfl) (by kernel_rfl) ?_
          repeat (go_big_quiet_step (first | fail))
          refine wpQuiet_nil ?_
          intro _ hw'
          obtain ⟨xq, hw''⟩ := hw'
          subst hw''
          have hbz := xq.h
          generalize xq.to = wz at hbz ⊢
          have hSz := HSN.out.below hbz
          have htz := HtN.out.below hbz
          have hTz' := HTN.out.trans (touch_below hbz _)
          go_wp2_with fail
          refine ⟨?rel, ?measure⟩
          case rel => exact ⟨j + 1, tr, r, u2, u3, by omega, by go_num, HF', hSz, htz, hTz', Ho2, Ho3, Lib.hid (by have := Htl.out; omega)⟩
          case measure => first | (simp [intOf]; done) | (simp [intOf]; omega)
        case true =>
          have ha : acrO x d = some y := by
            obtain ⟨y', hy'⟩ := Option.isSome_iff_exists.1 HT0.out
            have := Hy.out
            rw [acrD, hy'] at this
            rw [hy']; exact congrArg some this
          have hym := Hhcl.out Hdm.out y ha
          obtain ⟨ny, hny⟩ := Option.isSome_iff_exists.1 (look_mem.2 hym)
          have KT := fun (y9 : Later N2) => (HtN.out.below y9.h).look hwy
          have KY := fun (y9 : Later N2) => (HSN.out.map.below y9.h).look hwy
          have KD := fun (y9 : Later N2) => (HSN.out.map.below y9.h).look hwd
          rw [hny] at KY
          rw [Hd.out] at KD
          dsimp only [Option.getD] at KY KD
          have hfar : farM m y = ny := by rw [farM, hny]; rfl
          have hstep : dfsS (dfsF g (farM m) k) (farM m) k d P (tr, r) x = if y ∈ tr ∨ ny ≠ k then (tr, r) else (tr ++ [y], dfsF g (farM m) k y (P ++ [x.id]) r) := by
            rw [dfsS, ha]; simp only; rw [hfar]
          by_cases hyt : y ∈ tr
          · have hKT : decide (y ∈ tr) = true := by simpa using hyt
            rw [hKT] at KT
            have HF' : Hid ((g.links.take (j + 1)).foldl (dfsS (dfsF g (farM m) k) (farM m) k d P) ([], b) = (tr, r)) := Lib.hid (by rw [Hfold.out, HF.out, hstep, if_pos (.inl hyt)])
            clear ha q1 t0 t1 s0b s1b hstep hfar hyt hKT hym hny
            go_wp2_with fail
            refine wp_region_later (by kernel_rfl) (by kernel_rfl) ?_
            repeat (go_big_quiet_step (first | fail))
            refine wpQuiet_nil ?_
            intro _ hw'
            obtain ⟨xq, hw''⟩ := hw'
            subst hw''
            have hbz := xq.h
            generalize xq.to = wz at hbz ⊢
            have hSz := HSN.out.below hbz
            have htz := HtN.out.below hbz
            have hTz' := HTN.out.trans (touch_below hbz _)
            go_wp2_with fail
            refine ⟨?rel, ?measure⟩
            case rel => exact ⟨j + 1, tr, r, u2, u3, by omega, by go_num, HF', hSz, htz, hTz', Ho2, Ho3, Lib.hid (by have := Htl.out; omega)⟩
            case measure => first | (simp [intOf]; done) | (simp [intOf]; omega)
          · have hKT : decide (y ∈ tr) = false := by simpa using hyt
            rw [hKT] at KT
            have Hnyd := Lib.hid hny
            by_cases hnk : ny = n - 1
            case neg =>
              have hdn : (ny != n - 1) = true := by simpa using hnk
              have hkn : ny ≠ k := fun e => hnk (by rw [← Hn.out, e]; simp)
              have HF' : Hid ((g.links.take (j + 1)).foldl (dfsS (dfsF g (farM m) k) (farM m) k d P) ([], b) = (tr, r)) := Lib.hid (by rw [Hfold.out, HF.out, hstep, if_pos (.inr hkn)])
              have hnb : 0 < n ∧ n ≤ 1001 := by have := Hn.out; omega
              have hwr1 : IntKind.i64.wrap (n - 1) = n - 1 := IntWalk.i64_in _ (by omega)
              clear ha q1 t0 t1 s0b s1b hstep hfar hyt hKT hym hny hnk hkn hnb
              go_wp2_with fail
              refine wp_region_later (by kernel_rfl) (by kernel_rfl) ?_
              repeat (go_big_quiet_step (first | fail))
              refine wpQuiet_nil ?_
              intro _ hw'
              obtain ⟨xq, hw''⟩ := hw'
              subst hw''
              have hbz := xq.h
              generalize xq.to = wz at hbz ⊢
              have hSz := HSN.out.below hbz
              have htz := HtN.out.below hbz
              have hTz' := HTN.out.trans (touch_below hbz _)
              go_wp2_with fail
              refine ⟨?rel, ?measure⟩
              case rel => exact ⟨j + 1, tr, r, u2, u3, by omega, by go_num, HF', hSz, htz, hTz', Ho2, Ho3, Lib.hid (by have := Htl.out; omega)⟩
              case measure => first | (simp [intOf]; done) | (simp [intOf]; omega)
            case pos =>
              have hdn : (ny != n - 1) = false := by simpa using hnk
              have hkn : ny = k := by rw [hnk, ← Hn.out]; simp
              have HF' : Hid ((g.links.take (j + 1)).foldl (dfsS (dfsF g (farM m) k) (farM m) k d P) ([], b) = (tr ++ [y], dfsF g (farM m) k y (P ++ [x.id]) r)) := Lib.hid (by rw [Hfold.out, HF.out, hstep, if_neg (by rw [not_or]; exact ⟨hyt, fun h => h hkn⟩)])
              have hnb : 0 < n ∧ n ≤ 1001 := by have := Hn.out; omega
              have hwr1 : IntKind.i64.wrap (n - 1) = n - 1 := IntWalk.i64_in _ (by omega)
              have Hyt := Lib.hid hyt
              have Hyk : Hid (lookM m y = some (k : Int)) := Lib.hid (by rw [← hkn]; exact Hnyd.out)
              clear ha q1 hstep hfar hyt hKT hym hny hnk hkn hnb
              go_wp2_with fail
              refine wp_region_later (by kernel_rfl) (by kernel_rfl) ?_
              repeat (go_big_quiet_step (first | fail))
              refine wpQuiet_nil ?_
              intro _ hw'
              obtain ⟨xq, hw''⟩ := hw'
              subst hw''
              have hbz := xq.h
              generalize xq.to = wz at hbz ⊢
              clear Q1 T0a T1a Y0a Y1a KT KY KD hwr1 hdn t0 t1
              have htz := HtN.out.below hbz
              have hSz := HSN.out.below hbz
              have h1z := H1z.out
              obtain ⟨w6, hu6, ht6, hg6⟩ := htz.put hwy Hyt.out (by have := Htl.out; simp only [maxLen]; omega)
              have v0 := cell_later hbz s0b; have v1 := cell_later hbz s1b
              have x0 := cell_later hbz s0a
              have hzN := hbz.size
              have hT6 : Touch wz w6 [wa.heap.size] := grown_touch hg6 (by simp)
              have ho2 : ∀ jj, u2.ownBlock = some jj → jj ≠ wa.heap.size := fun jj e => by
                rcases Ho2.out with e2 | e2
                · have := (hp2 jj (by rw [← e2]; exact e)).2; omega
                · have := e2 jj e; omega
              have ho3 : ∀ jj, u3.ownBlock = some jj → jj ≠ wa.heap.size := fun jj e => by
                rcases Ho3.out with e2 | e2
                · have := (hp3 jj (by rw [← e2]; exact e)).2; omega
                · have := e2 jj e; omega
              have hu2r : ∀ jj, u2.ownBlock = some jj → jj < wr.heap.size := fun jj e => (HS.out.path.lt jj e).2
              have hS6 := hSz.off hT6 (by intro jj hjj; simp at hjj; omega) (fun jj e hm => ho2 jj e (by simpa using hm)) (fun jj e hm => ho3 jj e (by simpa using hm))
              have x06 : w6.cell? ⟨wr.heap.size, 0, none⟩ = some (.int .i64 x.id) := cell_off hT6 (show wr.heap.size ∉ [wa.heap.size] by simp; omega) x0
              have y06 : w6.cell? ⟨w5.heap.size, 0, none⟩ = some (.int .i64 y.side) := cell_off hT6 (show w5.heap.size ∉ [wa.heap.size] by simp; omega) v0
              have y16 : w6.cell? ⟨w5.heap.size, 1, none⟩ = some (.int .i64 y.num) := cell_off hT6 (show w5.heap.size ∉ [wa.heap.size] by simp; omega) v1
              have h5N : w5.heap.size < N2.heap.size := hltN2
              have HT1 := Lib.hid ((HTN.out.trans (touch_below hbz _)).trans (⟨hT6.os, hT6.tape, hT6.output, hT6.size, fun i hi hn => hT6.block i hi (fun hm => hn (by simp at hm; simp [hm]))⟩ : Touch wz w6 (q :: wa.heap.size :: v2.ownBlock.toList)))
              obtain ⟨A2, c2, rfl, _⟩ := id (show Ints w6 u2 P from hS6.path.slOf)
              have hbq : Below w6.heap.size w6 w6.drew := (Below.refl _ _).drew
              have hz6 := hT6.size
              go_wp2_with fail
              clear v0 v1 x0 s0a s0b s1b htz hSz
              obtain ⟨wq, hwq⟩ : ∃ W, w6.drew = W := ⟨_, rfl⟩
              rw [hwq] at hbq
              have hSq := hS6.below hbq
              have htq := ht6.below hbq
              have hqz := hbq.size
              have q2 := hSq.sea.cells.1.2.2.1
              obtain ⟨V, hV, HzV, hbV, hltV, _⟩ := boxed wq #[.int .i64 x.id] 3
              have hkV : V.heap[wq.heap.size]? = some (.cells (encI x.id).toArray 3 (0, 0)) := by rw [← hV]; exact heap_alloc_new _ _
              have hSV := hSq.below hbV
              have hVz := hbV.size
              have HSV := Lib.hid hSV
              have hHeld : (fun w' : World => w'.cell? ⟨q, 2, none⟩ = some (.slice A2 P.length c2) ∧ w'.cell? ⟨wr.heap.size, 0, none⟩ = some (.int .i64 x.id)) wq := ⟨q2, cell_later hbq x06⟩
              have HH := Lib.hid hHeld
              obtain ⟨PL, hPL⟩ : ∃ z, P ++ [x.id] = z := ⟨_, rfl⟩
              have HPL := Lib.hid hPL
              obtain ⟨iI, hiI, hzI, hkI, hbI⟩ := info_parts infoI
              have hrow : OwnI B V (.slice A2 P.length c2) P := hSV.path
              refine wp_region_S 11 (fun w' : World => w'.cell? ⟨q, 2, none⟩ = some (.slice A2 P.length c2) ∧ w'.cell? ⟨wr.heap.size, 0, none⟩ = some (.int .i64 x.id)) (by kernel_rfl) (by decide) ?_
              rw [hwq]
              clear hwq q2 x06 hS6 hSq ht6
              refine wpAnyS_takeD 0 (some 82) (.pointer (some ⟨q, 0, none⟩)) (by rfl) (by rfl) (by kernel_rfl) (by exact fun _ _ _ h => h) (by rfl) (fun w' hS => by go_simp) hHeld ?_
              simp only [Act.put, List.setIfInBounds_toArray, List.set_cons_succ, List.set_cons_zero]
              refine wpAnyS_takeD 1 (some 83) (.pointer (some ⟨q, 0, none⟩)) (by rfl) (by rfl) (by kernel_rfl) (by exact fun _ _ _ h => h) (by rfl) (fun w' hS => by go_simp) hHeld ?_
              simp only [Act.put, List.setIfInBounds_toArray, List.set_cons_succ, List.set_cons_zero]
              refine wpAnyS_takeD 2 (some 84) (.pointer (some ⟨q, 0, none⟩)) (by rfl) (by rfl) (by kernel_rfl) (by exact fun _ _ _ h => h) (by rfl) (fun w' hS => by go_simp) hHeld ?_
              simp only [Act.put, List.setIfInBounds_toArray, List.set_cons_succ, List.set_cons_zero]
              refine wpAnyS_takeD 3 (some 85) (.pointer (some ⟨q, 2, none⟩)) (by rfl) (by rfl) (by kernel_rfl) (by exact fun _ _ _ h => h) (by rfl) (fun w' hS => by go_simp) hHeld ?_
              simp only [Act.put, List.setIfInBounds_toArray, List.set_cons_succ, List.set_cons_zero]
              refine wpAnyS_takeD 4 (some 86) (.slice A2 P.length c2) (by rfl) (by rfl) (by kernel_rfl) (by exact fun _ _ _ h => h) (by rfl) (fun w' hS => by (obtain ⟨x0, x1⟩ := hS; go_simp)) hHeld ?_
              simp only [Act.put, List.setIfInBounds_toArray, List.set_cons_succ, List.set_cons_zero]
              refine wpAnyS_takeD 5 (some 87) (.pointer (some ⟨wr.heap.size, 0, none⟩)) (by rfl) (by rfl) (by kernel_rfl) (by exact fun _ _ _ h => h) (by rfl) (fun w' hS => by go_simp) hHeld ?_
              simp only [Act.put, List.setIfInBounds_toArray, List.set_cons_succ, List.set_cons_zero]
              refine wpAnyS_takeD 6 (some 88) (.int .i64 x.id) (by rfl) (by rfl) (by kernel_rfl) (by exact fun _ _ _ h => h) (by rfl) (fun w' hS => by (obtain ⟨x0, x1⟩ := hS; go_simp)) hHeld ?_
              simp only [Act.put, List.setIfInBounds_toArray, List.set_cons_succ, List.set_cons_zero]
              clear hHeld
              refine wpAnyS_one 7 (by kernel_rfl) (by rfl) (by decide) (fun K hK => ?_)
              have HK := Lib.hid hK; clear hK
              rw [if_pos (by rfl)]
              go_simp
              refine HK.out _ _ ⟨cell_later hbV HH.out.1, cell_later hbV HH.out.2⟩ ?_
              clear HK
              refine wpAnyS_one 8 (by kernel_rfl) (by rfl) (by decide) (fun K hK => ?_)
              have HK := Lib.hid hK; clear hK
              refine step_append_sl (by rfl) (.tmp 86) (.tmp 89) _ (by rfl) iI _ 8 Tryz.underlying28 hiI hzI hkI hbI (by rfl) (by decide) oneI (by rfl) hrow _ 1 1 [x.id] (by rfl) (by rfl) (sl_one (by rfl) hkV) (by simp; omega) (by simp; omega) HSV.out.Bw ?_
              intro v7 w7 ho7 hg7 hat7
              rw [hPL] at ho7
              have hp7 := HSV.out.push hg7 ho7 hat7
              have hx7 : w7.cell? ⟨wr.heap.size, 0, none⟩ = some (.int .i64 x.id) := (World.cell?_of_block (a := ⟨wr.heap.size, 0, none⟩) (hg7.block wr.heap.size (by omega) (fun e => by have := hu2r _ e.symm; omega))).trans (cell_later hbV HH.out.2)
              have hHeld : (fun w' : World => w'.cell? ⟨q, 2, none⟩ = some (.slice A2 P.length c2) ∧ w'.cell? ⟨wr.heap.size, 0, none⟩ = some (.int .i64 x.id)) w7 := ⟨hp7.2.2.cells.1.2.2.1, hx7⟩
              refine HK.out _ _ hHeld ?_
              clear HK
              refine wpAnyS_takeD 9 (some 91) (.pointer (some ⟨q, 0, none⟩)) (by rfl) (by rfl) (by kernel_rfl) (by exact fun _ _ _ h => h) (by rfl) (fun w' hS => by go_simp) hHeld ?_
              simp only [Act.put, List.setIfInBounds_toArray]
              refine wpAnyS_takeD 10 (some 92) (.pointer (some ⟨q, 2, none⟩)) (by rfl) (by rfl) (by kernel_rfl) (by exact fun _ _ _ h => h) (by rfl) (fun w' hS => by go_simp) hHeld ?_
              simp only [Act.put]
              clear hHeld hSV
              refine (show tailOf _ _ _ _ _ _ _ _ from ⟨by kernel_rfl, ?_⟩)
              simp only [List.drop_succ_cons, List.drop_zero]
              obtain ⟨A7, c7, rfl, _⟩ := id (show Ints w7 v7 PL from ho7.slOf)
              have qc := hp7.2.2.cells.1.2.2.1
              have qf := hp7.2.2.cells.2.2.1
              obtain ⟨W8, hW8⟩ : ∃ W, w7.setCell ⟨q, 2, none⟩ (.slice A7 PL.length c7) = W := ⟨_, rfl⟩
              rw [hW8] at hp7
              have HS8 := Lib.hid hp7.1; have HT8 := Lib.hid hp7.2.1
              have Hat7 := Lib.hid hat7
              have hn8 : ∀ jj, (Value.slice A2 P.length c2).ownBlock = some jj → jj < wr.heap.size := hu2r
              have hno : ∀ i, wr.heap.size ≤ i → i ∉ q :: (Value.slice A2 P.length c2).ownBlock.toList := fun i hi hm => by
                rcases List.mem_cons.1 hm with e | e
                · omega
                · have := hn8 i (by simpa using e); omega
              have h5r : wr.heap.size ≤ w5.heap.size := by have := HwL.out.size; omega
              have hbqV := below_trans hbq hbV
              have z0 := cell_off HT8.out (hno w5.heap.size h5r) (cell_later hbqV y06)
              have z1 := cell_off HT8.out (hno w5.heap.size h5r) (cell_later hbqV y16)
              have hPLn : PL ≠ [] := by rw [← HPL.out]; simp
              have hPLl : PL.length = P.length + 1 := by rw [← HPL.out]; simp
              have HI := Lib.hid (IH.out PL r y _ u3 W8 hwy Hyk.out (.inl hPLn) (by omega) HS8.out)
              have HPn := Lib.hid hPLn; have HPl := Lib.hid hPLl
              clear hp7 hg7 hat7 hx7 ho7 hrow hkV hV hPL hPLn hPLl y06 y16
              go_wp2_with fail
              refine HI.out.mono ?_
              rintro e w9 ⟨⟨u, rfl⟩, u2', u3', hS9, hT9, ho2', ho3'⟩
              clear qc qf z0 z1 hW8
              have HS9 := Lib.hid hS9; have HT9 := Lib.hid hT9; have Ho2' := Lib.hid ho2'; have Ho3' := Lib.hid ho3'
              clear hT9 ho2' ho3'
              obtain ⟨g2, cap2, rfl, hcp, hcm⟩ : ∃ g2 cap2, u2' = .slice (some ⟨g2, 0, none⟩) PL.length cap2 ∧ PL.length ≤ cap2 ∧ cap2 ≤ maxLen := by
                rcases hS9.path.cases with ⟨_, e0⟩ | ⟨g2, cap2, e, _, _, h1, h2⟩
                · exact absurd e0 HPn.out
                · exact ⟨g2, cap2, e, h1, h2⟩
              obtain ⟨N, hN⟩ : ∃ N, P.length = N := ⟨_, rfl⟩
              have hPN : PL.length = N + 1 := by rw [HPl.out, hN]
              have HN := Lib.hid hN; have HPN := Lib.hid hPN
              have qc : w9.cell? ⟨q, 2, none⟩ = some (.slice (some ⟨g2, 0, none⟩) (N + 1) cap2) := by rw [← hPN]; exact hS9.sea.cells.1.2.2.1
              have Qc := Later.cell_all qc
              have hcn : N + 1 ≤ cap2 := by omega
              have hcm2 : (cap2 : Int) ≤ 9223372036854775807 := by simp only [maxLen] at hcm; omega
              have n1 : ((N : Int) + 1) ≤ 1001 := by omega
              have n0 : (0 : Int) ≤ (N : Int) := by omega
              clear hS9 qc hN hPN hcp hcm
              go_wp2_with fail
              refine wp_region_later_tail 14 (by kernel_rfl) (by kernel_rfl) ?_
              simp only [List.take_succ_cons, List.take_zero, List.drop_succ_cons, List.drop_zero]
              repeat (go_big_quiet_step (first | fail))
              refine wpQuiet_nil ?_
              intro _ hw'
              obtain ⟨xq, hw''⟩ := hw'
              subst hw''
              have hby := xq.h
              generalize xq.to = wy at hby ⊢
              have hSy := HS9.out.below hby
              have qc := hSy.sea.cells.1.2.2.1
              rw [HPN.out] at qc
              have qf := hSy.sea.cells.2.2.1
              have hcut : OwnI B wy (.slice (some ⟨g2, 0, none⟩) N cap2) P := by
                have := Own.cut lenI hSy.path rfl (m := N) (by rw [HPN.out]; omega)
                rw [← HPL.out, List.take_left' HN.out] at this
                exact this
              have hne3 : u3'.ownBlock = none ∨ u3'.ownBlock ≠ (Value.slice (some ⟨g2, 0, none⟩) N cap2).ownBlock := hSy.ne
              have hset := Lib.hid (hSy.setPath hcut hne3)
              obtain ⟨W10, hW10⟩ : ∃ W, wy.setCell ⟨q, 2, none⟩ (.slice (some ⟨g2, 0, none⟩) N cap2) = W := ⟨_, rfl⟩
              rw [hW10] at hset
              clear Qc hSy hcut hne3
              have HF2 : Hid ((g.links.take (j + 1)).foldl (dfsS (dfsF g (farM m) k) (farM m) k d P) ([], b) = (tr ++ [y], dfsF g (farM m) k y PL r)) := Lib.hid (by rw [← HPL.out]; exact HF'.out)
              have hVl : w1.heap.size ≤ V.heap.size := by omega
              have h8z := HT8.out.size
              have h9z := HT9.out.size
              have hyz := hby.size
              have ho7 : ∀ jj, (Value.slice A7 PL.length c7).ownBlock = some jj → (Value.slice A2 P.length c2).ownBlock = some jj ∨ V.heap.size ≤ jj := fun jj e => by
                rcases Hat7.out with e2 | e2
                · exact .inl (by rw [← e2]; exact e)
                · right
                  rw [e2] at e
                  exact Nat.le_of_eq (Option.some.inj e)
              have ho2S : ∀ jj, (Value.slice A2 P.length c2).ownBlock = some jj → jj ∈ q :: wa.heap.size :: v2.ownBlock.toList ∨ w1.heap.size ≤ jj := fun jj e => by
                rcases Ho2.out with e2 | e2
                · left
                  rw [e2] at e
                  simp [e]
                · exact .inr (e2 jj e)
              have ht10 : SetD W10 wa.heap.size (tr ++ [y]) := by
                have h1 := (htq.below hbV).touch HT8.out (fun hm => by
                  rcases List.mem_cons.1 hm with e | e
                  · omega
                  · exact ho2 wa.heap.size (by simpa using e) rfl)
                have h2 := h1.touch HT9.out (fun hm => by
                  rcases List.mem_cons.1 hm with e | e
                  · omega
                  · rcases ho7 wa.heap.size (by simpa using e) with e2 | e2
                    · exact ho2 wa.heap.size e2 rfl
                    · omega)
                exact (h2.below hby).touch hset.out.2 (by simp; omega)
              have hT10 : Touch w1 W10 (q :: wa.heap.size :: v2.ownBlock.toList) := by
                have h1 := HT1.out.trans (touch_below hbqV _)
                have h2 := h1.fresh HT8.out fun i hi => by
                  rcases List.mem_cons.1 hi with e | e
                  · left; rw [e]; simp
                  · exact ho2S i (by simpa using e)
                have h3 := h2.fresh HT9.out fun i hi => by
                  rcases List.mem_cons.1 hi with e | e
                  · left; rw [e]; simp
                  · rcases ho7 i (by simpa using e) with e2 | e2
                    · exact ho2S i e2
                    · right; omega
                exact (h3.trans (touch_below hby _)).fresh hset.out.2 fun i hi => by
                  left; rw [List.mem_singleton] at hi; rw [hi]; simp
              have HO2 : Hid ((Value.slice (some ⟨g2, 0, none⟩) N cap2).ownBlock = v2.ownBlock ∨ ∀ jj, (Value.slice (some ⟨g2, 0, none⟩) N cap2).ownBlock = some jj → w1.heap.size ≤ jj) := Lib.hid (by
                rcases Ho2'.out with e | e
                · rcases Hat7.out with e2 | e2
                  · rcases Ho2.out with e3 | e3
                    · exact .inl (e.trans (e2.trans e3))
                    · exact .inr fun jj hjj => e3 jj ((e.trans e2).symm.trans hjj)
                  · refine .inr fun jj hjj => ?_
                    have := (e.trans e2).symm.trans hjj
                    have := Option.some.inj this
                    omega
                · exact .inr fun jj hjj => by have := e jj hjj; omega)
              have HO3 : Hid (u3'.ownBlock = v3.ownBlock ∨ ∀ jj, u3'.ownBlock = some jj → w1.heap.size ≤ jj) := Lib.hid (by
                rcases Ho3'.out with e | e
                · rcases Ho3.out with e3 | e3
                  · exact .inl (e.trans e3)
                  · exact .inr fun jj hjj => e3 jj (by rw [← e]; exact hjj)
                · exact .inr fun jj hjj => by have := e jj hjj; omega)
              have Ht10 := Lib.hid ht10; have HT10 := Lib.hid hT10
              clear ht10 hT10 ho2S ho7 hno ho2 ho3 htq
              go_wp2_with fail
              refine ⟨?rel, ?measure⟩
              case rel => exact ⟨j + 1, tr ++ [y], _, _, u3', by omega, by go_num, HF2, hset.out.1, Ht10.out, HT10.out, HO2, HO3, Lib.hid (by have := Htl.out; simp only [List.length_append, List.length_singleton]; omega)⟩
              case measure => first | (simp [intOf]; done) | (simp [intOf]; omega)
end Go.Proofs.YtikfffojeakjoaaGreatDoor
/- Package explanation: Least. Condition: the arguments read as such. -/
namespace Go.Proofs.YtikfffojeakjoaaGreatDoor
open Go.RowKit Go.Maps Go.Shelf

section
variable {l : List Spec} {a b : Die} {x : Link} {j : Nat}
theorem leastS_off {L : List Int} (h : leastE l a b ≠ 0) (hL : L = []) : LeastS l a b L := by rw [LeastS, if_neg h]; exact hL
theorem leastE_of (h : ofE l ≠ 0) : leastE l a b = ofE l := by rw [leastE, if_neg h]
theorem leastE_jn (h : ofE l = 0) (hj : jnL l a b = false) : leastE l a b = 7 := by rw [leastE, if_pos h, hj]; rfl
theorem leastE_ok (h : ofE l = 0) (hj : jnL l a b = true) : leastE l a b = 0 := by rw [leastE, if_pos h, if_pos hj]
theorem end_acr (h : ofE l = 0) (hj : jnL l a b = true) : ∃ x ∈ (ofG l).links, (acrO x a).isSome = true := by
  obtain ⟨⟨e, he, hq⟩, _⟩ := (jn_iff h).1 hj
  obtain ⟨s, hs, rfl⟩ := List.mem_map.1 he
  refine ⟨linkOf s, (links_of h).2 ⟨s, hs, rfl⟩, ?_⟩
  unfold acrO
  rcases hq with e | e
  · rw [if_pos (by rw [← e]; rfl)]; rfl
  · split
    · rfl
    · rw [if_pos (by rw [← e]; rfl)]; rfl
theorem findLink_at {p : Link → Bool} : ∀ {ls : List Link} {j : Nat}, (∀ y ∈ ls.take j, p y = false) → ls[j]? = some x → p x = true → ls.find? p = some x
  | [], _, _, h, _ => by simp at h
  | y :: ls, 0, _, h, hp => by simp at h; subst h; rw [List.find?_cons, hp]
  | y :: ls, j + 1, hn, h, hp => by
    have hy := hn y (by simp)
    rw [List.find?_cons, hy]
    exact findLink_at (j := j) (fun z hz => hn z (by rw [List.take_succ_cons]; exact List.mem_cons_of_mem _ hz)) (by simpa using h) hp
end
set_option maxHeartbeats 16000000 in
set_option maxRecDepth 100000 in
theorem LeastX_ok (v : Value) (l : List Spec) (da db : Die) (w : World) (h : Specs w v l) (hda : wfD da) (hdb : wfD db) :
    Calls Tryz.prog 10 #[v, vlD da, vlD db] w fun e w' => ∃ u L, e = .returned (.tuple #[u, .int .i64 (leastE l da db)]) ∧ Ints w' u L ∧ LeastS l da db L ∧ Below w.heap.size w w' := by
  obtain ⟨X0, hX0, HzX0, hbX0, hltX0, hcX0⟩ := boxed w #[.int .i64 da.side, .int .i64 da.num] 43
  obtain ⟨X1, hX1, HzX1, hbX1, hltX1, hcX1⟩ := boxed X0 #[.int .i64 db.side, .int .i64 db.num] 43
  have hX := below_trans hbX0 hbX1
  have h0 := h.below hX
  have a0 := cell_later hbX1 (hcX0 0 _ rfl); have a1 := cell_later hbX1 (hcX0 1 _ rfl)
  have b0 := hcX1 0 _ rfl; have b1 := hcX1 1 _ rfl
  clear hcX0 hcX1
  obtain ⟨A, c, rfl, _⟩ := id h
  obtain ⟨E, hE0⟩ : ∃ E, leastE l da db = E := ⟨_, rfl⟩
  rw [hE0]
  have HE0 := Lib.hid hE0
  have hX1z := hX.size
  clear h hE0
  go_enter Tryz.func10, Tryz.ntmps10
  go_wp2_with fail
  refine (Of_ok _ l _ h0).mono ?_
  rintro e w1 ⟨ug, rfl, hg, hb1⟩
  have a0 := cell_later hb1 a0; have a1 := cell_later hb1 a1; have b0 := cell_later hb1 b0; have b1 := cell_later hb1 b1
  have hg' := hg
  obtain ⟨v1, v2, v3, rfl, ⟨A1k, c1k, rfl, _⟩, ⟨A2k, c2k, rfl, _⟩, ⟨A3k, c3k, rfl, _⟩⟩ := hg
  obtain ⟨W1, W2, hW1, hW2, HzW2, hkW1, hkW2, hbW2, hltW2⟩ := fresh w1 [.slice none 0 0, .slice none 0 0, .slice none 0 0] [.slice A1k (ofG (l)).obv.length c1k, .slice A2k (ofG (l)).rev.length c2k, .slice A3k (ofG (l)).links.length c3k] 68 rfl
  have hsW2 : ((W1.setCell ⟨w1.heap.size, 0, none⟩ (.slice A1k (ofG (l)).obv.length c1k)).setCell ⟨w1.heap.size, 1, none⟩ (.slice A2k (ofG (l)).rev.length c2k)).setCell ⟨w1.heap.size, 2, none⟩ (.slice A3k (ofG (l)).links.length c3k) = W2 := hW2
  clear hW2
  obtain ⟨⟨z0k, z1k, z2k⟩, f0k, f1k, f2k⟩ := cells3 hkW1
  obtain ⟨⟨s0k, s1k, s2k⟩, _⟩ := cells3 hkW2
  clear hkW1 hkW2
  have a0 := cell_later hbW2 a0; have a1 := cell_later hbW2 a1; have b0 := cell_later hbW2 b0; have b1 := cell_later hbW2 b1
  have hw2 := below_trans hX (below_trans hb1 hbW2)
  have hgW := hg'.below hbW2
  by_cases hE : ofE l = 0
  case neg =>
    have hd : (ofE l != 0) = true := by simpa using hE
    have Hr := Lib.hid (And.intro (HE0.out.symm.trans (leastE_of hE)) (leastS_off (l := l) (a := da) (b := db) (L := []) (by rw [leastE_of hE]; exact hE) rfl))
    generalize ofE l = F at hd Hr
    clear a0 a1 b0 b1 hgW hg' hE
    go_wp2_with fail
    refine bodyPost_ret (v := .tuple #[.slice none 0 0, .int .i64 F]) (by simp [results, Tryz.results10, go_sem]) rfl ⟨_, [], by rw [Hr.out.1], (own_nil _ _ _ 0 _ : OwnI 0 _ _ _).slOf, Hr.out.2, hw2⟩
  have hd : (ofE l != 0) = false := by simp [hE]
  have HE := Lib.hid hE
  have HJ := Lib.hid (cJoined_ok _ (ofG l) da db _ hgW hda hdb)
  have HgW := Lib.hid hgW
  have Hlnk : Hid (Links W2 (.slice A3k (ofG l).links.length c3k) (ofG l).links) := Lib.hid (by
    obtain ⟨_, _, _, e9, _, _, h9⟩ := hgW
    cases e9; exact h9)
  clear hg' hgW
  cases hj : jnL l da db
  case false =>
    have Hr := Lib.hid (And.intro (HE0.out.symm.trans (leastE_jn hE hj)) (leastS_off (l := l) (a := da) (b := db) (L := []) (by rw [leastE_jn hE hj]; decide) rfl))
    rw [show joinG (ofG l) da db = false from hj] at HJ
    clear hE hj
    go_wp2_with fail
    refine HJ.out.mono ?_
    rintro e w3 ⟨rfl, hb3⟩
    clear a0 a1 b0 b1 z0k z1k z2k f0k f1k f2k s0k s1k s2k hsW2 hW1
    go_wp2_with fail
    refine bodyPost_ret (v := .tuple #[.slice none 0 0, .int .i64 7]) (by simp [results, Tryz.results10, go_sem]) rfl ⟨_, [], by rw [Hr.out.1], (own_nil _ _ _ 0 _ : OwnI 0 _ _ _).slOf, Hr.out.2, below_trans hw2 hb3⟩
  rw [show joinG (ofG l) da db = true from hj] at HJ
  have HL0 := Lib.hid (leastE_ok hE hj)
  have HEe := Lib.hid (HE0.out.symm.trans (leastE_ok hE hj))
  have Hj := Lib.hid hj
  have Hlen : Hid ((ofG l).links.length ≤ 64) := Lib.hid ((graphB_iff _).1 (of_valid hE)).ll
  have Hwf := Lib.hid (linkWf (of_valid hE))
  clear hE hj
  go_wp2_with fail
  refine HJ.out.mono ?_
  rintro e w3 ⟨rfl, hb3⟩
  clear z0k z1k z2k f0k f1k f2k hsW2 hW1
  have a0 := cell_later hb3 a0; have a1 := cell_later hb3 a1; have b0 := cell_later hb3 b0; have b1 := cell_later hb3 b1
  have s0k := cell_later hb3 s0k; have s1k := cell_later hb3 s1k; have s2k := cell_later hb3 s2k
  have hw3 := below_trans hw2 hb3
  have Hlnk := Lib.hid (Hlnk.out.below hb3)
  have hW2z := hb3.size
  by_cases hab : da = db
  case pos =>
    subst hab
    have Hex := Lib.hid (end_acr HE.out Hj.out)
    clear s0k s1k h0
    go_wp2_with fail
    clear s2k b0 b1
    go_loopw [34] (fun i wr => ∃ j : Nat, j ≤ (ofG l).links.length ∧ i = .int .i64 j ∧ Hid (∀ y ∈ (ofG l).links.take j, (acrO y da).isSome = false) ∧ Below w3.heap.size w3 wr) (fun i _ => (ofG l).links.length - (intOf i).toNat)
    case atStart => exact ⟨0, Nat.zero_le _, rfl, Lib.hid (fun y hy => by simp at hy), Below.refl _ _⟩
    case round =>
      obtain ⟨j, hj, rfl, HN, hbr⟩ := hrel
      have a0 := cell_later hbr a0; have a1 := cell_later hbr a1
      have hwr := below_trans hw3 hbr
      by_cases hlt : j < (ofG l).links.length
      case neg =>
        exfalso
        obtain ⟨x, hx, hs⟩ := Hex.out
        have := HN.out x (by rw [List.take_of_length_le (by omega)]; exact hx)
        rw [hs] at this; cases this
      obtain ⟨x, hx⟩ := get_of_lt hlt
      obtain ⟨A9, c9, e9, _, _, hc⟩ := Hlnk.out.cells
      cases e9
      obtain ⟨bo, o, rfl, _, hcb⟩ := hc j hlt
      obtain ⟨y0, y1, y2⟩ := hcb wr hbr j x hx
      have Hx := Lib.hid hx
      obtain ⟨L1, L2, hL1, hL2, HzL2, hkL1, hkL2, hbL2, hltL2⟩ := fresh wr [.int .i64 0, .int .i64 0, .int .i64 0] [.int .i64 (x).id, .int .i64 (x).obv, .int .i64 (x).rev] 73 rfl
      have hsL2 : ((L1.setCell ⟨wr.heap.size, 0, none⟩ (.int .i64 (x).id)).setCell ⟨wr.heap.size, 1, none⟩ (.int .i64 (x).obv)).setCell ⟨wr.heap.size, 2, none⟩ (.int .i64 (x).rev) = L2 := hL2
      clear hL2
      obtain ⟨⟨z0a, z1a, z2a⟩, f0a, f1a, f2a⟩ := cells3 hkL1
      obtain ⟨⟨s0a, s1a, s2a⟩, _⟩ := cells3 hkL2
      clear hkL1
      have a0 := cell_later hbL2 a0; have a1 := cell_later hbL2 a1
      have HA := Lib.hid (acrossX_ok x da)
      have hbL := below_trans hbr hbL2
      clear hc hcb hx
      go_wp2_with fail
      clear y0 y1 y2
      refine (HA.out _).mono ?_
      rintro e w5 ⟨rfl, hb5⟩
      generalize acrD x da = y
      obtain ⟨T0, hT0⟩ : ∃ T, (acrO x da).isSome = T := ⟨_, rfl⟩
      rw [hT0]
      have HT0 := Lib.hid hT0
      clear hT0
      have s0a := cell_later hb5 s0a
      obtain ⟨N1, N2, hN1, hN2, HzN2, hkN1, hkN2, hbN2, hltN2⟩ := fresh w5 [.int .i64 0, .int .i64 0] [.int .i64 (y).side, .int .i64 (y).num] 43 rfl
      have hsN2 : (N1.setCell ⟨w5.heap.size, 0, none⟩ (.int .i64 (y).side)).setCell ⟨w5.heap.size, 1, none⟩ (.int .i64 (y).num) = N2 := hN2
      clear hN2
      obtain ⟨⟨z0b, z1b⟩, f0b, f1b⟩ := cells2 hkN1
      obtain ⟨⟨s0b, s1b⟩, _⟩ := cells2 hkN2
      clear hkN1
      have s0a := cell_later hbN2 s0a
      have hbN := below_trans hbL (below_trans hb5 hbN2)
      cases T0
      case false =>
        have HN' : Hid (∀ y ∈ (ofG l).links.take (j + 1), (acrO y da).isSome = false) := Lib.hid (mem_snoc2 (P := fun y => (acrO y da).isSome = false) Hx.out HN.out HT0.out)
        go_wp2_with fail
        refine ⟨?rel, ?measure⟩
        case rel => exact ⟨j + 1, by omega, by go_num, HN', hbN⟩
        case measure => first | (simp [intOf]; done) | (simp [intOf]; omega)
      case true =>
        have Hf := Lib.hid (findLink_at (p := fun y => (acrO y da).isSome) HN.out Hx.out HT0.out)
        obtain ⟨V, hV, HzV, hbV, hltV, _⟩ := boxed N2 #[.int .i64 x.id] 3
        have hkV : V.heap[N2.heap.size]? = some (.cells (encI x.id).toArray 3 (0, 0)) := by rw [← hV]; exact heap_alloc_new _ _
        have HI : Hid (Ints V (.slice (some ⟨N2.heap.size, 0, none⟩) 1 1) [x.id]) := Lib.hid (own_one (B := 0) (lenI x.id) hkV (Nat.zero_le _)).slOf
        have HS : Hid (LeastS l da da [x.id]) := Lib.hid (by
          rw [LeastS, if_pos HL0.out, if_pos rfl]
          exact ⟨x, Hf.out, rfl⟩)
        clear hkV
        go_wp2_with fail
        refine bodyPost_ret (v := .tuple #[.slice (some ⟨N2.heap.size, 0, none⟩) 1 1, .int .i64 0]) (by simp [results, Tryz.results10, go_sem]) rfl ⟨_, [x.id], by rw [HEe.out], HI.out, HS.out, below_trans hw3 (below_trans hbN hbV)⟩
  case neg =>
    have Hab := Lib.hid hab
    have HD : Hid (((da.side = db.side) = False) ∨ (((da.side = db.side) = True) ∧ ((da.num = db.num) = False))) := Lib.hid (dieNe hab)
    have hpos : 0 < (ofG l).links.length := by
      obtain ⟨x, hx, _⟩ := end_acr HE.out Hj.out
      exact List.length_pos_of_mem hx
    obtain ⟨A9, c9, e9, _, _, hc⟩ := Hlnk.out.cells
    cases e9
    obtain ⟨bo, o, rfl, hbo, _⟩ := hc 0 hpos
    obtain ⟨W4, hW4, HzW4, hbW4, hltW4, _⟩ := boxed w3 #[.slice (some ⟨bo, o, none⟩) (ofG l).links.length c3k, .map none, .slice none 0 0, .slice none 0 0] 79
    have hq4 : SeaAt W4 w3.heap.size (.slice (some ⟨bo, o, none⟩) (ofG l).links.length c3k) (.map none) (.slice none 0 0) (.slice none 0 0) := by rw [SeaAt, ← hW4]; exact heap_alloc_new _ _
    have hl4 := Hlnk.out.below hbW4
    have hA : ∀ j, (Value.slice (some ⟨bo, o, none⟩) (ofG l).links.length c3k).ownBlock = some j → j ≠ w3.heap.size := fun j e => by
      have : bo = j := Option.some.inj e
      omega
    have HM := Lib.hid (measure_ok w3.heap.size (ofG l) Hwf.out Hlen.out db hdb (some ⟨bo, o, none⟩) c3k _ _ _ W4 hq4 hl4 hA)
    have Hl4 := Lib.hid hl4; have HA := Lib.hid hA
    have hw4 := below_trans hw3 hbW4
    have hbX3 : X1.heap.size ≤ w3.heap.size := by have := hb1.size; have := hbW2.size; omega
    have hX01 : X0.heap.size < X1.heap.size := hltX1
    have a0 := cell_later hbW4 a0; have a1 := cell_later hbW4 a1; have b0 := cell_later hbW4 b0; have b1 := cell_later hbW4 b1
    have s2k4 := s2k
    clear hab hc hq4 hl4 hA hpos h0 s0k s1k
    rcases HD.out with d1 | ⟨d1, d2⟩
    all_goals
      go_wp2_with fail
      refine HM.out.mono ?_
      rintro e w5 ⟨⟨u, rfl⟩, mb, m, n, hq5, hm5, hB5, hmb, hT5, hml⟩
      have hw5z := hT5.size
      have hX0z : w.heap.size < X0.heap.size := hltX0
      have a05 := cell_off hT5 (show w.heap.size ∉ [w3.heap.size] by simp; omega) a0
      have a15 := cell_off hT5 (show w.heap.size ∉ [w3.heap.size] by simp; omega) a1
      have hf := hB5.far
      have hcon : Con (edgesG (ofG l)) db da := by
        have hJ := Hj.out
        rw [jnL, joinG, Bool.and_eq_true, joinB_iff] at hJ
        exact hJ.2.2.2.symm
      have hfa : 0 ≤ farM m da := (hf.con da).2 hcon
      have hf0 : farM m da ≠ 0 := fun e => Hab.out (hf.only da e)
      obtain ⟨k0, hk0⟩ : ∃ k0, lookM m da = some k0 := by
        cases hlk : lookM m da with
        | none => rw [farM, hlk] at hfa; simp at hfa
        | some k0 => exact ⟨k0, rfl⟩
      have hfk : farM m da = k0 := by rw [farM, hk0]; rfl
      have hrng := hB5.base.rng _ ((lookM_mem hB5.base.nod).1 hk0)
      simp only at hrng
      obtain ⟨L, hL1, hL2⟩ := dfs_least hf (links_asc HE.out) hfa
      have hlt5 : bo < w5.heap.size := by omega
      have hSW : SW (ofG l) (some ⟨bo, o, none⟩) c3k mb w3.heap.size w5.heap.size m [] none w5 (.slice none 0 0) (.slice none 0 0) :=
        ⟨hq5, hm5, slOf_off Hl4.out hT5 (fun j e hm => by have := HA.out j e; simp at hm; omega), own_nil _ _ _ _ _, rfl, .inl rfl, by omega, by omega, hm5.lt, Nat.le_refl _, fun j e => by
          have : bo = j := Option.some.inj e
          omega⟩
      have HW := walkX_ok (ofG l) Hwf.out Hlen.out (some ⟨bo, o, none⟩) c3k mb w3.heap.size w5.heap.size m (fun d hd x hx y hy => hB5.base.clo d hd (by simp) y (acr_nbr.2 ⟨x, hx, hy⟩)) (farM m da).toNat [] none da _ _ w5 hda (by rw [hk0, Int.toNat_of_nonneg hfa, hfk]) (.inr (by omega)) (by simp; omega) hSW
      rw [hL1] at HW
      have HWw := Lib.hid HW
      have HT5 := Lib.hid hT5
      have HLS : Hid (LeastS l da db L) := Lib.hid (by rw [LeastS, if_pos HL0.out, if_neg Hab.out]; exact hL2)
      clear HW hSW hL1 hL2 hrng hfk hk0 hf0 hfa hcon hf hq5 hm5 hB5 hT5 a0 a1 b0 b1 s2k s2k4 hml hW4
      go_wp2_with fail
      refine HWw.out.mono ?_
      rintro e w6 ⟨⟨u, rfl⟩, u2, u3, hS6, hT6, _, _⟩
      have q3 := hS6.sea.cells.1.2.2.2
      have hfb := hS6.best
      have Hi : Hid (Ints w6 u3 L) := Lib.hid hfb.2.slOf
      have Hb6 : Hid (Below w.heap.size w w6) := Lib.hid (((touch_below hw4 [w3.heap.size]).trans (HT5.out.trans hT6)).below (by simp; omega) (Nat.le_refl _))
      clear hS6 hT6 hfb a05 a15
      go_wp2_with fail
      exact bodyPost_ret (v := .tuple #[u3, .int .i64 0]) (by simp [results, Tryz.results10, go_sem]) rfl ⟨_, L, by rw [HEe.out], Hi.out, HLS.out, Hb6.out⟩
end Go.Proofs.YtikfffojeakjoaaGreatDoor
/- Package explanation: Some, Needed. Condition: the arguments read as such. -/
namespace Go.Proofs.YtikfffojeakjoaaGreatDoor
open Go.RowKit Go.Maps Go.Shelf

noncomputable def someE (l : List Spec) (a b : Die) (set : List Int) : Int := if ofE l = 0 then leastE (onlyL l set false) a b else ofE l
def SomeS (l : List Spec) (a b : Die) (set L : List Int) : Prop := if ofE l = 0 then LeastS (onlyL l set false) a b L else L = []
section
variable {l : List Spec} {a b : Die} {x : Spec} {j : Nat}
/-- The Ids that Needed keeps. -/
noncomputable def needP (l : List Spec) (a b : Die) (n : Int) : Bool := !jnL (onlyL l [n] false) a b
theorem need_sort (h0 : leastE l a b = 0) : sortI ((l.map Spec.id).filter (needP l a b)) = needL l a b := by
  have hE := (leastE_0 h0).1
  rw [needL, if_pos h0]
  have hn1 : (l.map Spec.id).Nodup := by
    have := links_nodup (checkE_zero (ofE_zero hE).1).2.2
    rw [List.map_map] at this
    exact this
  have hp : (l.map Spec.id).Perm ((ofG l).links.map Link.id) := (List.perm_ext_iff_of_nodup hn1 (ids_nodup hE)).2 fun n => (ids_mem hE).symm
  have hp2 := hp.filter (needP l a b)
  have h1 : (sortI ((l.map Spec.id).filter (needP l a b))).Pairwise (· ≤ ·) := by rw [sortI_isL]; exact isL_sorted _
  have h2 : (((ofG l).links.map Link.id).filter (needP l a b)).Pairwise (· ≤ ·) := ((ids_asc hE).sublist List.filter_sublist).imp fun h => by omega
  exact (((List.mergeSort_perm _ _).trans hp2)).eq_of_pairwise (fun a b _ _ h1 h2 => by omega) h1 h2
end
end Go.Proofs.YtikfffojeakjoaaGreatDoor
