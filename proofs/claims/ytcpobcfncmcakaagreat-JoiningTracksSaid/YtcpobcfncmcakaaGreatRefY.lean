/- The reference of chapter 17: after, dies, Joins, History, Joiners. Condition: the argument reads as a list of specimens. -/
import Derived.Test.YtcpobcfncmcakaaGreatRefU
namespace Go.Proofs.YtcpobcfncmcakaaGreat
open Go.RowKit Go.Shelf Go.Maps

set_option maxHeartbeats 2000000 in
theorem dies17_ok (s : Spec) (w : World) : Calls Tryz.prog 51 #[valS s] w fun e w' => e = .returned (.tuple #[vlD (dA s), vlD (dB s)]) ∧ Below w.heap.size w w' := by
  obtain ⟨W0, hW0, Hz0, hb0, hlt0, hc0⟩ := boxed w #[.int .i64 s.id, .int .i64 s.obv, .int .i64 s.rev, .int .i64 s.os, .int .i64 s.rs, .int .i64 s.ax, .int .i64 s.wt] 43
  obtain ⟨W1, hW1, Hz1, hb1, hlt1, hc1⟩ := boxed W0 #[.int .i64 0, .int .i64 0] 24
  obtain ⟨W2, hW2, Hz2, hb2, hlt2, hc2⟩ := boxed W1 #[.int .i64 0, .int .i64 0] 24
  have hb12 := below_trans hb1 hb2
  have a1 := cell_later hb12 (hc0 1 _ rfl); have a2 := cell_later hb12 (hc0 2 _ rfl)
  have HW := Lib.hid (below_trans hb0 hb12)
  have g1 : W1.heap[W0.heap.size]? = some (.cells #[.int .i64 0, .int .i64 0] 24 (0, 0)) := by rw [← hW1]; exact heap_alloc_new _ _
  have g2 : W2.heap[W1.heap.size]? = some (.cells #[.int .i64 0, .int .i64 0] 24 (0, 0)) := by rw [← hW2]; exact heap_alloc_new _ _
  have G1 := Lib.hid (heap_below g1 hb2 (heap_lt g1)); have G2 := Lib.hid g2
  clear hc0 hc1 hc2 g1 g2 hb0 hb1 hb2 hb12
  go_enter Tryz.func51, Tryz.ntmps51
  go_wp2_with fail
  have hba : Below W2.heap.size W2 W2.drew := (Below.refl _ _).drew
  obtain ⟨wa, hwa⟩ : ∃ W, W2.drew = W := ⟨_, rfl⟩
  rw [hwa] at hba
  have b1 := cell_later hba a1; have b2 := cell_later hba a2
  have hHeld : wa.cell? ⟨w.heap.size, 1, none⟩ = some (.int .i64 s.obv) ∧ wa.cell? ⟨w.heap.size, 2, none⟩ = some (.int .i64 s.rev) := ⟨b1, b2⟩
  have h1 := heap_below G1.out hba (heap_lt G1.out); have h2 := heap_below G2.out hba (heap_lt G2.out)
  have hne : W0.heap.size ≠ w.heap.size ∧ W1.heap.size ≠ w.heap.size ∧ W0.heap.size ≠ W1.heap.size := by omega
  have HW' := Lib.hid (below_trans HW.out hba)
  refine wp_region_S 7 (fun w' => w'.cell? ⟨w.heap.size, 1, none⟩ = some (.int .i64 s.obv) ∧ w'.cell? ⟨w.heap.size, 2, none⟩ = some (.int .i64 s.rev)) (by kernel_rfl) (by decide) ?_
  rw [hwa]
  clear hwa hW0 hW1 hW2 a1 a2 G1 G2 hba
  refine wpAnyS_takeD 0 (some 4) (.pointer (some ⟨w.heap.size, 1, none⟩)) (by rfl) (by rfl) (by kernel_rfl) (by exact fun _ _ _ h => h) (by rfl) (fun w' hS => by go_simp) hHeld ?_
  simp only [Act.put, List.setIfInBounds_toArray, List.set_cons_succ, List.set_cons_zero]
  refine wpAnyS_takeD 1 (some 5) (.int .i64 s.obv) (by rfl) (by rfl) (by kernel_rfl) (by exact fun _ _ _ h => h) (by rfl) (fun w' hS => by (have q := hS.1; go_simp)) hHeld ?_
  simp only [Act.put, List.setIfInBounds_toArray, List.set_cons_succ, List.set_cons_zero]
  refine wpAnyS_takeD 2 (some 6) (.agg #[.int .i64 0, .int .i64 s.obv]) (by rfl) (by rfl) (by kernel_rfl) (by exact fun _ _ _ h => h) (by rfl) (fun w' hS => by go_simp) hHeld ?_
  simp only [Act.put, List.setIfInBounds_toArray, List.set_cons_succ, List.set_cons_zero]
  refine wpAnyS_takeD 3 (some 7) (.pointer (some ⟨w.heap.size, 2, none⟩)) (by rfl) (by rfl) (by kernel_rfl) (by exact fun _ _ _ h => h) (by rfl) (fun w' hS => by go_simp) hHeld ?_
  simp only [Act.put, List.setIfInBounds_toArray, List.set_cons_succ, List.set_cons_zero]
  refine wpAnyS_takeD 4 (some 8) (.int .i64 s.rev) (by rfl) (by rfl) (by kernel_rfl) (by exact fun _ _ _ h => h) (by rfl) (fun w' hS => by (have q := hS.2; go_simp)) hHeld ?_
  simp only [Act.put, List.setIfInBounds_toArray, List.set_cons_succ, List.set_cons_zero]
  refine wpAnyS_takeD 5 (some 9) (.agg #[.int .i64 1, .int .i64 s.rev]) (by rfl) (by rfl) (by kernel_rfl) (by exact fun _ _ _ h => h) (by rfl) (fun w' hS => by go_simp) hHeld ?_
  simp only [Act.put, List.setIfInBounds_toArray, List.set_cons_succ, List.set_cons_zero]
  have c0 := (heap_cell (i := 0) h1).trans rfl; have c1 := (heap_cell (i := 1) h1).trans rfl; have f0 := heap_free (i := 0) h1; have f1 := heap_free (i := 1) h1
  have d0 := (heap_cell (i := 0) h2).trans rfl; have d1 := (heap_cell (i := 1) h2).trans rfl; have e0 := heap_free (i := 0) h2; have e1 := heap_free (i := 1) h2
  refine wpAnyS_one 6 (by kernel_rfl) (by rfl) (by decide) (fun K hK => ?_)
  have HK := Lib.hid hK; clear hK
  rw [if_pos (by rfl)]
  go_simp
  obtain ⟨wb, hwb⟩ : ∃ z, (wa.setCell ⟨W0.heap.size, 0, none⟩ (.int .i64 0)).setCell ⟨W0.heap.size, 1, none⟩ (.int .i64 s.obv) = z := ⟨_, rfl⟩
  rw [hwb]
  have hgb : wa.grownBy wb (some W0.heap.size) := by rw [← hwb]; exact setCells_grown W0.heap.size [.int .i64 0, .int .i64 s.obv] wa 0
  have r1 : wb.heap[W0.heap.size]? = some (.cells #[.int .i64 0, .int .i64 s.obv] 24 (0, 0)) := by
    have q1 := heap_setCell_same wa W0.heap.size 0 _ _ (.int .i64 0) h1
    have q2 := heap_setCell_same _ W0.heap.size 1 _ _ (.int .i64 s.obv) q1
    rw [hwb] at q2
    simpa using q2
  have r2 := (hgb.block _ (heap_lt h2) (fun e => hne.2.2 (Option.some.inj e).symm)).trans h2
  have s1 : wb.cell? ⟨w.heap.size, 1, none⟩ = some (.int .i64 s.obv) := by rw [World.cell?_of_block (hgb.block _ (World.block_lt_of_cell? wa _ b1) (fun e => hne.1 (Option.some.inj e).symm))]; exact b1
  have s2 : wb.cell? ⟨w.heap.size, 2, none⟩ = some (.int .i64 s.rev) := by rw [World.cell?_of_block (hgb.block _ (World.block_lt_of_cell? wa _ b2) (fun e => hne.1 (Option.some.inj e).symm))]; exact b2
  have HB := Lib.hid (HW'.out.grown hgb HW'.out.size (fun j e => by cases e; omega))
  refine HK.out _ _ ⟨s1, s2⟩ ?_
  clear HK hHeld hwb c0 c1 f0 f1 d0 d1 e0 e1 h1 h2 b1 b2 hgb s1 s2 HW' HW
  refine (show tailOf _ _ _ _ _ _ _ _ from ⟨by kernel_rfl, ?_⟩)
  simp only [List.drop_succ_cons, List.drop_zero]
  have d0 := (heap_cell (i := 0) r2).trans rfl; have d1 := (heap_cell (i := 1) r2).trans rfl; have e0 := heap_free (i := 0) r2; have e1 := heap_free (i := 1) r2
  have c0 : wb.cell? ⟨W0.heap.size, 0, none⟩ = some (.int .i64 0) := heap_cell (i := 0) r1
  have c1 : wb.cell? ⟨W0.heap.size, 1, none⟩ = some (.int .i64 s.obv) := heap_cell (i := 1) r1
  have d0' : wb.cell? ⟨W1.heap.size, 0, none⟩ = some (.int .i64 0) := heap_cell (i := 0) r2
  have d1' : wb.cell? ⟨W1.heap.size, 1, none⟩ = some (.int .i64 0) := heap_cell (i := 1) r2
  obtain ⟨n1, n2, n3⟩ := hne
  have R2 := Lib.hid r2
  clear r1 r2
  go_wp2_with fail
  refine bodyPost_ret (v := .tuple #[vlD (dA s), vlD (dB s)]) (by simp [results, Tryz.results51, go_sem, c0, c1, d0', d1', dA, dB]) rfl ⟨rfl, HB.out.grown (setCells_grown W1.heap.size [.int .i64 1, .int .i64 s.rev] wb 0) HB.out.size (fun j e => by cases e; omega)⟩
theorem sl_off {α : Type} {enc : α → List Value} {k : Nat} (he : ∀ x, ∃ n r, enc x = Value.int .i64 n :: r) {w w' : World} {v : Value} {xs : List α} {b : Nat} {cs : Array Value} {t : TypeId} (h : SlOf enc k w v xs)
    (hb : w.heap[b]? = some (.cells cs t (0, 0))) (hcs : ∀ (i : Nat) (n : Int), cs[i]? ≠ some (Value.int .i64 n)) (hg : w.grownBy w' (some b)) : SlOf enc k w' v xs := by
  obtain ⟨A, c, rfl, h1, h2, h3, h4⟩ := h
  refine ⟨A, c, rfl, h1, h2, h3, fun hn => ?_⟩
  obtain ⟨g, o, rfl, hlt, hc⟩ := h4 hn
  have hne : g ≠ b := fun e => by
    subst e
    cases xs with
    | nil => simp at hn
    | cons x xs =>
      obtain ⟨n, r, hx⟩ := he x
      have := hc 0 (.int .i64 n) (by rw [List.flatMap_cons, hx]; rfl)
      rw [heap_cell hb] at this
      exact hcs _ _ this
  refine ⟨g, o, rfl, Nat.lt_of_lt_of_le hlt hg.size, fun j u hu => ?_⟩
  rw [World.cell?_of_block (hg.block g hlt (fun e => hne (Option.some.inj e)))]
  exact hc j u hu
theorem graph_off {w w' : World} {v : Value} {g : Graph} {b : Nat} {cs : Array Value} {t : TypeId} (h : GraphAt w v g) (hb : w.heap[b]? = some (.cells cs t (0, 0))) (hcs : ∀ (i : Nat) (n : Int), cs[i]? ≠ some (Value.int .i64 n)) (hg : w.grownBy w' (some b)) : GraphAt w' v g := by
  obtain ⟨v1, v2, v3, e, h1, h2, h3⟩ := h
  exact ⟨v1, v2, v3, e, sl_off (enc := encI) (fun x => ⟨x, [], rfl⟩) h1 hb hcs hg, sl_off (enc := encI) (fun x => ⟨x, [], rfl⟩) h2 hb hcs hg, sl_off (enc := encL) (fun x => ⟨x.id, _, rfl⟩) h3 hb hcs hg⟩
set_option maxHeartbeats 4000000 in
set_option maxRecDepth 100000 in
theorem after17_ok (v : Value) (l : List Spec) (k : Nat) (w : World) (h : Specs w v l) (hk : k ≤ l.length) (hl : l.length ≤ 100) :
    Calls Tryz.prog 43 #[v, .int .i64 (k : Int)] w fun e w' => ∃ u, e = .returned u ∧ GraphAt w' u (ofG (l.take k)) ∧ Below w.heap.size w w' := by
  obtain ⟨A, c, rfl, hlc, hcm, hc⟩ := h.cells
  obtain ⟨T, hT, HzT, hbT, hltT, _⟩ := boxed w #[.slice none 0 0, .slice none 0 0, .slice none 0 0] 55
  have hkT : T.heap[w.heap.size]? = some (.cells [.slice none 0 0, .slice none 0 0, .slice none 0 0].toArray 55 (0, 0)) := by rw [← hT]; exact heap_alloc_new _ _
  have hS := (h.below hbT).cut lenS hk
  have hk1 : (k : Int) ≤ (c : Int) := by omega
  have hk0 : (0 : Int) ≤ (k : Int) := by omega
  have hkl : (k : Int) ≤ (l.length : Int) := by omega
  clear hc
  go_enter Tryz.func43, Tryz.ntmps43
  go_wp2_with fail
  refine (Of_ok13 _ (l.take k) _ hS (by rw [List.length_take]; omega)).mono ?_
  rintro e w1 ⟨u, rfl, hg, hb1⟩
  have hg' := hg
  obtain ⟨v1, v2, v3, rfl, ⟨A1x, c1x, rfl, _⟩, ⟨A2x, c2x, rfl, _⟩, ⟨A3x, c3x, rfl, _⟩⟩ := hg
  obtain ⟨W1, W2, hW1, hW2, HzW2, hkW1, hkW2, hbW2, hltW2⟩ := fresh w1 [.slice none 0 0, .slice none 0 0, .slice none 0 0] [.slice A1x (ofG (l.take k)).obv.length c1x, .slice A2x (ofG (l.take k)).rev.length c2x, .slice A3x (ofG (l.take k)).links.length c3x] 55 rfl
  have hsW2 : ((W1.setCell ⟨w1.heap.size, 0, none⟩ (.slice A1x (ofG (l.take k)).obv.length c1x)).setCell ⟨w1.heap.size, 1, none⟩ (.slice A2x (ofG (l.take k)).rev.length c2x)).setCell ⟨w1.heap.size, 2, none⟩ (.slice A3x (ofG (l.take k)).links.length c3x) = W2 := hW2
  clear hW2
  obtain ⟨⟨z0x, z1x, z2x⟩, f0x, f1x, f2x⟩ := cells3 hkW1
  obtain ⟨⟨s0x, s1x, s2x⟩, _⟩ := cells3 hkW2
  clear hkW1 hkW2
  have hk2 := heap_below (heap_below hkT hb1 (heap_lt hkT)) hbW2 (by have := heap_lt hkT; have := hb1.size; omega)
  obtain ⟨⟨r0, r1, r2⟩, g0, g1, g2⟩ := cells3 hk2
  have hG2 := hg'.below hbW2
  have hbw := below_trans hbT (below_trans hb1 hbW2)
  have Hk2 := Lib.hid hk2
  clear hkT hk2 hS hT
  go_wp2_with fail
  refine bodyPost_ret (results_cell_row rfl _ _ w.heap.size 55 #[.slice A1x (ofG (l.take k)).obv.length c1x, .slice A2x (ofG (l.take k)).rev.length c2x, .slice A3x (ofG (l.take k)).links.length c3x] (0, 0) _ (by simp) (heap_set3 Hk2.out) Tryz.underlying55 rfl (by kernel_rfl)) rfl ⟨_, rfl, ?_, below_set3 hbw (Nat.le_refl _) _ _ _⟩
  refine graph_off hG2 Hk2.out (fun i n => ?_) (setCells_grown w.heap.size [.slice A1x (ofG (l.take k)).obv.length c1x, .slice A2x (ofG (l.take k)).rev.length c2x, .slice A3x (ofG (l.take k)).links.length c3x] W2 0)
  match i with
  | 0 => simp
  | 1 => simp
  | 2 => simp
  | i + 3 => simp
theorem joins_pick {l : List Spec} (h : ofE l = 0) (s : Spec) : (dieIn (ofG l) (dA s) && dieIn (ofG l) (dB s) && !joinB (edgesG (ofG l)) (dA s) (dB s)) = pickJ (apartG s (growL l)) (thereG s (growL l)) := by
  obtain ⟨_, h2, h3⟩ := (ninv_list l).enter s
  have hm : ∀ d, dieIn (ofG l) d = true ↔ EndE (edgesS l) d := fun d => by rw [← diesG_mem (of_valid h), mem_dies h]
  rw [join_of h, Bool.eq_iff_iff, pickJ, Bool.and_eq_true, Bool.and_eq_true, Bool.and_eq_true, Bool.not_eq_true', joinB_no, hm, hm, h2, h3]
  constructor
  · rintro ⟨⟨a, b⟩, c⟩; exact ⟨c, .inr ⟨a, b⟩⟩
  · rintro ⟨c, d | ⟨a, b⟩⟩
    · exact absurd d c
    · exact ⟨⟨a, b⟩, c⟩
theorem apart_join (l : List Spec) (s : Spec) : (!joinB (edgesS l) (dA s) (dB s)) = apartG s (growL l) := by
  obtain ⟨_, h2, _⟩ := (ninv_list l).enter s
  rw [Bool.eq_iff_iff, Bool.not_eq_true', joinB_no, h2]
set_option maxHeartbeats 8000000 in
set_option maxRecDepth 100000 in
theorem Joins17_ok (v : Value) (l : List Spec) (k : Nat) (s : Spec) (w : World) (h : Specs w v l) (hE : ofE l = 0) (hs : l[k]? = some s) :
    Calls Tryz.prog 50 #[v, .int .i64 (k : Int)] w fun e w' => e = .returned (.bool (pickJ (apartG s (growL (l.take k))) (thereG s (growL (l.take k))))) ∧ Below w.heap.size w w' := by
  have h0 := h
  obtain ⟨A, c, rfl, _, _, hc⟩ := h.cells
  have hkl := lt_of_get hs
  have hl64 : l.length ≤ 64 := (checkE_zero (ofE_zero hE).1).1
  obtain ⟨bo, o, rfl, _, hcb⟩ := hc k hkl
  obtain ⟨y0, y1, y2, y3, y4, y5, y6⟩ := hcb w (Below.refl _ _) k s hs
  have hof := of_take hE k
  have hJ := joins_pick hof s
  have Hg := Lib.hid (of_valid hof)
  have hk1 : (k : Int) < (l.length : Int) := by omega
  have hk0 : (0 : Int) ≤ (k : Int) := by omega
  rw [← hJ]
  obtain ⟨G, hG⟩ : ∃ G, ofG (l.take k) = G := ⟨_, rfl⟩
  rw [hG] at Hg ⊢
  have HG := Lib.hid hG
  generalize hI1 : dieIn G (dA s) = I1
  generalize hI2 : dieIn G (dB s) = I2
  generalize hI3 : joinB (edgesG G) (dA s) (dB s) = I3
  have HI1 := Lib.hid hI1; have HI2 := Lib.hid hI2; have HI3 := Lib.hid hI3
  clear hc hcb hs hJ hof hE hG hI1 hI2 hI3
  go_enter Tryz.func50, Tryz.ntmps50
  go_wp2_with fail
  refine (dies17_ok s _).mono ?_
  rintro e w1 ⟨rfl, hb1⟩
  obtain ⟨V1, V2, V, hV1, hV2, hV, HzV, hltV, kz1, kz2, k1, k2, hbV, hltV'⟩ := fresh2 w1 [.int .i64 0, .int .i64 0] [.int .i64 (dA s).side, .int .i64 (dA s).num] [.int .i64 0, .int .i64 0] [.int .i64 (dB s).side, .int .i64 (dB s).num] 24 rfl rfl
  have hsV : (((V2.setCell ⟨w1.heap.size, 0, none⟩ (.int .i64 (dA s).side)).setCell ⟨w1.heap.size, 1, none⟩ (.int .i64 (dA s).num)).setCell ⟨V1.heap.size, 0, none⟩ (.int .i64 (dB s).side)).setCell ⟨V1.heap.size, 1, none⟩ (.int .i64 (dB s).num) = V := hV
  clear hV
  obtain ⟨⟨z0, z1⟩, f0, f1⟩ := cells2 kz1
  obtain ⟨⟨z2, z3⟩, f2, f3⟩ := cells2 kz2
  obtain ⟨⟨p0, p1⟩, _, _⟩ := cells2 k1
  obtain ⟨⟨q0, q1⟩, _, _⟩ := cells2 k2
  have hw1 := below_trans hb1 hbV
  clear kz1 kz2 k1 k2 y0 y1 y2 y3 y4 y5 y6
  go_wp2_with fail
  clear z0 z1 z2 z3 f0 f1 f2 f3 hsV hV1 hV2
  refine (after17_ok _ l k _ (h0.below hw1) (by omega) (by omega)).mono ?_
  rintro e w2 ⟨u, rfl, hg, hb2⟩
  rw [HG.out] at hg
  have hg' := hg
  obtain ⟨v1, v2, v3, rfl, ⟨A1x, c1x, rfl, _⟩, ⟨A2x, c2x, rfl, _⟩, ⟨A3x, c3x, rfl, _⟩⟩ := hg
  have p0 := cell_later hb2 p0; have p1 := cell_later hb2 p1; have q0 := cell_later hb2 q0; have q1 := cell_later hb2 q1
  obtain ⟨U1, U2, hU1, hU2, HzU2, hkU1, hkU2, hbU2, hltU2⟩ := fresh w2 [.slice none 0 0, .slice none 0 0, .slice none 0 0] [.slice A1x (G).obv.length c1x, .slice A2x (G).rev.length c2x, .slice A3x (G).links.length c3x] 55 rfl
  have hsU2 : ((U1.setCell ⟨w2.heap.size, 0, none⟩ (.slice A1x (G).obv.length c1x)).setCell ⟨w2.heap.size, 1, none⟩ (.slice A2x (G).rev.length c2x)).setCell ⟨w2.heap.size, 2, none⟩ (.slice A3x (G).links.length c3x) = U2 := hU2
  clear hU2
  obtain ⟨⟨z0x, z1x, z2x⟩, f0x, f1x, f2x⟩ := cells3 hkU1
  obtain ⟨⟨s0x, s1x, s2x⟩, _⟩ := cells3 hkU2
  clear hkU1 hkU2
  have p0 := cell_later hbU2 p0; have p1 := cell_later hbU2 p1; have q0 := cell_later hbU2 q0; have q1 := cell_later hbU2 q1
  have hgU := hg'.below hbU2
  have hw2 := below_trans hw1 (below_trans hb2 hbU2)
  have H1 := In_ok13 _ G (dA s) U2 hgU
  rw [HI1.out] at H1
  have H1' := Lib.hid H1
  clear H1
  go_wp2_with fail
  clear z0x z1x z2x f0x f1x f2x hsU2 hU1
  refine H1'.out.mono ?_
  rintro e w3 ⟨rfl, hb3⟩
  have p0 := cell_later hb3 p0; have p1 := cell_later hb3 p1; have q0 := cell_later hb3 q0; have q1 := cell_later hb3 q1
  have s0x := cell_later hb3 s0x; have s1x := cell_later hb3 s1x; have s2x := cell_later hb3 s2x
  have hw3 := below_trans hw2 hb3
  cases I1
  · clear p0 p1 q0 q1 s0x s1x s2x
    go_wp2_with fail
    go_ret
    exact ⟨rfl, hw3⟩
  have H2 := In_ok13 _ G (dB s) w3 (hgU.below hb3)
  rw [HI2.out] at H2
  have H2' := Lib.hid H2
  clear H2 H1'
  go_wp2_with fail
  refine H2'.out.mono ?_
  rintro e w4 ⟨rfl, hb4⟩
  have p0 := cell_later hb4 p0; have p1 := cell_later hb4 p1; have q0 := cell_later hb4 q0; have q1 := cell_later hb4 q1
  have s0x := cell_later hb4 s0x; have s1x := cell_later hb4 s1x; have s2x := cell_later hb4 s2x
  have hw4 := below_trans hw3 hb4
  cases I2
  · clear p0 p1 q0 q1 s0x s1x s2x
    go_wp2_with fail
    go_ret
    exact ⟨rfl, hw4⟩
  have H3 := Joined14_ok _ G Hg.out (dA s) (dB s) w4 (hgU.below (below_trans hb3 hb4))
  rw [HI3.out] at H3
  have H3' := Lib.hid H3
  clear H3 H2'
  go_wp2_with fail
  refine H3'.out.mono ?_
  rintro e w5 ⟨rfl, hb5⟩
  clear p0 p1 q0 q1 s0x s1x s2x
  go_wp2_with fail
  go_ret
  exact ⟨by simp, below_trans hw4 hb5⟩
end Go.Proofs.YtcpobcfncmcakaaGreat
/- The reference of chapter 17: History, Joiners, Forest, First. Condition: the argument reads as a list of specimens. -/
namespace Go.Proofs.YtcpobcfncmcakaaGreat
open Go.RowKit Go.Shelf Go.Maps

theorem num_count {l : List Spec} (h : ofE l = 0) : (numG (ofG l) : Int) = ((growL l).count : Int) := by rw [numG, comps_reps h]
set_option maxHeartbeats 4000000 in
set_option maxRecDepth 100000 in
theorem History17_ok (v : Value) (l : List Spec) (w : World) (h : Specs w v l) (hl : l.length ≤ 100) :
    Calls Tryz.prog 16 #[v] w fun e w' => ∃ u, e = .returned (.tuple #[u, .int .i64 (ofE l)]) ∧ Ints w' u (histR l) ∧ Below w.heap.size w w' := by
  have h0 := h
  obtain ⟨A, c, rfl, _, _, hc⟩ := h.cells
  go_enter Tryz.func16, Tryz.ntmps16
  go_wp2_with fail
  refine (Of_ok13 _ l _ h0 (by omega)).mono ?_
  rintro e w1 ⟨ug, rfl, ⟨v1, v2, v3, rfl, ⟨A1, c1, rfl, _⟩, ⟨A2, c2, rfl, _⟩, ⟨A3, c3, rfl, _⟩⟩, hb1⟩
  obtain ⟨W1, W2, hW1, hW2, HzW2, hkW1, hkW2, hbW2, hltW2⟩ := fresh w1 [.slice none 0 0, .slice none 0 0, .slice none 0 0] [.slice A1 (ofG l).obv.length c1, .slice A2 (ofG l).rev.length c2, .slice A3 (ofG l).links.length c3] 55 rfl
  have hsW2 : ((W1.setCell ⟨w1.heap.size, 0, none⟩ (.slice A1 (ofG l).obv.length c1)).setCell ⟨w1.heap.size, 1, none⟩ (.slice A2 (ofG l).rev.length c2)).setCell ⟨w1.heap.size, 2, none⟩ (.slice A3 (ofG l).links.length c3) = W2 := hW2
  clear hW2
  obtain ⟨⟨z0, z1, z2⟩, f0, f1, f2⟩ := cells3 hkW1
  clear hkW1 hkW2
  have hw2 := below_trans hb1 hbW2
  by_cases hE : ofE l = 0
  case neg =>
    have hd : (ofE l != 0) = true := by simpa using hE
    have HE := Lib.hid hE; clear hE hc
    go_wp2_with fail
    refine bodyPost_ret (v := .tuple #[.slice none 0 0, .int .i64 (ofE l)]) (by simp [results, Tryz.results16, go_sem]) rfl ⟨_, rfl, ?_, hw2⟩
    rw [histR, if_neg HE.out]
    exact (own_nil _ _ 0 0 _).slOf
  have hd : (ofE l != 0) = false := by simp [hE]
  have HE := Lib.hid hE
  have hl64 : l.length ≤ 64 := (checkE_zero (ofE_zero hE).1).1
  obtain ⟨iI, hiI, hzI, hkI, hbI⟩ := info_parts infoI
  clear hE
  go_wp2_with fail
  clear z0 z1 z2 f0 f1 f2 hsW2 hW1
  go_loopw [6, 7] (fun u i wr => ∃ k : Nat, k ≤ l.length ∧ i = .int .i64 k ∧ OwnI W2.heap.size wr u (histT l k) ∧ Below W2.heap.size W2 wr) (fun _ i _ => l.length - (intOf i).toNat)
  case atStart => exact ⟨0, Nat.zero_le _, rfl, own_nil _ _ _ _ _, Below.refl _ _⟩
  case round =>
    obtain ⟨k, hk, rfl, hown, hb⟩ := hrel
    by_cases hlt : k < l.length
    · have hk1 : (k : Int) ≤ 64 := by omega
      have hk0 : (0 : Int) ≤ (k : Int) := by omega
      have Hsn := Lib.hid (histT_snoc l k)
      have hof := of_take HE.out (k + 1)
      have hnc := num_count hof
      have hll : (histT l k).length ≤ 64 := by rw [histT, List.length_map, List.length_range]; omega
      have Hv := Lib.hid (of_valid hof)
      have HA := Lib.hid (show Calls Tryz.prog 43 #[.slice A l.length c, .int .i64 ((k : Int) + 1)] wr _ from after17_ok _ l (k + 1) wr (h0.below (below_trans hw2 hb)) (by omega) hl)
      have Hnc := Lib.hid hnc
      clear hc hof hnc
      go_wp2_with fail
      refine HA.out.mono ?_
      rintro e w3 ⟨u, rfl, hg, hb3⟩
      have hown3 := hown.below hb3
      clear HA hown
      go_wp2_with fail
      refine (Number14_ok _ (ofG (l.take (k + 1))) Hv.out _ hg).mono ?_
      rintro e w4 ⟨rfl, hb4⟩
      rw [Hnc.out]
      have hown4 := hown3.below hb4
      have hb34 := below_trans hb (below_trans hb3 hb4)
      have hBs := hb34.size
      clear hg hown3
      go_wp2_with (at_builtin; refine wpList_append1 (enc := encI) (size := 1) (B := W2.heap.size) rfl (.tmp 22) (.tmp 28) _ rfl 3 iI _ 8 Tryz.underlying30 hiI hzI hkI hbI rfl (by decide) rfl hown4 ((growL (l.take (k + 1))).count : Int) _ rfl lenI oneI _ rfl rfl (by omega) (by omega) hBs ?_; intro v' w7 hown' hgrow hat)
      refine ⟨?rel, ?measure⟩
      case rel => exact ⟨k + 1, by omega, by go_num, by rw [Hsn.out]; exact hown', hb34.trans (below_append hown4 hgrow hBs)⟩
      case measure => first | (simp [intOf]; done) | (simp [intOf]; omega)
    · have ek : k = l.length := by omega
      subst ek
      have HO := Lib.hid hown
      clear hown hc
      go_wp2_with fail
      refine bodyPost_ret (v := .tuple #[u6, .int .i64 0]) (by simp [results, Tryz.results16, go_sem]) rfl ⟨_, by rw [HE.out], ?_, below_trans hw2 hb⟩
      rw [histR, if_pos HE.out]
      exact HO.out.slOf
set_option maxHeartbeats 4000000 in
set_option maxRecDepth 100000 in
theorem Joiners17_ok (v : Value) (l : List Spec) (w : World) (h : Specs w v l) (hl : l.length ≤ 100) :
    Calls Tryz.prog 17 #[v] w fun e w' => ∃ u, e = .returned (.tuple #[u, .int .i64 (ofE l)]) ∧ Ints w' u (choR pickJ l) ∧ Below w.heap.size w w' := by
  have h0 := h
  obtain ⟨A, c, rfl, _, _, hc⟩ := h.cells
  go_enter Tryz.func17, Tryz.ntmps17
  go_wp2_with fail
  refine (Of_ok13 _ l _ h0 (by omega)).mono ?_
  rintro e w1 ⟨ug, rfl, ⟨v1, v2, v3, rfl, ⟨A1, c1, rfl, _⟩, ⟨A2, c2, rfl, _⟩, ⟨A3, c3, rfl, _⟩⟩, hb1⟩
  obtain ⟨W1, W2, hW1, hW2, HzW2, hkW1, hkW2, hbW2, hltW2⟩ := fresh w1 [.slice none 0 0, .slice none 0 0, .slice none 0 0] [.slice A1 (ofG l).obv.length c1, .slice A2 (ofG l).rev.length c2, .slice A3 (ofG l).links.length c3] 55 rfl
  have hsW2 : ((W1.setCell ⟨w1.heap.size, 0, none⟩ (.slice A1 (ofG l).obv.length c1)).setCell ⟨w1.heap.size, 1, none⟩ (.slice A2 (ofG l).rev.length c2)).setCell ⟨w1.heap.size, 2, none⟩ (.slice A3 (ofG l).links.length c3) = W2 := hW2
  clear hW2
  obtain ⟨⟨z0, z1, z2⟩, f0, f1, f2⟩ := cells3 hkW1
  clear hkW1 hkW2
  have hw2 := below_trans hb1 hbW2
  by_cases hE : ofE l = 0
  case neg =>
    have hd : (ofE l != 0) = true := by simpa using hE
    have HE := Lib.hid hE; clear hE hc
    go_wp2_with fail
    refine bodyPost_ret (v := .tuple #[.slice none 0 0, .int .i64 (ofE l)]) (by simp [results, Tryz.results17, go_sem]) rfl ⟨_, rfl, ?_, hw2⟩
    rw [choR, if_neg HE.out]
    exact (own_nil _ _ 0 0 _).slOf
  have hd : (ofE l != 0) = false := by simp [hE]
  have HE := Lib.hid hE
  have hl64 : l.length ≤ 64 := (checkE_zero (ofE_zero hE).1).1
  obtain ⟨iI, hiI, hzI, hkI, hbI⟩ := info_parts infoI
  clear hE
  go_wp2_with fail
  clear z0 z1 z2 f0 f1 f2 hsW2 hW1
  go_loopw [6, 7] (fun u i wr => ∃ k : Nat, k ≤ l.length ∧ i = .int .i64 k ∧ OwnI W2.heap.size wr u (choT pickJ l k) ∧ Below W2.heap.size W2 wr) (fun _ i _ => l.length - (intOf i).toNat)
  case atStart => exact ⟨0, Nat.zero_le _, rfl, own_nil _ _ _ _ _, Below.refl _ _⟩
  case round =>
    obtain ⟨k, hk, rfl, hown, hb⟩ := hrel
    by_cases hlt : k < l.length
    · obtain ⟨bo, o, rfl, _, hcb⟩ := hc k hlt
      obtain ⟨x, hx⟩ := get_of_lt hlt
      have hwr := below_trans hw2 hb
      have HY := Lib.hid (fun w' hb' => (hcb w' hb' k x hx).1)
      have hsn := choT_snoc pickJ hx
      have hJ := Joins17_ok _ l k x wr (h0.below hwr) HE.out hx
      have hll : (choT pickJ l k).length ≤ 64 := by have := choT_len pickJ l k; omega
      have hk1 : (k : Int) < (l.length : Int) := by omega
      clear hc hcb hx
      cases hP : pickJ (apartG x (growL (l.take k))) (thereG x (growL (l.take k)))
      · rw [hP, if_neg (by simp), List.append_nil] at hsn
        rw [hP] at hJ
        have HJ := Lib.hid hJ; have Hsn := Lib.hid hsn
        clear hJ hsn hP
        go_wp2_with fail
        refine HJ.out.mono ?_
        rintro e w3 ⟨rfl, hb3⟩
        have hown3 := hown.below hb3
        have hb34 := below_trans hb hb3
        go_wp2_with fail
        refine ⟨?rel, ?measure⟩
        case rel => exact ⟨k + 1, by omega, by go_num, by rw [Hsn.out]; exact hown3, hb34⟩
        case measure => first | (simp [intOf]; done) | (simp [intOf]; omega)
      · rw [hP, if_pos rfl] at hsn
        rw [hP] at hJ
        have HJ := Lib.hid hJ; have Hsn := Lib.hid hsn
        clear hJ hsn hP
        go_wp2_with fail
        refine HJ.out.mono ?_
        rintro e w3 ⟨rfl, hb3⟩
        have hown3 := hown.below hb3
        have hb34 := below_trans hb hb3
        have hBs := hb34.size
        have y0 := HY.out w3 (below_trans hwr hb3)
        go_wp2_with (at_builtin; refine wpList_append1 (enc := encI) (size := 1) (B := W2.heap.size) rfl (.tmp 25) (.tmp 31) _ rfl 3 iI _ 8 Tryz.underlying30 hiI hzI hkI hbI rfl (by decide) rfl hown3 x.id _ rfl lenI oneI _ rfl rfl (by omega) (by omega) hBs ?_; intro v' w7 hown' hgrow hat)
        refine ⟨?rel, ?measure⟩
        case rel => exact ⟨k + 1, by omega, by go_num, by rw [Hsn.out]; exact hown', hb34.trans (below_append hown3 hgrow hBs)⟩
        case measure => first | (simp [intOf]; done) | (simp [intOf]; omega)
    · have ek : k = l.length := by omega
      subst ek
      have HO := Lib.hid hown
      clear hown hc
      go_wp2_with fail
      refine bodyPost_ret (v := .tuple #[u6, .int .i64 0]) (by simp [results, Tryz.results17, go_sem]) rfl ⟨_, by rw [HE.out], ?_, below_trans hw2 hb⟩
      rw [choR, if_pos HE.out]
      exact HO.out.slOf
set_option maxHeartbeats 8000000 in
set_option maxRecDepth 100000 in
theorem Forest17_ok (v : Value) (l : List Spec) (w : World) (h : Specs w v l) (hl : l.length ≤ 100) :
    Calls Tryz.prog 18 #[v] w fun e w' => ∃ u, e = .returned (.tuple #[u, .int .i64 (ofE l)]) ∧ Ints w' u (choR pickF l) ∧ Below w.heap.size w w' := by
  have h0 := h
  obtain ⟨A, c, rfl, _, _, hc⟩ := h.cells
  go_enter Tryz.func18, Tryz.ntmps18
  go_wp2_with fail
  refine (Of_ok13 _ l _ h0 (by omega)).mono ?_
  rintro e w1 ⟨ug, rfl, ⟨v1, v2, v3, rfl, ⟨A1, c1, rfl, _⟩, ⟨A2, c2, rfl, _⟩, ⟨A3, c3, rfl, _⟩⟩, hb1⟩
  obtain ⟨W1, W2, hW1, hW2, HzW2, hkW1, hkW2, hbW2, hltW2⟩ := fresh w1 [.slice none 0 0, .slice none 0 0, .slice none 0 0] [.slice A1 (ofG l).obv.length c1, .slice A2 (ofG l).rev.length c2, .slice A3 (ofG l).links.length c3] 55 rfl
  have hsW2 : ((W1.setCell ⟨w1.heap.size, 0, none⟩ (.slice A1 (ofG l).obv.length c1)).setCell ⟨w1.heap.size, 1, none⟩ (.slice A2 (ofG l).rev.length c2)).setCell ⟨w1.heap.size, 2, none⟩ (.slice A3 (ofG l).links.length c3) = W2 := hW2
  clear hW2
  obtain ⟨⟨z0, z1, z2⟩, f0, f1, f2⟩ := cells3 hkW1
  clear hkW1 hkW2
  have hw2 := below_trans hb1 hbW2
  by_cases hE : ofE l = 0
  case neg =>
    have hd : (ofE l != 0) = true := by simpa using hE
    have HE := Lib.hid hE; clear hE hc
    go_wp2_with fail
    refine bodyPost_ret (v := .tuple #[.slice none 0 0, .int .i64 (ofE l)]) (by simp [results, Tryz.results18, go_sem]) rfl ⟨_, rfl, ?_, hw2⟩
    rw [choR, if_neg HE.out]
    exact (own_nil _ _ 0 0 _).slOf
  have hd : (ofE l != 0) = false := by simp [hE]
  have HE := Lib.hid hE
  have hl64 : l.length ≤ 64 := (checkE_zero (ofE_zero hE).1).1
  obtain ⟨iI, hiI, hzI, hkI, hbI⟩ := info_parts infoI
  clear hE
  go_wp2_with fail
  clear z0 z1 z2 f0 f1 f2 hsW2 hW1
  go_loopw [6, 7] (fun u i wr => ∃ k : Nat, k ≤ l.length ∧ i = .int .i64 k ∧ OwnI W2.heap.size wr u (choT pickF l k) ∧ Below W2.heap.size W2 wr) (fun _ i _ => l.length - (intOf i).toNat)
  case atStart => exact ⟨0, Nat.zero_le _, rfl, own_nil _ _ _ _ _, Below.refl _ _⟩
  case round =>
    obtain ⟨k, hk, rfl, hown, hb⟩ := hrel
    by_cases hlt : k < l.length
    · obtain ⟨bo, o, rfl, _, hcb⟩ := hc k hlt
      obtain ⟨x, hx⟩ := get_of_lt hlt
      have hwr := below_trans hw2 hb
      have HY := Lib.hid (fun w' hb' => (hcb w' hb' k x hx).1)
      obtain ⟨y0, y1, y2, y3, y4, y5, y6⟩ := hcb wr hwr k x hx
      have hsn := choT_snoc pickF hx
      have hof := of_take HE.out k
      have hj := (join_of hof (dA x) (dB x))
      have haj := apart_join (l.take k) x
      have Hv := Lib.hid (of_valid hof)
      have hll : (choT pickF l k).length ≤ 64 := by have := choT_len pickF l k; omega
      have hk1 : (k : Int) < (l.length : Int) := by omega
      have hk0 : (0 : Int) ≤ (k : Int) := by omega
      rw [show pickF (apartG x (growL (l.take k))) (thereG x (growL (l.take k))) = apartG x (growL (l.take k)) from rfl, ← haj, ← hj] at hsn
      generalize hJ : joinB (edgesG (ofG (l.take k))) (dA x) (dB x) = J at hsn
      have HJ := Lib.hid hJ
      clear hc hcb hx hof hj haj hJ
      go_wp2_with fail
      refine (dies17_ok x _).mono ?_
      rintro e w3 ⟨rfl, hb3⟩
      obtain ⟨V1, V2, V, hV1, hV2, hV, HzV, hltV, kz1, kz2, k1, k2, hbV, hltV'⟩ := fresh2 w3 [.int .i64 0, .int .i64 0] [.int .i64 (dA x).side, .int .i64 (dA x).num] [.int .i64 0, .int .i64 0] [.int .i64 (dB x).side, .int .i64 (dB x).num] 24 rfl rfl
      have hsV : (((V2.setCell ⟨w3.heap.size, 0, none⟩ (.int .i64 (dA x).side)).setCell ⟨w3.heap.size, 1, none⟩ (.int .i64 (dA x).num)).setCell ⟨V1.heap.size, 0, none⟩ (.int .i64 (dB x).side)).setCell ⟨V1.heap.size, 1, none⟩ (.int .i64 (dB x).num) = V := hV
      clear hV
      obtain ⟨⟨z0, z1⟩, f0, f1⟩ := cells2 kz1
      obtain ⟨⟨z2, z3⟩, f2, f3⟩ := cells2 kz2
      obtain ⟨⟨p0, p1⟩, _, _⟩ := cells2 k1
      obtain ⟨⟨q0, q1⟩, _, _⟩ := cells2 k2
      have hb3V := below_trans hb3 hbV
      have hownV := hown.below hb3V
      have hbWV := below_trans hb hb3V
      clear kz1 kz2 k1 k2 y0 y1 y2 y3 y4 y5 y6 hown
      go_wp2_with fail
      clear z0 z1 z2 z3 f0 f1 f2 f3 hsV hV1 hV2
      have hba : Below V.heap.size V V.drew := (Below.refl _ _).drew
      obtain ⟨wa, hwa⟩ : ∃ W, V.drew = W := ⟨_, rfl⟩
      rw [hwa] at hba
      have hHeld : (fun w' : World => w'.cell? ⟨w3.heap.size, 0, none⟩ = some (.int .i64 (dA x).side) ∧ w'.cell? ⟨w3.heap.size, 1, none⟩ = some (.int .i64 (dA x).num) ∧ w'.cell? ⟨V1.heap.size, 0, none⟩ = some (.int .i64 (dB x).side) ∧ w'.cell? ⟨V1.heap.size, 1, none⟩ = some (.int .i64 (dB x).num)) wa := ⟨cell_later hba p0, cell_later hba p1, cell_later hba q0, cell_later hba q1⟩
      have HH := Lib.hid hHeld
      have hbWa := below_trans hbWV hba
      refine wp_region_S 5 (fun w' => w'.cell? ⟨w3.heap.size, 0, none⟩ = some (.int .i64 (dA x).side) ∧ w'.cell? ⟨w3.heap.size, 1, none⟩ = some (.int .i64 (dA x).num) ∧ w'.cell? ⟨V1.heap.size, 0, none⟩ = some (.int .i64 (dB x).side) ∧ w'.cell? ⟨V1.heap.size, 1, none⟩ = some (.int .i64 (dB x).num)) (by kernel_rfl) (by decide) ?_
      rw [hwa]
      clear hwa p0 p1 q0 q1
      refine wpAnyS_takeD 0 (some 32) (.slice (some ⟨bo, o, none⟩) l.length c) (by rfl) (by rfl) (by kernel_rfl) (by exact fun _ _ _ h => h) (by rfl) (fun w' hS => by go_simp) hHeld ?_
      simp only [Act.put, List.setIfInBounds_toArray, List.set_cons_succ, List.set_cons_zero]
      refine wpAnyS_takeD 1 (some 33) (.int .i64 (k : Int)) (by rfl) (by rfl) (by kernel_rfl) (by exact fun _ _ _ h => h) (by rfl) (fun w' hS => by go_simp) hHeld ?_
      simp only [Act.put, List.setIfInBounds_toArray, List.set_cons_succ, List.set_cons_zero]
      refine wpAnyS_takeD 3 (some 35) (vlD (dA x)) (by rfl) (by rfl) (by kernel_rfl) (by exact fun _ _ _ h => h) (by rfl) (fun w' hS => by (obtain ⟨x0, x1, x2, x3⟩ := hS; go_simp)) hHeld ?_
      simp only [Act.put, List.setIfInBounds_toArray, List.set_cons_succ, List.set_cons_zero]
      refine wpAnyS_takeD 4 (some 36) (vlD (dB x)) (by rfl) (by rfl) (by kernel_rfl) (by exact fun _ _ _ h => h) (by rfl) (fun w' hS => by (obtain ⟨x0, x1, x2, x3⟩ := hS; go_simp)) hHeld ?_
      simp only [Act.put, List.setIfInBounds_toArray, List.set_cons_succ, List.set_cons_zero]
      clear hHeld
      refine wpAnyS_one 2 (by kernel_rfl) (by rfl) (by decide) (fun K hK => ?_)
      have HK := Lib.hid hK; clear hK
      rw [if_pos (by rfl)]
      go_simp
      refine (after17_ok _ l k wa (h0.below (below_trans hw2 hbWa)) (by omega) hl).mono ?_
      rintro e w4 ⟨u, rfl, hg, hb4⟩
      refine HK.out _ _ ⟨cell_later hb4 HH.out.1, cell_later hb4 HH.out.2.1, cell_later hb4 HH.out.2.2.1, cell_later hb4 HH.out.2.2.2⟩ ?_
      clear HK HH
      refine (show tailOf _ _ _ _ _ _ _ _ from ⟨by kernel_rfl, ?_⟩)
      simp only [List.drop_succ_cons, List.drop_zero]
      have hown4 := (hownV.below hba).below hb4
      have hbW4 := below_trans hbWa hb4
      have HJc := Joined14_ok _ (ofG (l.take k)) Hv.out (dA x) (dB x) w4 hg
      rw [HJ.out] at HJc
      have HJc' := Lib.hid HJc
      clear HJc hownV hg
      cases J
      · rw [if_pos (by simp)] at hsn
        have Hsn := Lib.hid hsn
        clear hsn
        go_wp2_with fail
        refine HJc'.out.mono ?_
        rintro e w5 ⟨rfl, hb5⟩
        have hown5 := hown4.below hb5
        have hbW5 := below_trans hbW4 hb5
        have hBs := hbW5.size
        have y0 := HY.out w5 (below_trans hw2 hbW5)
        clear HJc'
        go_wp2_with (at_builtin; refine wpList_append1 (enc := encI) (size := 1) (B := W2.heap.size) rfl (.tmp 39) (.tmp 45) _ rfl 3 iI _ 8 Tryz.underlying30 hiI hzI hkI hbI rfl (by decide) rfl hown5 x.id _ rfl lenI oneI _ rfl rfl (by omega) (by omega) hBs ?_; intro v' w7 hown' hgrow hat)
        refine ⟨?rel, ?measure⟩
        case rel => exact ⟨k + 1, by omega, by go_num, by rw [Hsn.out]; exact hown', hbW5.trans (below_append hown5 hgrow hBs)⟩
        case measure => first | (simp [intOf]; done) | (simp [intOf]; omega)
      · rw [if_neg (by simp), List.append_nil] at hsn
        have Hsn := Lib.hid hsn
        clear hsn
        go_wp2_with fail
        refine HJc'.out.mono ?_
        rintro e w5 ⟨rfl, hb5⟩
        have hown5 := hown4.below hb5
        have hbW5 := below_trans hbW4 hb5
        clear HJc'
        go_wp2_with fail
        refine ⟨?rel, ?measure⟩
        case rel => exact ⟨k + 1, by omega, by go_num, by rw [Hsn.out]; exact hown5, hbW5⟩
        case measure => first | (simp [intOf]; done) | (simp [intOf]; omega)
    · have ek : k = l.length := by omega
      subst ek
      have HO := Lib.hid hown
      clear hown hc
      go_wp2_with fail
      refine bodyPost_ret (v := .tuple #[u6, .int .i64 0]) (by simp [results, Tryz.results18, go_sem]) rfl ⟨_, by rw [HE.out], ?_, below_trans hw2 hb⟩
      rw [choR, if_pos HE.out]
      exact HO.out.slOf
end Go.Proofs.YtcpobcfncmcakaaGreat
