/- The reference's Renamed. Condition: the arguments read as a graph and lists of numbers. -/
import Derived.Test.YtifgpmhkdnmhlaaRenA
import Derived.Test.YtifgpmhkdnmhlaaTail
namespace Go.Proofs.Ytifgpmhkdnmhlaa
open Go.RowKit Go.Shelf

theorem place_of {xs : List Int} (hn : xs.Nodup) {i : Nat} {x : Int} (h : xs[i]? = some x) : placeI xs x = i := by
  refine place_hit h (fun hm => ?_) (by simp)
  obtain ⟨j, hj⟩ := List.mem_iff_getElem?.1 hm
  have hlt := lt_of_get hj
  rw [List.length_take] at hlt
  rw [List.getElem?_take_of_lt (by omega)] at hj
  obtain ⟨l1, e1⟩ := List.getElem?_eq_some_iff.1 hj
  obtain ⟨l2, e2⟩ := List.getElem?_eq_some_iff.1 h
  exact List.pairwise_iff_getElem.1 hn j i l1 l2 (by omega) (by rw [e1, e2])

set_option maxHeartbeats 4000000 in
set_option maxRecDepth 100000 in
theorem Renamed_ok13 (v u z : Value) (g : Graph) (o r : List Int) (w : World) (h : GraphAt w v g) (hu : Ints w u o) (hz : Ints w z r) :
    Calls Try.prog 31 #[v, u, z] w fun e w' => ∃ y, e = .returned (.tuple #[y, .int .i64 (renE g o r)]) ∧ GraphAt w' y (renG g o r) ∧ Below w.heap.size w w' := by
  have h0 := h
  obtain ⟨v1, v2, v3, rfl, ho, hr, hl⟩ := h
  obtain ⟨A1, c1, rfl, _, _, _⟩ := ho.cells
  obtain ⟨A2, c2, rfl, _, _, _⟩ := hr.cells
  obtain ⟨A3, c3, rfl, l1, l2, hcl⟩ := hl.cells
  obtain ⟨A4, c4, rfl, _, _, hco⟩ := hu.cells
  obtain ⟨A5, c5, rfl, _, _, hcr⟩ := hz.cells
  obtain ⟨W0, hW0, Hz0, hwW0, hlt0, hc0⟩ := boxed w #[.slice A1 g.obv.length c1, .slice A2 g.rev.length c2, .slice A3 g.links.length c3] 27
  obtain ⟨W, hW, Hz, hWW, hlt, _⟩ := boxed W0 #[.slice none 0 0, .slice none 0 0, .slice none 0 0] 27
  have hwW := below_trans hwW0 hWW
  have a0 := cell_later hWW (hc0 0 _ rfl); have a1 := cell_later hWW (hc0 1 _ rfl); have a2 := cell_later hWW (hc0 2 _ rfl)
  have hWg : W.heap[w.heap.size + 1]? = some (.cells #[.slice none 0 0, .slice none 0 0, .slice none 0 0] 27 (0, 0)) := by rw [← Hz0.out, ← hW]; exact heap_alloc_new _ _
  have HWg := Lib.hid hWg
  clear hc0 hWg
  have hW' : (w.alloc (.cells #[.slice A1 g.obv.length c1, .slice A2 g.rev.length c2, .slice A3 g.links.length c3] 27)).alloc (.cells #[.slice none 0 0, .slice none 0 0, .slice none 0 0] 27) = W := by rw [hW0, hW]
  clear hW0 hW
  have hwlt := heap_lt HWg.out
  have hV := Valid_ok13 _ _ _ (h0.below hwW)
  have HV := Lib.hid hV; clear hV
  go_enter Try.func31, Try.ntmps31
  go_wp2_with fail
  refine HV.out.mono ?_
  rintro e w1 ⟨rfl, hb1⟩
  clear hW' HV
  replace a0 := cell_later hb1 a0; replace a1 := cell_later hb1 a1; replace a2 := cell_later hb1 a2
  have hw1 := below_trans hwW hb1
  have Hr1 := Lib.hid (heap_below HWg.out hb1 hwlt)
  have hw1lt := heap_lt Hr1.out
  cases hg : graphB g
  · have hE : renE g o r = 1 := by simp [renE, renOK, hg]
    have hG : renG g o r = emptyG := by simp [renG, renOK, hg]
    have HE := Lib.hid hE; have HG := Lib.hid hG; clear hE hG hg
    obtain ⟨r0, r1, r2, q0, q1, q2⟩ := blk3 Hr1.out
    go_wp2_with fail
    refine bodyPost_ret (results_cell_tmp_row rfl _ _ (w.heap.size + 1) 27 #[.slice none 0 0, .slice none 0 0, .slice none 0 0] (0, 0) _ (by simp) (heap_set3 Hr1.out) Try.underlying27 rfl infoG) rfl
      ⟨_, ret_pair (HE.out.symm), by rw [HG.out]; exact emptyAt _, below_set3 hw1 (by omega) _ _ _⟩
  have hN := names_ok13 _ o g.obv.length _ (hu.below hw1)
  have HN := Lib.hid hN; clear hN
  go_wp2_with fail
  refine HN.out.mono ?_
  rintro e w2 ⟨rfl, hb2⟩
  clear HN
  replace a0 := cell_later hb2 a0; replace a1 := cell_later hb2 a1; replace a2 := cell_later hb2 a2
  have hw2 := below_trans hw1 hb2
  have Hr2 := Lib.hid (heap_below Hr1.out hb2 hw1lt)
  have hw2lt := heap_lt Hr2.out
  cases hn1 : namesB o g.obv.length
  · have hE : renE g o r = 1 := by simp [renE, renOK, hn1]
    have hG : renG g o r = emptyG := by simp [renG, renOK, hn1]
    have HE := Lib.hid hE; have HG := Lib.hid hG; clear hE hG hg hn1
    obtain ⟨r0, r1, r2, q0, q1, q2⟩ := blk3 Hr2.out
    go_wp2_with fail
    refine bodyPost_ret (results_cell_tmp_row rfl _ _ (w.heap.size + 1) 27 #[.slice none 0 0, .slice none 0 0, .slice none 0 0] (0, 0) _ (by simp) (heap_set3 Hr2.out) Try.underlying27 rfl infoG) rfl
      ⟨_, ret_pair (HE.out.symm), by rw [HG.out]; exact emptyAt _, below_set3 hw2 (by omega) _ _ _⟩
  have hN := names_ok13 _ r g.rev.length _ (hz.below hw2)
  have HN := Lib.hid hN; clear hN
  go_wp2_with fail
  refine HN.out.mono ?_
  rintro e w3 ⟨rfl, hb3⟩
  clear HN
  replace a0 := cell_later hb3 a0; replace a1 := cell_later hb3 a1; replace a2 := cell_later hb3 a2
  have hw3 := below_trans hw2 hb3
  have Hr3 := Lib.hid (heap_below Hr2.out hb3 hw2lt)
  have hw3lt := heap_lt Hr3.out
  cases hn2 : namesB r g.rev.length
  · have hE : renE g o r = 1 := by simp [renE, renOK, hn2]
    have hG : renG g o r = emptyG := by simp [renG, renOK, hn2]
    have HE := Lib.hid hE; have HG := Lib.hid hG; clear hE hG hg hn1 hn2
    obtain ⟨r0, r1, r2, q0, q1, q2⟩ := blk3 Hr3.out
    go_wp2_with fail
    refine bodyPost_ret (results_cell_tmp_row rfl _ _ (w.heap.size + 1) 27 #[.slice none 0 0, .slice none 0 0, .slice none 0 0] (0, 0) _ (by simp) (heap_set3 Hr3.out) Try.underlying27 rfl infoG) rfl
      ⟨_, ret_pair (HE.out.symm), by rw [HG.out]; exact emptyAt _, below_set3 hw3 (by omega) _ _ _⟩
  have hOK : renOK g o r = true := by simp [renOK, hg, hn1, hn2]
  have hE : renE g o r = 0 := by simp [renE, hOK]
  have hG : renG g o r = madeG (renL g o r) := by simp [renG, hOK]
  have hlo : o.length = g.obv.length := by simp only [namesB, Bool.and_eq_true, decide_eq_true_eq] at hn1; exact hn1.2
  have hlr : r.length = g.rev.length := by simp only [namesB, Bool.and_eq_true, decide_eq_true_eq] at hn2; exact hn2.2
  have hok := (graphB_iff g).1 hg
  have Hno := Lib.hid (nodup_of_asc (ascB_asc hok.ao)); have Hnr := Lib.hid (nodup_of_asc (ascB_asc hok.ar))
  have Hends := Lib.hid (graphB_ends hg)
  have HE := Lib.hid hE; have HG := Lib.hid hG; have Hlo := Lib.hid hlo; have Hlr := Lib.hid hlr
  have hll := hok.ll; have h32o := hok.lo; have h32r := hok.lr
  clear hE hG hn1 hn2 hg hOK hok hlo hlr
  obtain ⟨iL, hiL, hzL, hkL, hbL⟩ := info_parts infoL
  go_wp2_with fail
  go_loopw [8, 9] (fun u i wr => ∃ k : Nat, k ≤ g.links.length ∧ i = .int .i64 k ∧ OwnL w3.heap.size wr u ((g.links.take k).map (renLink g.obv o g.rev r)) ∧ Below w3.heap.size w3 wr) (fun _ i _ => g.links.length - (intOf i).toNat)
  case atStart => exact ⟨0, Nat.zero_le _, rfl, own_nil _ _ _ _ _, Below.refl _ _⟩
  case round =>
    obtain ⟨k, hk, rfl, hown, hb⟩ := hrel
    have e2' := cell_later hb a2
    by_cases hlt' : k < g.links.length
    · obtain ⟨b, of, rfl, _, hc⟩ := hcl k hlt'
      obtain ⟨x, hx⟩ := get_of_lt hlt'
      have hxm := List.mem_of_getElem? hx
      obtain ⟨i, hi⟩ := List.mem_iff_getElem?.1 (Hends.out.1 x hxm)
      obtain ⟨j, hj⟩ := List.mem_iff_getElem?.1 (Hends.out.2 x hxm)
      have hi' : i < o.length := by have := lt_of_get hi; have := Hlo.out; omega
      have hj' : j < r.length := by have := lt_of_get hj; have := Hlr.out; omega
      obtain ⟨b4, o4, rfl, _, hc4⟩ := hco i hi'
      obtain ⟨b5, o5, rfl, _, hc5⟩ := hcr j hj'
      obtain ⟨y, hy⟩ := get_of_lt hi'
      obtain ⟨t, ht⟩ := get_of_lt hj'
      have hwr := hw3.trans (hb.mono hw3.size)
      obtain ⟨e0, e1, e2⟩ := hc wr hwr k x hx
      have hpi := place_of Hno.out hi
      have hpj := place_of Hnr.out hj
      have hre : renLink g.obv o g.rev r x = ⟨x.id, y, t⟩ := by
        unfold renLink
        rw [renI_at Hlo.out Hno.out hi hy, renI_at Hlr.out Hnr.out hj ht]
      obtain ⟨W1, hW1⟩ : ∃ W, wr.alloc (.cells #[.int .i64 x.id, .int .i64 x.obv, .int .i64 x.rev] 67) = W := ⟨_, rfl⟩
      have hbx : Below wr.heap.size wr W1 := by rw [← hW1]; exact (Below.refl _ _).alloc (Nat.le_refl _) _
      have hHeld0 : Below w3.heap.size w3 W1.drew ∧ W1.drew.heap[wr.heap.size]? = some (.cells #[.int .i64 x.id, .int .i64 x.obv, .int .i64 x.rev] 67 (0, 0)) := ⟨(below_trans hb hbx).drew, by rw [← hW1]; exact heap_alloc_new _ _⟩
      have o10 : OwnL w3.heap.size W1.drew u8 ((g.links.take k).map (renLink g.obv o g.rev r)) := by rw [← hW1]; exact (hown.alloc _).drew
      have F0 := Lib.hid (fun (w' : World) (hS : Below w3.heap.size w3 w') => cell_later hS a0)
      have F1 := Lib.hid (fun (w' : World) (hS : Below w3.heap.size w3 w') => cell_later hS a1)
      have F4 := Lib.hid (fun (w' : World) (hS : Below w3.heap.size w3 w') => hc4 w' (hw3.trans (hS.mono hw3.size)) i y hy)
      have F5 := Lib.hid (fun (w' : World) (hS : Below w3.heap.size w3 w') => hc5 w' (hw3.trans (hS.mono hw3.size)) j t ht)
      have hP1 : ∀ W, (Below w3.heap.size w3 W ∧ W.heap[wr.heap.size]? = some (.cells #[.int .i64 x.id, .int .i64 x.obv, .int .i64 x.rev] 67 (0, 0))) → Calls Try.prog 61 #[.slice A1 g.obv.length c1, .int .i64 x.obv] W fun e w' => e = .returned (.int .i64 (placeI g.obv x.obv)) ∧ W = w' := fun W hW => place_ok _ g.obv x.obv W (ho.below (hw3.trans (hW.1.mono hw3.size)))
      have hP2 : ∀ W, (Below w3.heap.size w3 W ∧ W.heap[wr.heap.size]? = some (.cells #[.int .i64 x.id, .int .i64 x.obv, .int .i64 x.rev] 67 (0, 0))) → Calls Try.prog 61 #[.slice A2 g.rev.length c2, .int .i64 x.rev] W fun e w' => e = .returned (.int .i64 (placeI g.rev x.rev)) ∧ W = w' := fun W hW => place_ok _ g.rev x.rev W (hr.below (hw3.trans (hW.1.mono hw3.size)))
      rw [hpi] at hP1
      rw [hpj] at hP2
      have HP1 := Lib.hid hP1; have HP2 := Lib.hid hP2; have Hre := Lib.hid hre
      have Hx := Lib.hid hx
      clear hc4 hc5 hc hx hi hj hy ht hpi hpj hP1 hP2 hre hxm
      have hlen : ((g.links.take k).map (renLink g.obv o g.rev r)).length ≤ 64 := by simp; omega
      have i1 : (i : Int) < (o.length : Int) := by omega
      have i2 : (0 : Int) ≤ (i : Int) := by omega
      have i3 : (j : Int) < (r.length : Int) := by omega
      have i4 : (0 : Int) ≤ (j : Int) := by omega
      have hl1 : (k : Int) < (g.links.length : Int) := by omega
      have hl0 : (0 : Int) ≤ (k : Int) := by omega
      go_wp2_with fail
      refine wp_region_S 22 (fun w' => Below w3.heap.size w3 w' ∧ w'.heap[wr.heap.size]? = some (.cells #[.int .i64 x.id, .int .i64 x.obv, .int .i64 x.rev] 67 (0, 0))) (by kernel_rfl) (by decide) ?_
      obtain ⟨Wd, hWd⟩ : ∃ Wd, W1.drew = Wd := ⟨_, rfl⟩
      rw [hWd] at hHeld0 o10 ⊢
      have hHeld := hHeld0; have o1 := o10
      clear hWd hW1 hHeld0 o10 e0 e1 e2 e2'
      refine wpAnyS_take 0 u8 (by rfl) (by kernel_rfl) (by exact fun _ _ _ h => h) (by rfl) (fun w' hS => by go_simp) hHeld ?_
      simp only [Act.put]
      refine wpAnyS_take 1 (.pointer (some ⟨wr.heap.size, 0, none⟩)) (by rfl) (by kernel_rfl) (by exact fun _ _ _ h => h) (by rfl) (fun w' hS => by go_simp) hHeld ?_
      simp only [Act.put]
      refine wpAnyS_take 2 (.int .i64 x.id) (by rfl) (by kernel_rfl) (by exact fun _ _ _ h => h) (by rfl) (fun w' hS => by (have g0 := heap_cell (i := 0) hS.2; go_simp)) hHeld ?_
      simp only [Act.put]
      refine wpAnyS_take 3 (.slice (some ⟨b4, o4, none⟩) o.length c4) (by rfl) (by kernel_rfl) (by exact fun _ _ _ h => h) (by rfl) (fun w' hS => by go_simp) hHeld ?_
      simp only [Act.put]
      refine wpAnyS_take 4 (.pointer (some ⟨w.heap.size, 0, none⟩)) (by rfl) (by kernel_rfl) (by exact fun _ _ _ h => h) (by rfl) (fun w' hS => by go_simp) hHeld ?_
      simp only [Act.put]
      refine wpAnyS_take 5 (.slice A1 g.obv.length c1) (by rfl) (by kernel_rfl) (by exact fun _ _ _ h => h) (by rfl) (fun w' hS => by (have g0 := F0.out w' hS.1; go_simp)) hHeld ?_
      simp only [Act.put]
      refine wpAnyS_take 6 (.pointer (some ⟨wr.heap.size, 1, none⟩)) (by rfl) (by kernel_rfl) (by exact fun _ _ _ h => h) (by rfl) (fun w' hS => by go_simp) hHeld ?_
      simp only [Act.put]
      refine wpAnyS_take 7 (.int .i64 x.obv) (by rfl) (by kernel_rfl) (by exact fun _ _ _ h => h) (by rfl) (fun w' hS => by (have g0 := heap_cell (i := 1) hS.2; go_simp)) hHeld ?_
      simp only [Act.put]
      refine wpAnyS_take 11 (.slice (some ⟨b5, o5, none⟩) r.length c5) (by rfl) (by kernel_rfl) (by exact fun _ _ _ h => h) (by rfl) (fun w' hS => by go_simp) hHeld ?_
      simp only [Act.put]
      refine wpAnyS_take 12 (.pointer (some ⟨w.heap.size, 1, none⟩)) (by rfl) (by kernel_rfl) (by exact fun _ _ _ h => h) (by rfl) (fun w' hS => by go_simp) hHeld ?_
      simp only [Act.put]
      refine wpAnyS_take 13 (.slice A2 g.rev.length c2) (by rfl) (by kernel_rfl) (by exact fun _ _ _ h => h) (by rfl) (fun w' hS => by (have g0 := F1.out w' hS.1; go_simp)) hHeld ?_
      simp only [Act.put]
      refine wpAnyS_take 14 (.pointer (some ⟨wr.heap.size, 2, none⟩)) (by rfl) (by kernel_rfl) (by exact fun _ _ _ h => h) (by rfl) (fun w' hS => by go_simp) hHeld ?_
      simp only [Act.put]
      refine wpAnyS_take 15 (.int .i64 x.rev) (by rfl) (by kernel_rfl) (by exact fun _ _ _ h => h) (by rfl) (fun w' hS => by (have g0 := heap_cell (i := 2) hS.2; go_simp)) hHeld ?_
      simp only [Act.put]
      refine wpAnyS_one 8 (by kernel_rfl) (by rfl) (by decide) (fun K hK => ?_)
      have HK := Lib.hid hK; clear hK
      rw [if_pos (by rfl)]
      go_simp
      refine (HP1.out Wd hHeld).mono ?_
      rintro e w' ⟨rfl, rfl⟩
      refine HK.out _ _ hHeld ?_
      clear HK
      refine wpAnyS_take 9 (.pointer (some ⟨b4, o4 + i, none⟩)) (by rfl) (by kernel_rfl) (by exact fun _ _ _ h => h) (by rfl) (fun w' hS => by go_simp) hHeld ?_
      simp only [Act.put]
      refine wpAnyS_take 10 (.int .i64 y) (by rfl) (by kernel_rfl) (by exact fun _ _ _ h => h) (by rfl) (fun w' hS => by (have g0 := F4.out w' hS.1; go_simp)) hHeld ?_
      simp only [Act.put]
      refine wpAnyS_one 16 (by kernel_rfl) (by rfl) (by decide) (fun K hK => ?_)
      have HK := Lib.hid hK; clear hK
      rw [if_pos (by rfl)]
      go_simp
      refine (HP2.out Wd hHeld).mono ?_
      rintro e w' ⟨rfl, rfl⟩
      refine HK.out _ _ hHeld ?_
      clear HK
      refine wpAnyS_take 17 (.pointer (some ⟨b5, o5 + j, none⟩)) (by rfl) (by kernel_rfl) (by exact fun _ _ _ h => h) (by rfl) (fun w' hS => by go_simp) hHeld ?_
      simp only [Act.put]
      refine wpAnyS_take 18 (.int .i64 t) (by rfl) (by kernel_rfl) (by exact fun _ _ _ h => h) (by rfl) (fun w' hS => by (have g0 := F5.out w' hS.1; go_simp)) hHeld ?_
      simp only [Act.put]
      refine wpAnyS_take 19 (.agg #[.int .i64 x.id, .int .i64 y, .int .i64 t]) (by rfl) (by kernel_rfl) (by exact fun _ _ _ h => h) (by rfl) (fun w' hS => by go_simp) hHeld ?_
      simp only [Act.put]
      refine wpAnyS_one 20 (by kernel_rfl) (by rfl) (by decide) (fun K hK => ?_)
      have HK := Lib.hid hK; clear hK
      rw [if_pos (by rfl)]
      go_simp
      obtain ⟨Wa, hWa⟩ : ∃ W, World.alloc Wd (.cells #[.int .i64 x.id, .int .i64 y, .int .i64 t] 67) = W := ⟨_, rfl⟩
      rw [hWa]
      have bWa : Wa.heap[Wd.heap.size]? = some (.cells (encL ⟨x.id, y, t⟩).toArray 67 (0, 0)) := by rw [← hWa]; exact heap_alloc_new _ _
      have hda : Below Wd.heap.size Wd Wa := by rw [← hWa]; exact (Below.refl _ _).alloc (Nat.le_refl _) _
      have hHa : Below w3.heap.size w3 Wa ∧ Wa.heap[wr.heap.size]? = some (.cells #[.int .i64 x.id, .int .i64 x.obv, .int .i64 x.rev] 67 (0, 0)) := ⟨below_trans hHeld.1 hda, heap_below hHeld.2 hda (heap_lt hHeld.2)⟩
      have o1a := o1.below hda
      clear hWa
      refine HK.out _ _ hHa ?_
      clear HK
      refine wpAnyS_one 21 (by kernel_rfl) (by rfl) (by decide) (fun K hK => ?_)
      have HK := Lib.hid hK; clear hK
      refine step_append_sl (by rfl) (.tmp 43) (.tmp 63) _ (by rfl) iL _ 24 Try.underlying25 hiL hzL hkL hbL (by rfl) (by decide) oneL (by rfl) o1a _ 1 1 [⟨x.id, y, t⟩] (by rfl) (by rfl) (sl_one (by rfl) bWa) (by simp; omega) (by simp; omega) hHa.1.size ?_
      intro v1 Wb o1b hg1 hat1
      have hHb : Below w3.heap.size w3 Wb ∧ Wb.heap[wr.heap.size]? = some (.cells #[.int .i64 x.id, .int .i64 x.obv, .int .i64 x.rev] 67 (0, 0)) :=
        ⟨hHa.1.grown hg1 hHa.1.size (fun j e => (o1a.lt j e).1), (hg1.block _ (heap_lt hHa.2) (fun e => by have := (hown.lt _ e.symm).2; omega)).trans hHa.2⟩
      refine HK.out _ _ hHb ?_
      clear HK
      refine (show tailOf _ _ _ _ _ _ _ _ from ⟨by kernel_rfl, ?_⟩)
      simp only [List.drop_succ_cons, List.drop_zero]
      go_wp2
      refine ⟨?rel, ?measure⟩
      case rel => exact ⟨k + 1, by omega, by go_num, by rw [map_take_snoc _ Hx.out, Hre.out]; exact o1b, hHb.1⟩
      case measure => first | (simp [intOf]; done) | (simp [intOf]; omega)
    · have e1 : g.links.take k = g.links := List.take_of_length_le (by omega)
      rw [e1] at hown
      clear e1
      have hcy : OwnL w3.heap.size wr u8 (renL g o r) := hown
      have Hown := Lib.hid hcy; clear hown hcy
      have hlen : (renL g o r).length ≤ 1048576 := by simp [renL]; omega
      have hww := hw3.trans (hb.mono hw3.size)
      have Hr4 := Lib.hid (heap_below Hr3.out hb hw3lt)
      go_wp2_with fail
      refine (Made_ok _ _ _ Hown.out.slOf hlen).mono ?_
      rintro e w5 ⟨u, rfl, hG3, hb5⟩
      obtain ⟨x1, x2, x3, rfl, ⟨hg1, hg2, hg3⟩, hf1, hf2, hf3⟩ := hG3
      obtain ⟨B1, d1, rfl, _, _, _⟩ := hg1.cells
      obtain ⟨B2, d2', rfl, _, _, _⟩ := hg2.cells
      obtain ⟨B3, d3, rfl, _, _, _⟩ := hg3.cells
      generalize madeG (renL g o r) = G at *
      have Hr5 := Lib.hid (heap_below Hr4.out hb5 (heap_lt Hr4.out))
      have hwr := heap_lt Hr4.out
      obtain ⟨r0, r1, r2, q0, q1, q2⟩ := blk3 Hr5.out
      go_wp2_with fail
      refine bodyPost_ret (results_cell_tmp_row rfl _ _ (w.heap.size + 1) 27 #[.slice B1 G.obv.length d1, .slice B2 G.rev.length d2', .slice B3 G.links.length d3] (0, 0) _ (by simp) (heap_set3 Hr5.out) Try.underlying27 rfl infoG) rfl
        ⟨_, ret_pair (HE.out.symm), ?_, below_set3 (below_trans hww hb5) (by omega) _ _ _⟩
      rw [HG.out]
      exact ⟨_, _, _, rfl, hg1.set3 (hf1.ne hwr) _ _ _, hg2.set3 (hf2.ne hwr) _ _ _, hg3.set3 (hf3.ne hwr) _ _ _⟩
end Go.Proofs.Ytifgpmhkdnmhlaa
