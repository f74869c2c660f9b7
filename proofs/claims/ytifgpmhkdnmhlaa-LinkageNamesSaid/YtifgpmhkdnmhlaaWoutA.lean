/- Without: the reference's and the program's. Condition: the argument reads as a graph. -/
import Derived.Test.YtifgpmhkdnmhlaaLinkD
import Derived.Test.YtifgpmhkdnmhlaaLinkI
import Derived.Test.YtifgpmhkdnmhlaaDelL
import Derived.Test.YtifgpmhkdnmhlaaPairP
import Derived.Test.YtifgpmhkdnmhlaaPartA
namespace Go.Proofs.Ytifgpmhkdnmhlaa
open Go.RowKit Go.Shelf

/-- The links but one. -/
def cutL (ls : List Link) (id : Int) : List Link := ls.filter fun x => !(x.id == id)
def woutE (g : Graph) (id : Int) : Int := if graphB g = true then (if (cutL g.links id).length = g.links.length then 7 else 0) else 1
def woutG (g : Graph) (id : Int) : Graph := if woutE g id = 0 then madeG (cutL g.links id) else emptyG
theorem cutL_len (ls : List Link) (id : Int) : (cutL ls id).length ≤ ls.length := List.length_filter_le _ _
theorem cutL_snoc {ls : List Link} {k : Nat} {x : Link} (hx : ls[k]? = some x) (id : Int) : cutL (ls.take (k + 1)) id = cutL (ls.take k) id ++ (if (x.id == id) = true then [] else [x]) := by
  unfold cutL
  rw [take_snoc' hx, List.filter_append]
  cases h : (x.id == id) <;> simp [h]
theorem emptyAt (w : World) : GraphAt w (.agg #[.slice none 0 0, .slice none 0 0, .slice none 0 0]) emptyG := ⟨_, _, _, rfl, (own_nil _ _ 0 0 _).slOf, (own_nil _ _ 0 0 _).slOf, (own_nil _ _ 0 0 _).slOf⟩
/-- Links in the order of their Ids: what the reference makes of them is what the program makes. -/
theorem madeG_asc {ls : List Link} (h : (ls.map Link.id).Pairwise (· < ·)) : madeG ls = ⟨withs (ls.map Link.obv), withs (ls.map Link.rev), ls⟩ := by
  have ha : ls.Pairwise (fun x y => x.id < y.id) := List.pairwise_map.1 h
  unfold madeG
  rw [← inss_unique (h.imp fun h e => by omega) ha fun n => Iff.rfl]
theorem graphB_ids {g : Graph} (h : graphB g = true) : (g.links.map Link.id).Pairwise (· < ·) := ascB_asc ((graphB_iff g).1 h).ids

set_option maxHeartbeats 4000000 in
set_option maxRecDepth 100000 in
theorem Without_ok13 (v : Value) (g : Graph) (id : Int) (w : World) (h : GraphAt w v g) :
    Calls Try.prog 39 #[v, .int .i64 id] w fun e w' => ∃ u, e = .returned (.tuple #[u, .int .i64 (woutE g id)]) ∧ GraphAt w' u (woutG g id) ∧ Below w.heap.size w w' := by
  have h0 := h
  obtain ⟨v1, v2, v3, rfl, ho, hr, hl⟩ := h
  obtain ⟨A1, c1, rfl, _, _, _⟩ := ho.cells
  obtain ⟨A2, c2, rfl, _, _, _⟩ := hr.cells
  obtain ⟨A3, c3, rfl, l1, l2, hcl⟩ := hl.cells
  obtain ⟨W0, hW0, Hz0, hwW0, hlt0, hc0⟩ := boxed w #[.slice A1 g.obv.length c1, .slice A2 g.rev.length c2, .slice A3 g.links.length c3] 27
  obtain ⟨W, hW, Hz, hWW, hlt, _⟩ := boxed W0 #[.slice none 0 0, .slice none 0 0, .slice none 0 0] 27
  have hwW := below_trans hwW0 hWW
  have a0 := cell_later hWW (hc0 0 _ rfl); have a1 := cell_later hWW (hc0 1 _ rfl); have a2 := cell_later hWW (hc0 2 _ rfl)
  have hWg : W.heap[w.heap.size + 1]? = some (.cells #[.slice none 0 0, .slice none 0 0, .slice none 0 0] 27 (0, 0)) := by rw [← Hz0.out, ← hW]; exact heap_alloc_new _ _
  have HWg := Lib.hid hWg
  clear hc0 hWg
  have hW' : (w.alloc (.cells #[.slice A1 g.obv.length c1, .slice A2 g.rev.length c2, .slice A3 g.links.length c3] 27)).alloc (.cells #[.slice none 0 0, .slice none 0 0, .slice none 0 0] 27) = W := by rw [hW0, hW]
  clear hW0 hW
  go_enter Try.func39, Try.ntmps39
  go_wp2_with fail
  have hV := Valid_ok13 _ _ _ (h0.below hwW)
  have hwlt := heap_lt HWg.out
  cases hg : graphB g
  · rw [hg] at hV
    refine hV.mono ?_
    rintro e w1 ⟨rfl, hb1⟩
    clear hW' hV
    have hw1 := below_trans hwW hb1
    have Hr := Lib.hid (heap_below HWg.out hb1 hwlt)
    have hE : woutE g id = 1 := by simp [woutE, hg]
    have hG : woutG g id = emptyG := by simp [woutG, hE]
    have HE := Lib.hid hE; have HG := Lib.hid hG; clear hE hG hg
    obtain ⟨r0, r1, r2, q0, q1, q2⟩ := blk3 Hr.out
    go_wp2_with fail
    refine bodyPost_ret (results_cell_tmp_row rfl _ _ (w.heap.size + 1) 27 #[.slice none 0 0, .slice none 0 0, .slice none 0 0] (0, 0) _ (by simp) (heap_set3 Hr.out) Try.underlying27 rfl infoG) rfl
      ⟨_, ret_pair (HE.out.symm), by rw [HG.out]; exact emptyAt _, below_set3 hw1 (by omega) _ _ _⟩
  rw [hg] at hV
  refine hV.mono ?_
  rintro e w1 ⟨rfl, hb1⟩
  clear hW' hV
  replace a0 := cell_later hb1 a0; replace a1 := cell_later hb1 a1; replace a2 := cell_later hb1 a2
  have hw1 := below_trans hwW hb1
  have Hr1 := Lib.hid (heap_below HWg.out hb1 hwlt)
  have hw1lt := heap_lt Hr1.out
  have Hg := Lib.hid hg
  have hll := graphB_links hg
  clear hg a0 a1
  obtain ⟨iL, hiL, hzL, hkL, hbL⟩ := info_parts infoL
  go_wp2_with fail
  go_loopw [6, 7] (fun u i wr => ∃ k : Nat, k ≤ g.links.length ∧ i = .int .i64 k ∧ OwnL w1.heap.size wr u (cutL (g.links.take k) id) ∧ Below w1.heap.size w1 wr) (fun _ i _ => g.links.length - (intOf i).toNat)
  case atStart => exact ⟨0, Nat.zero_le _, rfl, own_nil _ _ _ _ _, Below.refl _ _⟩
  case round =>
    obtain ⟨k, hk, rfl, hown, hb⟩ := hrel
    have d2 := cell_later hb a2
    by_cases hlt' : k < g.links.length
    · obtain ⟨b, o, rfl, _, hc⟩ := hcl k hlt'
      obtain ⟨x, hx⟩ := get_of_lt hlt'
      obtain ⟨e0, e1, e2⟩ := hc wr (hw1.trans (hb.mono hw1.size)) k x hx
      have hsn := cutL_snoc hx id
      have hcl2 := cutL_len (g.links.take k) id
      rw [List.length_take] at hcl2
      have hBs := hb.size
      clear hx hc
      have hl1 : (k : Int) < (g.links.length : Int) := by omega
      have hl0 : (0 : Int) ≤ (k : Int) := by omega
      by_cases ht : x.id = id
      · have hd : (x.id != id) = false := by simp [ht]
        rw [if_pos (by simp [ht]), List.append_nil] at hsn
        have Hsn := Lib.hid hsn; clear hsn ht
        go_wp2_with fail
        refine ⟨?rel, ?measure⟩
        case rel => exact ⟨k + 1, by omega, by go_num, by rw [Hsn.out]; exact hown, hb⟩
        case measure => first | (simp [intOf]; done) | (simp [intOf]; omega)
      · have hd : (x.id != id) = true := by simp [ht]
        rw [if_neg (by simp [ht])] at hsn
        have Hsn := Lib.hid hsn; clear hsn ht
        go_wp2_with (at_builtin; refine wpList_append1 (enc := encL) (size := 3) (B := w1.heap.size) rfl (.tmp 27) (.tmp 33) _ rfl 67 iL _ 24 Try.underlying25 hiL hzL hkL hbL rfl (by decide) rfl hown x _ rfl lenL oneL _ rfl rfl (by omega) (by omega) hBs ?_; intro v' w2 hown' hgrow hat)
        refine ⟨?rel, ?measure⟩
        case rel => exact ⟨k + 1, by omega, by go_num, by rw [Hsn.out]; exact hown', hb.trans (below_append hown hgrow hBs)⟩
        case measure => first | (simp [intOf]; done) | (simp [intOf]; omega)
    · have e1 : g.links.take k = g.links := List.take_of_length_le (by omega)
      rw [e1] at hown
      clear e1
      have hcl2 := cutL_len g.links id
      have hlen : (cutL g.links id).length ≤ 1048576 := by omega
      have Hr2 := Lib.hid (heap_below Hr1.out hb hw1lt)
      have hw2 := hw1.trans (hb.mono hw1.size)
      have hOL : ∃ A c, u6 = .slice A (cutL g.links id).length c := by
        obtain ⟨A, c, e, _⟩ := hown.slOf
        exact ⟨A, c, e⟩
      obtain ⟨Au, cu, rfl⟩ := hOL
      by_cases hq : (cutL g.links id).length = g.links.length
      · have hd : (((cutL g.links id).length : Int) == (g.links.length : Int)) = true := by simp; omega
        have hE : woutE g id = 7 := by simp [woutE, Hg.out, hq]
        have hG : woutG g id = emptyG := by simp [woutG, hE]
        have HE := Lib.hid hE; have HG := Lib.hid hG; clear hE hG hq
        obtain ⟨r0, r1, r2, q0, q1, q2⟩ := blk3 Hr2.out
        go_wp2_with fail
        refine bodyPost_ret (results_cell_tmp_row rfl _ _ (w.heap.size + 1) 27 #[.slice none 0 0, .slice none 0 0, .slice none 0 0] (0, 0) _ (by simp) (heap_set3 Hr2.out) Try.underlying27 rfl infoG) rfl
          ⟨_, ret_pair (HE.out.symm), by rw [HG.out]; exact emptyAt _, below_set3 hw2 (by omega) _ _ _⟩
      · have hd : (((cutL g.links id).length : Int) == (g.links.length : Int)) = false := by simp; omega
        have hE : woutE g id = 0 := by simp [woutE, Hg.out, hq]
        have hG : woutG g id = madeG (cutL g.links id) := by simp [woutG, hE]
        have HE := Lib.hid hE; have HG := Lib.hid hG; clear hE hG hq
        have Hown := Lib.hid hown; clear hown
        go_wp2_with fail
        refine (Made_ok _ _ _ Hown.out.slOf hlen).mono ?_
        rintro e w3 ⟨u, rfl, hG3, hb3⟩
        obtain ⟨x1, x2, x3, rfl, ⟨hg1, hg2, hg3⟩, hf1, hf2, hf3⟩ := hG3
        obtain ⟨B1, d1, rfl, _, _, _⟩ := hg1.cells
        obtain ⟨B2, d2', rfl, _, _, _⟩ := hg2.cells
        obtain ⟨B3, d3, rfl, _, _, _⟩ := hg3.cells
        generalize madeG (cutL g.links id) = G at *
        have Hr3 := Lib.hid (heap_below Hr2.out hb3 (heap_lt Hr2.out))
        have hwr := heap_lt Hr2.out
        obtain ⟨r0, r1, r2, q0, q1, q2⟩ := blk3 Hr3.out
        go_wp2_with fail
        refine bodyPost_ret (results_cell_tmp_row rfl _ _ (w.heap.size + 1) 27 #[.slice B1 G.obv.length d1, .slice B2 G.rev.length d2', .slice B3 G.links.length d3] (0, 0) _ (by simp) (heap_set3 Hr3.out) Try.underlying27 rfl infoG) rfl
          ⟨_, ret_pair (HE.out.symm), ?_, below_set3 (below_trans hw2 hb3) (by omega) _ _ _⟩
        rw [HG.out]
        exact ⟨_, _, _, rfl, hg1.set3 (hf1.ne hwr) _ _ _, hg2.set3 (hf2.ne hwr) _ _ _, hg3.set3 (hf3.ne hwr) _ _ _⟩

theorem cutId_ok (x : Link) (id : Int) (p : Nat) (w : World) (h : w.cell? ⟨p, 0, none⟩ = some (.int .i64 id)) :
    Calls Try.prog 66 #[valL x, .pointer (some ⟨p, 0, none⟩)] w fun e w' => e = .returned (.bool (x.id == id)) ∧ Below w.heap.size w w' := by
  obtain ⟨W, hW, Hz, hwW, hlt, hc0⟩ := boxed w #[.int .i64 x.id, .int .i64 x.obv, .int .i64 x.rev] 67
  have a0 := hc0 0 _ rfl
  have b0 := cell_later hwW h
  clear hc0
  go_enter Try.func66, Try.ntmps66
  go_wp2_with fail
  go_ret
  exact ⟨rfl, hwW⟩

set_option maxHeartbeats 4000000 in
set_option maxRecDepth 100000 in
theorem Without_ok (v : Value) (g : Graph) (id : Int) (w : World) (h : GraphAt w v g) :
    Calls Try.prog 38 #[v, .int .i64 id] w fun e w' => ∃ u, e = .returned (.tuple #[u, .int .i64 (woutE g id)]) ∧ GraphAt w' u (woutG g id) ∧ Below w.heap.size w w' := by
  have h0 := h
  obtain ⟨v1, v2, v3, rfl, ho, hr, hl⟩ := h
  obtain ⟨A1, c1, rfl, _, _, _⟩ := ho.cells
  obtain ⟨A2, c2, rfl, _, _, _⟩ := hr.cells
  obtain ⟨A3, c3, rfl, l1, l2, hcl⟩ := hl.cells
  obtain ⟨W0, hW0, Hz0, hwW0, hlt0, hc0⟩ := boxed w #[.slice A1 g.obv.length c1, .slice A2 g.rev.length c2, .slice A3 g.links.length c3] 27
  obtain ⟨W1, hW1, Hz1, hW01, hlt1, hc1⟩ := boxed W0 #[.int .i64 id] 3
  obtain ⟨W, hW, Hz, hWW, hlt, _⟩ := boxed W1 #[.slice none 0 0, .slice none 0 0, .slice none 0 0] 27
  have hwW := below_trans (below_trans hwW0 hW01) hWW
  have hW0W := below_trans hW01 hWW
  have a0 := cell_later hW0W (hc0 0 _ rfl); have a1 := cell_later hW0W (hc0 1 _ rfl); have a2 := cell_later hW0W (hc0 2 _ rfl)
  have b0 := cell_later hWW (hc1 0 _ rfl)
  rw [Hz0.out] at b0
  have hz1 : W1.heap.size = w.heap.size + 1 + 1 := by rw [Hz1.out, Hz0.out]
  have hWg : W.heap[w.heap.size + 1 + 1]? = some (.cells #[.slice none 0 0, .slice none 0 0, .slice none 0 0] 27 (0, 0)) := by rw [← hz1, ← hW]; exact heap_alloc_new _ _
  have HWg := Lib.hid hWg
  clear hc0 hc1 hWg hz1
  have hW' : ((w.alloc (.cells #[.slice A1 g.obv.length c1, .slice A2 g.rev.length c2, .slice A3 g.links.length c3] 27)).alloc (.cells #[.int .i64 id] 3)).alloc (.cells #[.slice none 0 0, .slice none 0 0, .slice none 0 0] 27) = W := by rw [hW0, hW1, hW]
  clear hW0 hW hW1
  go_enter Try.func38, Try.ntmps38
  go_wp2_with fail
  have hV := Valid_ok _ _ _ (h0.below hwW)
  have hwlt := heap_lt HWg.out
  cases hg : graphB g
  · rw [hg] at hV
    refine hV.mono ?_
    rintro e w1 ⟨rfl, hb1⟩
    clear hW' hV
    have hw1 := below_trans hwW hb1
    have Hr := Lib.hid (heap_below HWg.out hb1 hwlt)
    have hE : woutE g id = 1 := by simp [woutE, hg]
    have hG : woutG g id = emptyG := by simp [woutG, hE]
    have HE := Lib.hid hE; have HG := Lib.hid hG; clear hE hG hg
    obtain ⟨r0, r1, r2, q0, q1, q2⟩ := blk3 Hr.out
    go_wp2_with fail
    refine bodyPost_ret (results_cell_tmp_row rfl _ _ (w.heap.size + 1 + 1) 27 #[.slice none 0 0, .slice none 0 0, .slice none 0 0] (0, 0) _ (by simp) (heap_set3 Hr.out) Try.underlying27 rfl infoG) rfl
      ⟨_, ret_pair (HE.out.symm), by rw [HG.out]; exact emptyAt _, below_set3 hw1 (by omega) _ _ _⟩
  rw [hg] at hV
  refine hV.mono ?_
  rintro e w1 ⟨rfl, hb1⟩
  clear hW' hV
  replace a0 := cell_later hb1 a0; replace a1 := cell_later hb1 a1; replace a2 := cell_later hb1 a2; replace b0 := cell_later hb1 b0
  have hw1 := below_trans hwW hb1
  have Hr1 := Lib.hid (heap_below HWg.out hb1 hwlt)
  have hw1lt := heap_lt Hr1.out
  have Hg := Lib.hid hg
  have hll := graphB_links hg
  clear hg a0 a1
  go_wp2_with fail
  refine (cloneL_ok _ _ _ (hl.below hw1) (by omega)).mono ?_
  rintro e w2 ⟨x, rfl, hx, hb2⟩
  replace a2 := cell_later hb2 a2; replace b0 := cell_later hb2 b0
  have hw2 := below_trans hw1 hb2
  have hB2 : Below w1.heap.size w1 w2 := hb2
  have hlt2 : w.heap.size + 1 < w1.heap.size := by omega
  have b0' := b0
  have Hx := Lib.hid hx; clear hx
  go_wp2_with fail
  refine (deleteL_ok (fun x => x.id == id) (.pointer (some ⟨w.heap.size + 1, 0, none⟩)) w1.heap.size x g.links w2 Hx.out (by omega) hb2.size (fun y W hW => cutId_ok y id _ W ((hW.cell (p := ⟨w.heap.size + 1, 0, none⟩) hlt2).trans b0'))).mono ?_
  rintro e w3 ⟨y, rfl, hy, hb3⟩
  clear b0'
  have hw3 : Below w.heap.size w w3 := hw2.trans (hb3.mono (by have := hw1.size; omega))
  have hb13 : Below w1.heap.size w1 w3 := hb2.trans hb3
  have hcy : OwnL w1.heap.size w3 y (cutL g.links id) := hy
  have a2' := cell_later hb13 (show w1.cell? ⟨w.heap.size, 2, none⟩ = some (.slice A3 g.links.length c3) from (hb2.cell (p := ⟨w.heap.size, 2, none⟩) (show w.heap.size < w1.heap.size by omega)).symm.trans a2)
  have Hr3 := Lib.hid (heap_below Hr1.out hb13 hw1lt)
  have hcl2 := cutL_len g.links id
  have hlen : (cutL g.links id).length ≤ 1048576 := by omega
  clear hy Hx a2 b0
  have hOL : ∃ A c, y = .slice A (cutL g.links id).length c := by
    obtain ⟨A, c, e, _⟩ := hcy.slOf
    exact ⟨A, c, e⟩
  obtain ⟨Au, cu, rfl⟩ := hOL
  by_cases hq : (cutL g.links id).length = g.links.length
  · have hd : (((cutL g.links id).length : Int) == (g.links.length : Int)) = true := by simp; omega
    have hE : woutE g id = 7 := by simp [woutE, Hg.out, hq]
    have hG : woutG g id = emptyG := by simp [woutG, hE]
    have HE := Lib.hid hE; have HG := Lib.hid hG; clear hE hG hq
    obtain ⟨r0, r1, r2, q0, q1, q2⟩ := blk3 Hr3.out
    go_wp2_with fail
    refine bodyPost_ret (results_cell_tmp_row rfl _ _ (w.heap.size + 1 + 1) 27 #[.slice none 0 0, .slice none 0 0, .slice none 0 0] (0, 0) _ (by simp) (heap_set3 Hr3.out) Try.underlying27 rfl infoG) rfl
      ⟨_, ret_pair (HE.out.symm), by rw [HG.out]; exact emptyAt _, below_set3 hw3 (by omega) _ _ _⟩
  · have hd : (((cutL g.links id).length : Int) == (g.links.length : Int)) = false := by simp; omega
    have hE : woutE g id = 0 := by simp [woutE, Hg.out, hq]
    have hG : woutG g id = ⟨withs ((cutL g.links id).map Link.obv), withs ((cutL g.links id).map Link.rev), cutL g.links id⟩ := by
      simp only [woutG, hE, if_true]
      refine madeG_asc ?_
      have := graphB_ids Hg.out
      rw [List.pairwise_map] at this ⊢
      exact this.sublist List.filter_sublist
    have HE := Lib.hid hE; have HG := Lib.hid hG; clear hE hG hq
    have Hown := Lib.hid hcy; clear hcy
    go_wp2_with fail
    refine (with_ok _ _ _ Hown.out.slOf hlen).mono ?_
    rintro e w4 ⟨x1, x2, rfl, hg1, hg2, hf1, hf2, hb4⟩
    have hg3 := (show Links _ _ _ from Hown.out.slOf).below hb4
    obtain ⟨B1, d1, rfl, _, _, _⟩ := hg1.cells
    obtain ⟨B2, d2', rfl, _, _, _⟩ := hg2.cells
    generalize withs ((cutL g.links id).map Link.obv) = L1 at *
    generalize withs ((cutL g.links id).map Link.rev) = L2 at *
    have hf3 := Hown.out.fresh
    have Hr4 := Lib.hid (heap_below Hr3.out hb4 (heap_lt Hr3.out))
    have hwr := heap_lt Hr3.out
    obtain ⟨r0, r1, r2, q0, q1, q2⟩ := blk3 Hr4.out
    go_wp2_with fail
    refine bodyPost_ret (results_cell_tmp_row rfl _ _ (w.heap.size + 1 + 1) 27 #[.slice B1 L1.length d1, .slice B2 L2.length d2', .slice Au (cutL g.links id).length cu] (0, 0) _ (by simp) (heap_set3 Hr4.out) Try.underlying27 rfl infoG) rfl
      ⟨_, ret_pair (HE.out.symm), ?_, below_set3 (below_trans hw3 hb4) (by omega) _ _ _⟩
    rw [HG.out]
    exact ⟨_, _, _, rfl, hg1.set3 (hf1.ne hwr) _ _ _, hg2.set3 (hf2.ne hwr) _ _ _, hg3.set3 (hf3.ne hw1lt) _ _ _⟩
end Go.Proofs.Ytifgpmhkdnmhlaa
