/- linkage.Of. Condition: the argument reads as a list of specimens. -/
import Derived.Test.YtikfffojeakjoaaGreatDoorLinkA
import Derived.Test.YtikfffojeakjoaaGreatDoorSpecA
import Derived.Test.YtikfffojeakjoaaGreatDoorRefA
namespace Go.Proofs.YtikfffojeakjoaaGreatDoor
open Go.RowKit Go.Shelf

theorem checkE_zero {l : List Spec} (h : checkE l = 0) : l.length ≤ 64 ∧ l.all specB = true ∧ (l.map Spec.id).Nodup := by
  unfold checkE at h
  split at h
  · cases h
  · split at h
    · split at h
      · exact ⟨by omega, by assumption, by assumption⟩
      · cases h
    · cases h
theorem byId_links {l ys : List Spec} (hE : checkE l = 0) (hb : ById l ys) : madeG (l.map linkOf) = ⟨withs ((ys.map linkOf).map Link.obv), withs ((ys.map linkOf).map Link.rev), ys.map linkOf⟩ := by
  obtain ⟨hp, hs⟩ := hb
  have hm : ∀ n, n ∈ ys.map linkOf ↔ n ∈ l.map linkOf := fun n => (hp.map linkOf).mem_iff
  have hd : ((l.map linkOf).map Link.id).Nodup := by
    rw [List.map_map]
    exact (checkE_zero hE).2.2
  have hd2 : (ys.map Spec.id).Nodup := (hp.map Spec.id).nodup_iff.2 (checkE_zero hE).2.2
  have ha : (ys.map linkOf).Pairwise (fun x y => x.id < y.id) := by
    rw [List.pairwise_map]
    unfold List.Nodup at hd2
    rw [List.pairwise_map] at hd2
    refine (hs.and hd2).imp fun h => ?_
    obtain ⟨h1, h2⟩ := h
    simp only [linkOf]
    omega
  unfold madeG
  rw [inss_unique hd ha hm]
  have e1 : withs ((inss (l.map linkOf)).map Link.obv) = withs ((l.map linkOf).map Link.obv) := withs_congr fun n => by
    simp only [List.mem_map]
    exact ⟨fun ⟨a, h, e⟩ => ⟨a, (inss_mem hd a).1 h |> List.mem_map.1, e⟩, fun ⟨a, h, e⟩ => ⟨a, (inss_mem hd a).2 (List.mem_map.2 h), e⟩⟩
  have e2 : withs ((inss (l.map linkOf)).map Link.rev) = withs ((l.map linkOf).map Link.rev) := withs_congr fun n => by
    simp only [List.mem_map]
    exact ⟨fun ⟨a, h, e⟩ => ⟨a, (inss_mem hd a).1 h |> List.mem_map.1, e⟩, fun ⟨a, h, e⟩ => ⟨a, (inss_mem hd a).2 (List.mem_map.2 h), e⟩⟩
  rw [e1, e2]

set_option maxHeartbeats 4000000 in
theorem Of_ok (v : Value) (l : List Spec) (w : World) (h : Specs w v l) :
    Calls Tryz.prog 21 #[v] w fun e w' => ∃ u, e = .returned (.tuple #[u, .int .i64 (ofE l)]) ∧ GraphAt w' u (ofG l) ∧ Below w.heap.size w w' := by
  have h0 := h
  obtain ⟨A0, c0, rfl, _, _, _⟩ := h.cells
  clear h
  obtain ⟨W, hW, Hz, hwW, hlt0, hc0⟩ := boxed w #[.slice none 0 0, .slice none 0 0, .slice none 0 0] 68
  clear hc0
  have hWg : W.heap[w.heap.size]? = some (.cells #[.slice none 0 0, .slice none 0 0, .slice none 0 0] 68 (0, 0)) := by rw [← hW]; exact heap_alloc_new _ _
  have HWg := Lib.hid hWg; clear hWg
  go_enter Tryz.func21, Tryz.ntmps21
  go_wp2_with fail
  refine (Sort_ok _ _ _ (h0.below hwW)).mono ?_
  rintro e w1 ⟨u, ys, rfl, hys, hby, hb1⟩
  have Hr1 := Lib.hid (heap_below HWg.out hb1 hlt0)
  have hw1 := below_trans hwW hb1
  obtain ⟨A, c, rfl, h1, h2, hc⟩ := (show Specs _ _ _ from hys.slOf).cells
  clear hys
  by_cases hE : checkE l = 0
  case neg =>
    have hd : (checkE l != 0) = true := by simp [hE]
    have HE := Lib.hid hE; clear hE hc hby
    obtain ⟨r0, r1, r2, q0, q1, q2⟩ := blk3 Hr1.out
    go_wp2_with fail
    refine bodyPost_ret (results_cell_tmp_row rfl _ _ w.heap.size 68 #[.slice none 0 0, .slice none 0 0, .slice none 0 0] (0, 0) _ (by simp) (heap_set3 Hr1.out) Tryz.underlying68 rfl infoG) rfl
      ⟨_, ret_pair (by simp [ofE, HE.out]), ?_, below_set3 hw1 (Nat.le_refl _) _ _ _⟩
    simp only [ofG, ofE, HE.out, if_false]
    exact ⟨_, _, _, rfl, (own_nil _ _ 0 0 _).slOf, (own_nil _ _ 0 0 _).slOf, (own_nil _ _ 0 0 _).slOf⟩
  have hd : (checkE l != 0) = false := by simp [hE]
  have HE := Lib.hid hE; have Hby := Lib.hid (hby hE); clear hE hby
  have hyl : ys.length ≤ 64 := by have := Hby.out.1.length_eq; have := (checkE_zero HE.out).1; omega
  have hWs : w.heap.size < w1.heap.size := heap_lt Hr1.out
  obtain ⟨iL, hiL, hzL, hkL, hbL⟩ := info_parts infoL
  go_wp2_with fail
  go_loopw [6, 21] (fun u i wr => ∃ k : Nat, k ≤ ys.length ∧ i = .int .i64 k ∧ OwnL w1.heap.size wr u ((ys.take k).map linkOf) ∧ Below w1.heap.size w1 wr) (fun _ i _ => ys.length - (intOf i).toNat)
  case atStart => exact ⟨0, Nat.zero_le _, rfl, own_nil _ _ _ _ _, Below.refl _ _⟩
  case round =>
    obtain ⟨k, hk, rfl, hown, hb⟩ := hrel
    by_cases hlt : k < ys.length
    · obtain ⟨b, o, rfl, hbb, hc⟩ := hc k hlt
      obtain ⟨x, hx⟩ := get_of_lt hlt
      obtain ⟨c0, c1, c2, c3, c4, c5, c6⟩ := hc wr hb k x hx
      have Hx := Lib.hid hx; clear hx hc
      obtain ⟨W1, hW1, Hz1, hb2, hlt1, hc1⟩ := boxed wr #[.int .i64 x.id, .int .i64 x.obv, .int .i64 x.rev, .int .i64 x.os, .int .i64 x.rs, .int .i64 x.ax, .int .i64 x.wt] 27
      have m0 := hc1 0 _ rfl; have m1 := hc1 1 _ rfl; have m2 := hc1 2 _ rfl; have m3 := hc1 3 _ rfl; have m4 := hc1 4 _ rfl; have m5 := hc1 5 _ rfl; have m6 := hc1 6 _ rfl
      clear hc1
      have hq := hown.below hb2
      have hlen : ((ys.take k).map linkOf).length ≤ 64 := by simp; omega
      have hBs : w1.heap.size ≤ W1.heap.size := by have := hb.size; have := hb2.size; omega
      have hbW : Below w1.heap.size w1 W1 := below_trans hb hb2
      go_wp2_with (at_builtin; refine wpList_append1 (enc := encL) (size := 3) (B := w1.heap.size) rfl (.tmp 25) (.tmp 33) _ rfl 73 iL _ 24 Tryz.underlying66 hiL hzL hkL hbL rfl (by decide) rfl hq (linkOf x) _ rfl lenL oneL _ rfl rfl (by omega) (by omega) hBs ?_; intro v' w2 hown' hgrow hat)
      refine ⟨?rel, ?measure⟩
      case rel => exact ⟨k + 1, by omega, by go_num, by rw [map_take_snoc _ Hx.out]; exact hown', hbW.trans (below_append hq hgrow hBs)⟩
      case measure => simp [intOf]; omega
    · have e1 : ys.take k = ys := List.take_of_length_le (by omega)
      rw [e1] at hown
      clear e1 hc
      have Hr2 := Lib.hid (heap_below Hr1.out hb hWs)
      have hlen : (ys.map linkOf).length ≤ 1048576 := by simp; omega
      have hGe := byId_links HE.out Hby.out
      have hEf : ofE l = if full (madeG (l.map linkOf)) then 6 else 0 := by rw [ofE, if_pos HE.out]
      obtain ⟨G, hG⟩ : ∃ G, madeG (l.map linkOf) = G := ⟨_, rfl⟩
      rw [hG] at hEf hGe
      have hGf : full G = false → ofG l = G := fun h => by rw [ofG, hEf, h, hG]; rfl
      have hGt : full G = true → ofG l = emptyG := fun h => by rw [ofG, hEf, h]; rfl
      have HEf := Lib.hid hEf; have HGf := Lib.hid hGf; have HGt := Lib.hid hGt; clear hEf hGf hGt hG
      go_wp2_with fail
      refine (with_ok _ _ _ hown.slOf hlen).mono ?_
      rintro e w2 ⟨v1, v2, rfl, hg1, hg2, hf1, hf2, hb2⟩
      have hg3 : Links w2 u6 G.links := by rw [hGe]; exact (show Links _ _ _ from hown.slOf).below hb2
      have hf3 : Fresh w1.heap.size u6 := hown.fresh
      have hg1' : Ints w2 v1 G.obv := by rw [hGe]; exact hg1
      have hg2' : Ints w2 v2 G.rev := by rw [hGe]; exact hg2
      clear hg1 hg2 hGe hown
      obtain ⟨A1, cc1, rfl, _, _, _⟩ := hg1'.cells
      obtain ⟨A2, cc2, rfl, _, _, _⟩ := hg2'.cells
      obtain ⟨A3, cc3, rfl, _, _, _⟩ := hg3.cells
      obtain ⟨W3, hW3, Hz3, hb23, hlt3, hc3⟩ := boxed w2 #[.slice A1 G.obv.length cc1, .slice A2 G.rev.length cc2, .slice A3 G.links.length cc3] 68
      have s0 := hc3 0 _ rfl; have s1 := hc3 1 _ rfl; have s2 := hc3 2 _ rfl
      clear hc3
      have hwr := heap_lt Hr2.out
      have Hr3 := Lib.hid (heap_below (heap_below Hr2.out hb2 hwr) hb23 (heap_lt (heap_below Hr2.out hb2 hwr)))
      obtain ⟨r0, r1, r2, q0, q1, q2⟩ := blk3 Hr3.out
      have hww : Below w.heap.size w W3 := below_trans (below_trans (hw1.trans (hb.mono hw1.size)) hb2) hb23
      by_cases n1 : 32 < G.obv.length
      · have d1 : decide ((32 : Int) < (G.obv.length : Int)) = true := by simp; omega
        have hfu : full G = true := by simp [full, n1]
        have HE' : Hid (ofE l = 6) := by show _ = _; rw [HEf.out, hfu]; rfl
        have HG' : Hid (ofG l = emptyG) := HGt.out hfu
        clear n1 hfu
        go_wp2_with fail
        refine bodyPost_ret (results_cell_tmp_row rfl _ _ w.heap.size 68 #[.slice none 0 0, .slice none 0 0, .slice none 0 0] (0, 0) _ (by simp) (heap_set3 Hr3.out) Tryz.underlying68 rfl infoG) rfl
          ⟨_, ret_pair HE'.out.symm, ?_, below_set3 hww (Nat.le_refl _) _ _ _⟩
        rw [HG'.out]
        exact ⟨_, _, _, rfl, (own_nil _ _ 0 0 _).slOf, (own_nil _ _ 0 0 _).slOf, (own_nil _ _ 0 0 _).slOf⟩
      have d1 : decide ((32 : Int) < (G.obv.length : Int)) = false := by simp; omega
      by_cases n2 : 32 < G.rev.length
      · have d2 : decide ((32 : Int) < (G.rev.length : Int)) = true := by simp; omega
        have hfu : full G = true := by simp [full, n2]
        have HE' : Hid (ofE l = 6) := by show _ = _; rw [HEf.out, hfu]; rfl
        have HG' : Hid (ofG l = emptyG) := HGt.out hfu
        clear n1 n2 hfu
        go_wp2_with fail
        refine bodyPost_ret (results_cell_tmp_row rfl _ _ w.heap.size 68 #[.slice none 0 0, .slice none 0 0, .slice none 0 0] (0, 0) _ (by simp) (heap_set3 Hr3.out) Tryz.underlying68 rfl infoG) rfl
          ⟨_, ret_pair HE'.out.symm, ?_, below_set3 hww (Nat.le_refl _) _ _ _⟩
        rw [HG'.out]
        exact ⟨_, _, _, rfl, (own_nil _ _ 0 0 _).slOf, (own_nil _ _ 0 0 _).slOf, (own_nil _ _ 0 0 _).slOf⟩
      have d2 : decide ((32 : Int) < (G.rev.length : Int)) = false := by simp; omega
      have hfu : full G = false := by simp [full]; omega
      have HE' : Hid (ofE l = 0) := by show _ = _; rw [HEf.out, hfu]; rfl
      have HG' : Hid (ofG l = G) := HGf.out hfu
      clear n1 n2 hfu
      go_wp2_with fail
      refine bodyPost_ret (results_cell_tmp_row rfl _ _ w.heap.size 68 #[.slice A1 G.obv.length cc1, .slice A2 G.rev.length cc2, .slice A3 G.links.length cc3] (0, 0) _ (by simp) (heap_set3 Hr3.out) Tryz.underlying68 rfl infoG) rfl
        ⟨_, ret_pair HE'.out.symm, ?_, below_set3 hww (Nat.le_refl _) _ _ _⟩
      rw [HG'.out]
      exact ⟨_, _, _, rfl, (hg1'.below hb23).set3 (hf1.ne hwr) _ _ _, (hg2'.below hb23).set3 (hf2.ne hwr) _ _ _, (hg3.below hb23).set3 (hf3.ne hWs) _ _ _⟩
end Go.Proofs.YtikfffojeakjoaaGreatDoor
