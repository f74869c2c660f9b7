/- The reference of layer 13: Of. Condition: the argument reads as a list of specimens. -/
import Derived.Test.YtifgpmhkdnmhlaaRefC
namespace Go.Proofs.Ytifgpmhkdnmhlaa
open Go.RowKit

def linkOf (s : Spec) : Link := ⟨s.id, s.obv, s.rev⟩
def full (g : Graph) : Bool := decide (32 < g.obv.length) || decide (32 < g.rev.length)
/-- The error of the die graph of a corpus list, and the graph. -/
def ofE (l : List Spec) : Int := if checkE l = 0 then (if full (madeG (l.map linkOf)) then 6 else 0) else checkE l
def emptyG : Graph := ⟨[], [], []⟩
def ofG (l : List Spec) : Graph := if ofE l = 0 then madeG (l.map linkOf) else emptyG
theorem ret_pair {u : Value} {a b : Int} (h : a = b) : Ending.returned (.tuple #[u, .int .i64 a]) = .returned (.tuple #[u, .int .i64 b]) := by rw [h]

set_option maxHeartbeats 4000000 in
set_option maxRecDepth 100000 in
theorem Of_ok13 (v : Value) (l : List Spec) (w : World) (h : Specs w v l) (hn : l.length ≤ 1048576) :
    Calls Try.prog 14 #[v] w fun e w' => ∃ u, e = .returned (.tuple #[u, .int .i64 (ofE l)]) ∧ GraphAt w' u (ofG l) ∧ Below w.heap.size w w' := by
  have h0 := h
  obtain ⟨A, c, rfl, h1, h2, hc⟩ := h.cells
  obtain ⟨W, hW, Hz, hwW, hlt0, hc0⟩ := boxed w #[.slice none 0 0, .slice none 0 0, .slice none 0 0] 27
  clear hc0
  have hWg : W.heap[w.heap.size]? = some (.cells #[.slice none 0 0, .slice none 0 0, .slice none 0 0] 27 (0, 0)) := by rw [← hW]; exact heap_alloc_new _ _
  have HWg := Lib.hid hWg; clear hWg
  go_enter Try.func14, Try.ntmps14
  go_wp2_with fail
  refine (Check_ok _ _ _ (h0.below hwW)).mono ?_
  rintro e w1 ⟨rfl, hb1⟩
  have Hr1 := Lib.hid (heap_below HWg.out hb1 hlt0)
  have hw1 := below_trans hwW hb1
  by_cases hE : checkE l = 0
  case neg =>
    have hd : (checkE l != 0) = true := by simp [hE]
    obtain ⟨r0, r1, r2, q0, q1, q2⟩ := blk3 Hr1.out
    go_wp2_with fail
    refine bodyPost_ret (results_cell_tmp_row rfl _ _ w.heap.size 27 #[.slice none 0 0, .slice none 0 0, .slice none 0 0] (0, 0) _ (by simp) (heap_set3 Hr1.out) Try.underlying27 rfl infoG) rfl
      ⟨_, ret_pair (by simp [ofE, hE]), ?_, below_set3 hw1 (Nat.le_refl _) _ _ _⟩
    simp only [ofG, ofE, hE, if_false]
    exact ⟨_, _, _, rfl, (own_nil _ _ 0 0 _).slOf, (own_nil _ _ 0 0 _).slOf, (own_nil _ _ 0 0 _).slOf⟩
  have hd : (checkE l != 0) = false := by simp [hE]
  have HE := Lib.hid hE; clear hE
  have hWs : w.heap.size < w1.heap.size := heap_lt Hr1.out
  obtain ⟨i0, hi0, hz0, hk0, hb0⟩ := info_parts infoL
  have oneE := oneL
  go_wp2_with fail
  go_loopw [5, 6] (fun u i wr => ∃ k : Nat, k ≤ l.length ∧ i = .int .i64 k ∧ OwnL w1.heap.size wr u ((l.take k).map linkOf) ∧ Below w1.heap.size w1 wr) (fun _ i _ => l.length - (intOf i).toNat)
  case atStart => exact ⟨0, Nat.zero_le _, rfl, own_nil _ _ _ _ _, Below.refl _ _⟩
  case round =>
    obtain ⟨k, hk, rfl, hown, hb⟩ := hrel
    by_cases hlt : k < l.length
    · obtain ⟨b, o, rfl, hbb, hc⟩ := hc k hlt
      obtain ⟨x, hx⟩ := get_of_lt hlt
      have S4 : ∀ w', Below w1.heap.size w1 w' → Below w1.heap.size w1 w' ∧ w'.cell? ⟨b, o + k * 7, none⟩ = some (.int .i64 x.id) ∧ w'.cell? ⟨b, o + k * 7 + 1, none⟩ = some (.int .i64 x.obv) ∧ w'.cell? ⟨b, o + k * 7 + 2, none⟩ = some (.int .i64 x.rev) := fun w' hb' => by
        obtain ⟨c0, c1, c2, _⟩ := hc w' (hw1.trans (hb'.mono hw1.size)) k x hx
        exact ⟨hb', c0, c1, c2⟩
      have S4 := Lib.hid S4
      have Hx := Lib.hid hx; clear hx hc
      have hl1 : (k : Int) < (l.length : Int) := by omega
      have hl0 : (0 : Int) ≤ (k : Int) := by omega
      have hlen : ((l.take k).map linkOf).length ≤ 1048576 := by simp; omega
      go_wp2
      go_region_held3 (fun w' => Below w1.heap.size w1 w' ∧ w'.cell? ⟨b, o + k * 7, none⟩ = some (.int .i64 x.id) ∧ w'.cell? ⟨b, o + k * 7 + 1, none⟩ = some (.int .i64 x.obv) ∧ w'.cell? ⟨b, o + k * 7 + 2, none⟩ = some (.int .i64 x.rev)) (first | exact S4.out _ hb.drew | exact S4.out _ (by assumption) | (have hh := (‹Below w1.heap.size w1 _ ∧ _›).1; have h2 := hh.size; exact S4.out _ (by exact Below.alloc hh h2 _)))
        (first
          | (have hR := (‹Below w1.heap.size w1 _ ∧ _›).1; have hRs := hR.size; refine step_append_sl (by rfl) (.tmp 20) (.tmp 37) _ (by rfl) i0 _ 24 Try.underlying25 hi0 hz0 hk0 hb0 (by rfl) (by decide) oneE (by rfl) ((Own.alloc hown _).drew) _ 1 1 [linkOf x] (by rfl) (by rfl) (sl_one (by rfl) (by exact heap_alloc_new _ _)) (by simp; omega) (by simp; omega) hRs ?_; intro v1 w1 hown1 hgrow1 hat1; have hq1 := Below.grown hR hgrow1 hRs (fun g hg => (hown.lt g hg).1)))
      go_wp2
      refine ⟨?rel, ?measure⟩
      case rel => exact ⟨k + 1, by omega, by go_num, by rw [map_take_snoc _ Hx.out]; exact hown1, hq1⟩
      case measure => simp [intOf]; omega
    · have e1 : l.take k = l := List.take_of_length_le (by omega)
      rw [e1] at hown
      clear e1
      have Hr2 := Lib.hid (heap_below Hr1.out hb hWs)
      have hlen : (l.map linkOf).length ≤ 1048576 := by simp; omega
      clear hc
      obtain ⟨G, hG⟩ : ∃ G, madeG (l.map linkOf) = G := ⟨_, rfl⟩
      have hEf : ofE l = if full G then 6 else 0 := by rw [ofE, if_pos HE.out, hG]
      have hGf : full G = false → ofG l = G := fun h => by rw [ofG, hEf, h, hG]; rfl
      have hGt : full G = true → ofG l = emptyG := fun h => by rw [ofG, hEf, h]; rfl
      have HEf := Lib.hid hEf; have HGf := Lib.hid hGf; have HGt := Lib.hid hGt; clear hEf hGf hGt
      go_wp2_with fail
      refine (Made_ok _ _ _ hown.slOf hlen).mono ?_
      rintro e w2 ⟨u, rfl, hg, hb2⟩
      rw [hG] at hg
      clear hG
      obtain ⟨v1, v2, v3, rfl, ⟨hg1, hg2, hg3⟩, hf1, hf2, hf3⟩ := hg
      obtain ⟨A1, cc1, rfl, _, _, _⟩ := hg1.cells
      obtain ⟨A2, cc2, rfl, _, _, _⟩ := hg2.cells
      obtain ⟨A3, cc3, rfl, _, _, _⟩ := hg3.cells
      obtain ⟨W3, hW3, Hz3, hb23, hlt3, hc3⟩ := boxed w2 #[.slice A1 G.obv.length cc1, .slice A2 G.rev.length cc2, .slice A3 G.links.length cc3] 27
      have s0 := hc3 0 _ rfl; have s1 := hc3 1 _ rfl; have s2 := hc3 2 _ rfl
      clear hc3
      have hwr := heap_lt Hr2.out
      have Hr3 := Lib.hid (heap_below (heap_below Hr2.out hb2 hwr) hb23 (heap_lt (heap_below Hr2.out hb2 hwr)))
      obtain ⟨r0, r1, r2, q0, q1, q2⟩ := blk3 Hr3.out
      have hww : Below w.heap.size w W3 := below_trans (below_trans (hw1.trans (hb.mono hw1.size)) hb2) hb23
      by_cases n1 : 32 < G.obv.length
      · have d1 : decide ((32 : Int) < (G.obv.length : Int)) = true := by simp; omega
        have hfu : full G = true := by simp [full, n1]
        have HE' : Hid (ofE l = 6) := by show _ = _; rw [HEf.out, hfu]; rfl
        have HG' : Hid (ofG l = emptyG) := HGt.out hfu
        clear n1 hfu
        go_wp2_with fail
        refine bodyPost_ret (results_cell_tmp_row rfl _ _ w.heap.size 27 #[.slice none 0 0, .slice none 0 0, .slice none 0 0] (0, 0) _ (by simp) (heap_set3 Hr3.out) Try.underlying27 rfl infoG) rfl
          ⟨_, ret_pair HE'.out.symm, ?_, below_set3 hww (Nat.le_refl _) _ _ _⟩
        rw [HG'.out]
        exact ⟨_, _, _, rfl, (own_nil _ _ 0 0 _).slOf, (own_nil _ _ 0 0 _).slOf, (own_nil _ _ 0 0 _).slOf⟩
      have d1 : decide ((32 : Int) < (G.obv.length : Int)) = false := by simp; omega
      by_cases n2 : 32 < G.rev.length
      · have d2 : decide ((32 : Int) < (G.rev.length : Int)) = true := by simp; omega
        have hfu : full G = true := by simp [full, n2]
        have HE' : Hid (ofE l = 6) := by show _ = _; rw [HEf.out, hfu]; rfl
        have HG' : Hid (ofG l = emptyG) := HGt.out hfu
        clear n1 n2 hfu
        go_wp2_with fail
        refine bodyPost_ret (results_cell_tmp_row rfl _ _ w.heap.size 27 #[.slice none 0 0, .slice none 0 0, .slice none 0 0] (0, 0) _ (by simp) (heap_set3 Hr3.out) Try.underlying27 rfl infoG) rfl
          ⟨_, ret_pair HE'.out.symm, ?_, below_set3 hww (Nat.le_refl _) _ _ _⟩
        rw [HG'.out]
        exact ⟨_, _, _, rfl, (own_nil _ _ 0 0 _).slOf, (own_nil _ _ 0 0 _).slOf, (own_nil _ _ 0 0 _).slOf⟩
      have d2 : decide ((32 : Int) < (G.rev.length : Int)) = false := by simp; omega
      have hfu : full G = false := by simp [full]; omega
      have HE' : Hid (ofE l = 0) := by show _ = _; rw [HEf.out, hfu]; rfl
      have HG' : Hid (ofG l = G) := HGf.out hfu
      clear n1 n2 hfu
      go_wp2_with fail
      refine bodyPost_ret (results_cell_tmp_row rfl _ _ w.heap.size 27 #[.slice A1 G.obv.length cc1, .slice A2 G.rev.length cc2, .slice A3 G.links.length cc3] (0, 0) _ (by simp) (heap_set3 Hr3.out) Try.underlying27 rfl infoG) rfl
        ⟨_, ret_pair HE'.out.symm, ?_, below_set3 hww (Nat.le_refl _) _ _ _⟩
      rw [HG'.out]
      exact ⟨_, _, _, rfl, (hg1.below hb23).set3 (hf1.ne hwr) _ _ _, (hg2.below hb23).set3 (hf2.ne hwr) _ _ _, (hg3.below hb23).set3 (hf3.ne hwr) _ _ _⟩
end Go.Proofs.Ytifgpmhkdnmhlaa
