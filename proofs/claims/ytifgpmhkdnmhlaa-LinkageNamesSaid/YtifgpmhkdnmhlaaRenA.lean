/- Renamed: the program's and the reference's. Condition: the arguments read as a graph and lists of numbers of the machine. -/
import Derived.Test.YtifgpmhkdnmhlaaWoutA
import Derived.Test.YtifgpmhkdnmhlaaNamesB
import Derived.Test.YtifgpmhkdnmhlaaRefA
import Derived.Test.YtifgpmhkdnmhlaaQTail
namespace Go.Proofs.Ytifgpmhkdnmhlaa
open Go.RowKit Go.Shelf

/-- The links with other numbers. -/
def renLink (o ol r rl : List Int) (x : Link) : Link := ⟨x.id, renI o ol x.obv, renI r rl x.rev⟩
def renOK (g : Graph) (o r : List Int) : Bool := graphB g && namesB o g.obv.length && namesB r g.rev.length
def renE (g : Graph) (o r : List Int) : Int := if renOK g o r = true then 0 else 1
def renL (g : Graph) (o r : List Int) : List Link := g.links.map (renLink g.obv o g.rev r)
def renG (g : Graph) (o r : List Int) : Graph := if renOK g o r = true then madeG (renL g o r) else emptyG
theorem renL_ids (g : Graph) (o r : List Int) : (renL g o r).map Link.id = g.links.map Link.id := by
  unfold renL
  rw [List.map_map]
  rfl
theorem renOK_prog {g : Graph} {o r : List Int} : renOK g o r = (graphB g && namesP g.obv o && namesP g.rev r) := by
  unfold renOK
  cases hg : graphB g
  · rfl
  · have hok := (graphB_iff g).1 hg
    rw [namesP_eq hok.lo, namesP_eq hok.lr]
theorem renG_with {g : Graph} {o r : List Int} (h : renOK g o r = true) : renG g o r = ⟨withs ((renL g o r).map Link.obv), withs ((renL g o r).map Link.rev), renL g o r⟩ := by
  unfold renG
  rw [if_pos h]
  refine madeG_asc ?_
  rw [renL_ids]
  simp only [renOK, Bool.and_eq_true] at h
  exact graphB_ids h.1.1
theorem wf_die {g : Graph} (hg : graphB g = true) {x : Link} (hx : x ∈ g.links) : wfI x.obv ∧ wfI x.rev := by
  have hok := (graphB_iff g).1 hg
  have hE := graphB_ends hg
  have h1 : ∀ {l : List Int}, ascB l 1 999 = true → ∀ n ∈ l, 1 ≤ n ∧ n ≤ 999 := fun h n hn => by simp only [ascB, decide_eq_true_eq] at h; exact h.1 n hn
  have a := h1 hok.ao _ (hE.1 x hx)
  have b := h1 hok.ar _ (hE.2 x hx)
  exact ⟨wf_small (by omega) (by omega), wf_small (by omega) (by omega)⟩

set_option maxHeartbeats 4000000 in
set_option maxRecDepth 100000 in
theorem Renamed_ok (v u z : Value) (g : Graph) (o r : List Int) (w : World) (h : GraphAt w v g) (hu : Ints w u o) (hz : Ints w z r) (hol : o.length ≤ 1048576) (hrl : r.length ≤ 1048576)
    (wgo : ∀ x ∈ g.obv, wfI x) (wgr : ∀ x ∈ g.rev, wfI x) (wo : ∀ x ∈ o, wfI x) (wr : ∀ x ∈ r, wfI x) :
    Calls Try.prog 30 #[v, u, z] w fun e w' => ∃ y, e = .returned (.tuple #[y, .int .i64 (renE g o r)]) ∧ GraphAt w' y (renG g o r) ∧ Below w.heap.size w w' := by
  have h0 := h
  obtain ⟨v1, v2, v3, rfl, ho, hr, hl⟩ := h
  obtain ⟨A1, c1, rfl, _, _, _⟩ := ho.cells
  obtain ⟨A2, c2, rfl, _, _, _⟩ := hr.cells
  obtain ⟨A3, c3, rfl, l1, l2, hcl⟩ := hl.cells
  obtain ⟨W0, hW0, Hz0, hwW0, hlt0, hc0⟩ := boxed w #[.slice A1 g.obv.length c1, .slice A2 g.rev.length c2, .slice A3 g.links.length c3] 27
  obtain ⟨W, hW, Hz, hWW, hlt, _⟩ := boxed W0 #[.slice none 0 0, .slice none 0 0, .slice none 0 0] 27
  have hwW := below_trans hwW0 hWW
  have a0 := cell_later hWW (hc0 0 _ rfl); have a1 := cell_later hWW (hc0 1 _ rfl); have a2 := cell_later hWW (hc0 2 _ rfl)
  have hWg : W.heap[w.heap.size + 1]? = some (.cells #[.slice none 0 0, .slice none 0 0, .slice none 0 0] 27 (0, 0)) := by rw [← Hz0.out, ← hW]; exact heap_alloc_new _ _
  have HWg := Lib.hid hWg
  clear hc0 hWg
  have hW' : (w.alloc (.cells #[.slice A1 g.obv.length c1, .slice A2 g.rev.length c2, .slice A3 g.links.length c3] 27)).alloc (.cells #[.slice none 0 0, .slice none 0 0, .slice none 0 0] 27) = W := by rw [hW0, hW]
  clear hW0 hW
  have hwlt := heap_lt HWg.out
  go_enter Try.func30, Try.ntmps30
  go_wp2_with fail
  refine (names_ok _ _ g.obv o _ (ho.below hwW) (hu.below hwW) hol wgo wo).mono ?_
  rintro e w1 ⟨m1, rfl, hm1, hb1⟩
  clear hW'
  replace a0 := cell_later hb1 a0; replace a1 := cell_later hb1 a1; replace a2 := cell_later hb1 a2
  have hw1 := below_trans hwW hb1
  have Hm1 := Lib.hid hm1; clear hm1
  go_wp2_with fail
  refine (names_ok _ _ g.rev r _ (hr.below hw1) (hz.below hw1) hrl wgr wr).mono ?_
  rintro e w2 ⟨m2, rfl, hm2, hb2⟩
  replace a0 := cell_later hb2 a0; replace a1 := cell_later hb2 a1; replace a2 := cell_later hb2 a2
  have hw2 := below_trans hw1 hb2
  have Hm2 := Lib.hid hm2; clear hm2
  have hV := Valid_ok _ _ _ (h0.below hw2)
  have HV := Lib.hid hV; clear hV
  have Hok := Lib.hid (renOK_prog (g := g) (o := o) (r := r))
  go_wp2_with fail
  refine HV.out.mono ?_
  rintro e w3 ⟨rfl, hb3⟩
  replace a0 := cell_later hb3 a0; replace a1 := cell_later hb3 a1; replace a2 := cell_later hb3 a2
  have hw3 := below_trans hw2 hb3
  have h23 := below_trans hb2 hb3
  have Hr3 := Lib.hid (heap_below (heap_below (heap_below HWg.out hb1 hwlt) hb2 (heap_lt (heap_below HWg.out hb1 hwlt))) hb3 (heap_lt (heap_below (heap_below HWg.out hb1 hwlt) hb2 (heap_lt (heap_below HWg.out hb1 hwlt)))))
  have hw3lt := heap_lt Hr3.out
  clear HV
  cases hg : graphB g
  · have hE : renE g o r = 1 := by simp [renE, Hok.out, hg]
    have hG : renG g o r = emptyG := by simp [renG, Hok.out, hg]
    have HE := Lib.hid hE; have HG := Lib.hid hG; clear hE hG hg
    obtain ⟨r0, r1, r2, q0, q1, q2⟩ := blk3 Hr3.out
    go_wp2_with fail
    refine bodyPost_ret (results_cell_tmp_row rfl _ _ (w.heap.size + 1) 27 #[.slice none 0 0, .slice none 0 0, .slice none 0 0] (0, 0) _ (by simp) (heap_set3 Hr3.out) Try.underlying27 rfl infoG) rfl
      ⟨_, ret_pair (HE.out.symm), by rw [HG.out]; exact emptyAt _, below_set3 hw3 (by omega) _ _ _⟩
  cases hn1 : namesP g.obv o
  · have hE : renE g o r = 1 := by simp [renE, Hok.out, hn1]
    have hG : renG g o r = emptyG := by simp [renG, Hok.out, hn1]
    have HE := Lib.hid hE; have HG := Lib.hid hG; clear hE hG hg hn1
    obtain ⟨r0, r1, r2, q0, q1, q2⟩ := blk3 Hr3.out
    go_wp2_with fail
    refine bodyPost_ret (results_cell_tmp_row rfl _ _ (w.heap.size + 1) 27 #[.slice none 0 0, .slice none 0 0, .slice none 0 0] (0, 0) _ (by simp) (heap_set3 Hr3.out) Try.underlying27 rfl infoG) rfl
      ⟨_, ret_pair (HE.out.symm), by rw [HG.out]; exact emptyAt _, below_set3 hw3 (by omega) _ _ _⟩
  cases hn2 : namesP g.rev r
  · have hE : renE g o r = 1 := by simp [renE, Hok.out, hn2]
    have hG : renG g o r = emptyG := by simp [renG, Hok.out, hn2]
    have HE := Lib.hid hE; have HG := Lib.hid hG; clear hE hG hg hn1 hn2
    obtain ⟨r0, r1, r2, q0, q1, q2⟩ := blk3 Hr3.out
    go_wp2_with fail
    refine bodyPost_ret (results_cell_tmp_row rfl _ _ (w.heap.size + 1) 27 #[.slice none 0 0, .slice none 0 0, .slice none 0 0] (0, 0) _ (by simp) (heap_set3 Hr3.out) Try.underlying27 rfl infoG) rfl
      ⟨_, ret_pair (HE.out.symm), by rw [HG.out]; exact emptyAt _, below_set3 hw3 (by omega) _ _ _⟩
  have hOK : renOK g o r = true := by rw [Hok.out, hg, hn1, hn2]; rfl
  have hE : renE g o r = 0 := by simp [renE, hOK]
  have hG := renG_with hOK
  obtain ⟨p1, rfl, hM1⟩ := Hm1.out hn1
  obtain ⟨p2, rfl, hM2⟩ := Hm2.out hn2
  have HE := Lib.hid hE; have HG := Lib.hid hG; have Hg := Lib.hid hg
  have hM1' := hM1.below h23; have hM2' := hM2.below hb3
  have hll := graphB_links hg
  clear hE hG hn1 hn2 hg hOK Hok Hm1 Hm2 hM1 hM2 a0 a1
  obtain ⟨iL, hiL, hzL, hkL, hbL⟩ := info_parts infoL
  go_wp2_with fail
  go_loopw [12, 44] (fun u i wr => ∃ k : Nat, k ≤ g.links.length ∧ i = .int .i64 k ∧ OwnL w3.heap.size wr u ((g.links.take k).map (renLink g.obv o g.rev r)) ∧ Below w3.heap.size w3 wr) (fun _ i _ => g.links.length - (intOf i).toNat)
  case atStart => exact ⟨0, Nat.zero_le _, rfl, own_nil _ _ _ _ _, Below.refl _ _⟩
  case round =>
    obtain ⟨k, hk, rfl, hown, hb⟩ := hrel
    by_cases hlt' : k < g.links.length
    · obtain ⟨b, of, rfl, _, hc⟩ := hcl k hlt'
      obtain ⟨x, hx⟩ := get_of_lt hlt'
      obtain ⟨e0, e1, e2⟩ := hc wr (hw3.trans (hb.mono hw3.size)) k x hx
      have hwf := wf_die Hg.out (List.mem_of_getElem? hx)
      obtain ⟨W1, hW1, Hz1, hb4, hlt1, hc1⟩ := boxed wr #[.int .i64 x.id, .int .i64 x.obv, .int .i64 x.rev] 67
      have m0 := hc1 0 _ rfl; have m1 := hc1 1 _ rfl; have m2 := hc1 2 _ rfl
      clear hc1
      have hbW := below_trans hb hb4
      have k1 := (hM1'.below hbW).look hwf.1
      have k2 := (hM2'.below hbW).look hwf.2
      have hq := hown.below hb4
      have hBs := hbW.size
      have hlen : ((g.links.take k).map (renLink g.obv o g.rev r)).length ≤ 64 := by simp; omega
      have Hx := Lib.hid hx; clear hx hc
      go_wp2_with (at_builtin; refine wpList_append1 (enc := encL) (size := 3) (B := w3.heap.size) rfl (.tmp 48) (.tmp 60) _ rfl 67 iL _ 24 Try.underlying25 hiL hzL hkL hbL rfl (by decide) rfl hq (renLink g.obv o g.rev r x) _ rfl lenL oneL _ rfl rfl (by omega) (by omega) hBs ?_; intro v' w2 hown' hgrow hat)
      refine ⟨?rel, ?measure⟩
      case rel => exact ⟨k + 1, by omega, by go_num, by rw [map_take_snoc _ Hx.out]; exact hown', hbW.trans (below_append hq hgrow hBs)⟩
      case measure => first | (simp [intOf]; done) | (simp [intOf]; omega)
    · have e1 : g.links.take k = g.links := List.take_of_length_le (by omega)
      rw [e1] at hown
      clear e1 hM1' hM2'
      have hcy : OwnL w3.heap.size wr u12 (renL g o r) := hown
      have Hown := Lib.hid hcy; clear hown hcy
      have hlen : (renL g o r).length ≤ 1048576 := by simp [renL]; omega
      have hww := hw3.trans (hb.mono hw3.size)
      have Hr4 := Lib.hid (heap_below Hr3.out hb hw3lt)
      go_wp2_with fail
      refine (with_ok _ _ _ Hown.out.slOf hlen).mono ?_
      rintro e w5 ⟨x1, x2, rfl, hg1, hg2, hf1, hf2, hb5⟩
      have hg3 := (show Links _ _ _ from Hown.out.slOf).below hb5
      have hf3 := Hown.out.fresh
      have Hr5 := Lib.hid (heap_below Hr4.out hb5 (heap_lt Hr4.out))
      have hwr := heap_lt Hr4.out
      obtain ⟨B1, d1, rfl, _, _, _⟩ := hg1.cells
      obtain ⟨B2, d2', rfl, _, _, _⟩ := hg2.cells
      obtain ⟨B3, d3, rfl, _, _, _⟩ := hg3.cells
      generalize withs ((renL g o r).map Link.obv) = L1 at *
      generalize withs ((renL g o r).map Link.rev) = L2 at *
      obtain ⟨r0, r1, r2, q0, q1, q2⟩ := blk3 Hr5.out
      go_wp2_with fail
      refine bodyPost_ret (results_cell_tmp_row rfl _ _ (w.heap.size + 1) 27 #[.slice B1 L1.length d1, .slice B2 L2.length d2', .slice B3 (renL g o r).length d3] (0, 0) _ (by simp) (heap_set3 Hr5.out) Try.underlying27 rfl infoG) rfl
        ⟨_, ret_pair (HE.out.symm), ?_, below_set3 (below_trans hww hb5) (by omega) _ _ _⟩
      rw [HG.out]
      exact ⟨_, _, _, rfl, hg1.set3 (hf1.ne hwr) _ _ _, hg2.set3 (hf2.ne hwr) _ _ _, hg3.set3 (hf3.ne hw3lt) _ _ _⟩
end Go.Proofs.Ytifgpmhkdnmhlaa
