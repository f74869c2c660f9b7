/- The reference's Matrix and Pairs. Condition: the argument reads as a graph. -/
import Derived.Test.YtifgpmhkdnmhlaaLinkI
import Derived.Test.YtifgpmhkdnmhlaaPairP
namespace Go.Proofs.Ytifgpmhkdnmhlaa
open Go.RowKit Go.Shelf

/-- A row under way: what is counted for the first k columns, then zeros. -/
def rowTo (r : List Int) (ls : List Link) (a : Int) (k : Nat) : List Int := (r.take k).map (fun b => (countM ls a b : Int)) ++ List.replicate (r.length - k) 0
theorem rowTo_len {r : List Int} {ls : List Link} {a : Int} {k : Nat} (h : k ≤ r.length) : (rowTo r ls a k).length = r.length := by simp [rowTo]; omega
theorem rowTo_zero (r : List Int) (ls : List Link) (a : Int) : rowTo r ls a 0 = List.replicate r.length 0 := by simp [rowTo]
theorem rowTo_all (r : List Int) (ls : List Link) (a : Int) : rowTo r ls a r.length = r.map fun b => (countM ls a b : Int) := by simp [rowTo]
theorem rowTo_at {r : List Int} {ls : List Link} {a : Int} {k : Nat} (h : k < r.length) : (rowTo r ls a k)[k]? = some 0 := by
  unfold rowTo
  have hl : ((r.take k).map (fun b => (countM ls a b : Int))).length = k := by simp; omega
  rw [List.getElem?_append_right (by omega), hl, Nat.sub_self, List.getElem?_replicate, if_pos (by omega)]
theorem rowTo_self {r : List Int} {ls : List Link} {a : Int} {k : Nat} (h : k < r.length) : (rowTo r ls a k).set k 0 = rowTo r ls a k := by
  apply List.ext_getElem?
  intro j
  by_cases e : k = j
  · subst e
    rw [List.getElem?_set_self (by rw [rowTo_len (by omega)]; exact h), rowTo_at h]
  · rw [List.getElem?_set_ne e]
theorem rowTo_next {r : List Int} {ls : List Link} {a b : Int} {k : Nat} (h : r[k]? = some b) : (rowTo r ls a k).set k (countM ls a b : Int) = rowTo r ls a (k + 1) := by
  have hk := lt_of_get h
  unfold rowTo
  rw [take_snoc' h, List.map_append]
  apply List.ext_getElem?
  intro j
  rcases Nat.lt_trichotomy j k with e | e | e
  · rw [List.getElem?_set_ne (by omega), List.getElem?_append_left (by simp; omega), List.getElem?_append_left (by simp; omega), List.getElem?_append_left (by simp; omega)]
  · subst e
    rw [List.getElem?_set_self (by simp; omega), List.getElem?_append_left (by simp; omega), List.getElem?_append_right (by simp; omega)]
    simp
    rw [Nat.min_eq_left (by omega), Nat.sub_self]
    rfl
  · rw [List.getElem?_set_ne (by omega), List.getElem?_append_right (by simp; omega), List.getElem?_append_right (by simp; omega)]
    simp only [List.length_map, List.length_append, List.length_take, List.length_cons, List.length_nil, List.getElem?_replicate]
    rw [Nat.min_eq_left (by omega)]
    by_cases h2 : j < r.length
    · rw [if_pos (by omega), if_pos (by omega)]
    · rw [if_neg (by omega), if_neg (by omega)]
theorem MatSt.push2 {B m : Nat} {w w2 : World} {u v' : Value} {bs : List Nat} {R : List (List Int)} {r : List Int} {b : Nat} (h : MatSt B m w u bs R) (hb : w.heap[b]? = some (.cells (r.map (Value.int .i64)).toArray 3 (0, 0))) (hB : B ≤ b) (hn : b ∉ bs) (hr : r.length = m)
    (hown : Own (encB m) 1 24 B w2 v' (bs ++ [b])) (hg : w.grownBy w2 u.ownBlock) : MatSt B m w2 v' (bs ++ [b]) (R ++ [r]) := by
  refine ⟨hown, by simp [h.len], fun i b' r' h1 h2 => ?_, ?_⟩
  · rcases Nat.lt_or_ge i bs.length with hi | hi
    · rw [List.getElem?_append_left hi] at h1
      rw [List.getElem?_append_left (by rw [← h.len]; exact hi)] at h2
      obtain ⟨p1, p2, p3⟩ := h.row i b' r' h1 h2
      exact ⟨p1, p2, (hg.block b' (heap_lt p3) (own_block h.own p3 (by decide))).trans p3⟩
    · have hi' : i = bs.length := by
        have := lt_of_get h1
        simp at this
        omega
      subst hi'
      rw [List.getElem?_append_right (Nat.le_refl _)] at h1
      rw [h.len, List.getElem?_append_right (Nat.le_refl _)] at h2
      simp at h1 h2
      subst h1; subst h2
      exact ⟨hB, hr, (hg.block b (heap_lt hb) (own_block h.own hb (by decide))).trans hb⟩
  · rw [List.nodup_append]
    refine ⟨h.nodup, by simp, fun a ha c hc e => ?_⟩
    simp at hc
    subst hc
    subst e
    exact hn ha
theorem MatSt.lt {B m : Nat} {w : World} {u : Value} {bs : List Nat} {R : List (List Int)} (h : MatSt B m w u bs R) : ∀ b ∈ bs, b < w.heap.size := fun b hb => by
  obtain ⟨i, hi⟩ := List.mem_iff_getElem?.1 hb
  obtain ⟨r', hr'⟩ := get_of_lt (show i < R.length by rw [← h.len]; exact lt_of_get hi)
  exact heap_lt (h.row i b r' hi hr').2.2
theorem matOf_snoc' {o : List Int} {i : Nat} {a : Int} (h : o[i]? = some a) (r : List Int) (ls : List Link) : matOf (o.take (i + 1)) r ls = matOf (o.take i) r ls ++ [r.map fun b => (countM ls a b : Int)] := by
  unfold matOf
  rw [take_snoc' h, List.map_append]
  rfl
theorem countM_take {ls : List Link} {j : Nat} {x : Link} (hx : ls[j]? = some x) (a b : Int) : countM (ls.take (j + 1)) a b = countM (ls.take j) a b + (if x.obv = a ∧ x.rev = b then 1 else 0) := by
  rw [take_snoc' hx, countM_snoc]
theorem heap_row_set {w : World} {b k : Nat} {r : List Int} (h : w.heap[b]? = some (.cells (r.map (Value.int .i64)).toArray 3 (0, 0))) (x : Int) : (w.setCell ⟨b, k, none⟩ (.int .i64 x)).heap[b]? = some (.cells ((r.set k x).map (Value.int .i64)).toArray 3 (0, 0)) := by
  rw [heap_setCell_same w b k _ _ (.int .i64 x) h]
  simp [List.map_set]

set_option maxHeartbeats 8000000 in
set_option maxRecDepth 100000 in
theorem Matrix_ok13 (v : Value) (g : Graph) (w : World) (h : GraphAt w v g) :
    Calls Try.prog 32 #[v] w fun e w' => ∃ u, e = .returned (.tuple #[u, .int .i64 (validE g)]) ∧ Rows w' u (matG g) ∧ Below w.heap.size w w' := by
  have h0 := h
  obtain ⟨v1, v2, v3, rfl, ho, hr, hl⟩ := h
  obtain ⟨A1, c1, rfl, o1, o2, hco⟩ := ho.cells
  obtain ⟨A2, c2, rfl, r1, r2, hcr⟩ := hr.cells
  obtain ⟨A3, c3, rfl, l1, l2, hcl⟩ := hl.cells
  obtain ⟨W, hW, Hz, hwW, hlt, hc1⟩ := boxed w #[.slice A1 g.obv.length c1, .slice A2 g.rev.length c2, .slice A3 g.links.length c3] 27
  have a0 := hc1 0 _ rfl; have a1 := hc1 1 _ rfl; have a2 := hc1 2 _ rfl
  clear hc1
  go_enter Try.func32, Try.ntmps32
  go_wp2_with fail
  refine (Valid_ok13 _ _ _ (h0.below hwW)).mono ?_
  rintro e w1 ⟨rfl, hb1⟩
  clear hW
  have b0 := cell_later hb1 a0; have b1 := cell_later hb1 a1; have b2 := cell_later hb1 a2
  have hw1 := below_trans hwW hb1
  clear a0 a1 a2
  cases hg : graphB g
  · go_wp2_with fail
    go_ret2
    exact ⟨_, ret_mat (by simp [validE, hg]), by simp only [matG, hg]; exact ⟨none, 0, [], rfl, Nat.le_refl _, by simp [maxLen], Sl.nil _ _ _, fun i u xs hu => by simp at hu⟩, hw1⟩
  have hok := (graphB_iff g).1 hg
  have hlo := hok.lo; have hlr := hok.lr; have hll := hok.ll
  clear hok
  have hvz : validE g = 0 := by simp [validE, hg]
  have hmz : matG g = matOf g.obv g.rev g.links := by simp [matG, hg]
  have Hvz := Lib.hid hvz; have Hmz := Lib.hid hmz; clear hvz hmz hg
  have hmk := run_make_row' (P := Try.prog) 24 3 (.int .i64 0) 8 Try.underlying24 infoI rfl .i64 .i64 g.rev.length (by omega) (by omega)
  rw [made_zero] at hmk
  obtain ⟨iV, hiV, hzV, hkV, hbV⟩ := info_parts infoV
  go_wp2_with fail
  go_loopw [4, 5] (fun u i wr => ∃ (k : Nat) (bs : List Nat), k ≤ g.obv.length ∧ i = .int .i64 k ∧ bs.length = k ∧ MatSt w1.heap.size g.rev.length wr u bs (matOf (g.obv.take k) g.rev g.links) ∧ Below w1.heap.size w1 wr) (fun _ i _ => g.obv.length - (intOf i).toNat)
  case atStart => exact ⟨0, [], Nat.zero_le _, rfl, rfl, ⟨own_nil _ _ _ _ _, by simp [matOf], fun i b r hb => by simp at hb, List.nodup_nil⟩, Below.refl _ _⟩
  case round =>
    obtain ⟨i, bs, hk, rfl, hbs, hm, hb⟩ := hrel
    by_cases hlt' : i < g.obv.length
    · obtain ⟨a, ha⟩ := get_of_lt hlt'
      obtain ⟨bo, oo, rfl, _, hco'⟩ := hco i hlt'
      obtain ⟨W2, hW2⟩ : ∃ W2, wr.alloc (.cells (Array.replicate g.rev.length (Value.int .i64 0)) 3) = W2 := ⟨_, rfl⟩
      have hb2 : Below wr.heap.size wr W2 := by rw [← hW2]; exact (Below.refl _ _).alloc (Nat.le_refl _) _
      have hz2 : wr.heap.size < W2.heap.size := by rw [← hW2]; simp
      have hrow0 : W2.heap[wr.heap.size]? = some (.cells ((rowTo g.rev g.links a 0).map (Value.int .i64)).toArray 3 (0, 0)) := by
        rw [← hW2, rowTo_zero]
        simpa using heap_alloc_new wr (.cells (Array.replicate g.rev.length (Value.int .i64 0)) 3)
      have Hm := Lib.hid hm; have Hbs := Lib.hid hbs; have Ha := Lib.hid ha; have Hco := Lib.hid (fun W' hW' => hco' W' hW' i a ha); clear hm hbs ha hco'
      have hsz := hb.size
      have d0 := cell_later hb b0; have d1 := cell_later hb b1
      have hl1 : (i : Int) < (g.obv.length : Int) := by omega
      have hl0 : (0 : Int) ≤ (i : Int) := by omega
      go_wp2_with fail
      have Hrow0 := Lib.hid hrow0; have Hb2 := Lib.hid hb2; clear hrow0 hb2 hW2 d0 d1
      obtain ⟨wo, rfl⟩ : ∃ wo : World, wo = wr := ⟨_, rfl⟩
      go_loopw [7, 8] (fun t7 _ wx => ∃ k : Nat, k ≤ g.rev.length ∧ t7 = .int .i64 k ∧ wx.heap[wo.heap.size]? = some (.cells ((rowTo g.rev g.links a k).map (Value.int .i64)).toArray 3 (0, 0)) ∧ Below wo.heap.size wo wx) (fun t7 _ _ => g.rev.length - (intOf t7).toNat)
      case atStart => exact ⟨0, Nat.zero_le _, rfl, Hrow0.out, Hb2.out⟩
      case round =>
        clear Hrow0 Hb2
        obtain ⟨k, hk2, rfl, hrow, hb3⟩ := hrel
        have hbx := hb.trans (hb3.mono hb.size)
        have d0 := cell_later hbx b0; have d1 := cell_later hbx b1; have d2 := cell_later hbx b2
        by_cases hlt2 : k < g.rev.length
        · obtain ⟨b, hb'⟩ := get_of_lt hlt2
          obtain ⟨br, or, rfl, _, hcr'⟩ := hcr k hlt2
          have Hcr := Lib.hid (fun W' hW' => hcr' W' hW' k b hb'); have Hb := Lib.hid hb'; clear hcr' hb'
          have hl1k : (k : Int) < (g.rev.length : Int) := by omega
          have hl0k : (0 : Int) ≤ (k : Int) := by omega
          go_wp2_with fail
          obtain ⟨wq, rfl⟩ : ∃ wq : World, wq = wr := ⟨_, rfl⟩
          go_loopw [8] (fun t8 wx => ∃ j : Nat, j ≤ g.links.length ∧ t8 = .int .i64 j ∧ wx.heap[wo.heap.size]? = some (.cells (((rowTo g.rev g.links a k).set k (countM (g.links.take j) a b : Int)).map (Value.int .i64)).toArray 3 (0, 0)) ∧ Below wo.heap.size wo wx) (fun t8 _ => g.links.length - (intOf t8).toNat)
          case atStart => exact ⟨0, Nat.zero_le _, rfl, by simp only [List.take_zero, countM, List.countP_nil]; rw [show (((0 : Nat) : Int)) = 0 from rfl, rowTo_self hlt2]; exact hrow, hb3⟩
          case round =>
            clear hrow hb3 hbx d0 d1 d2
            obtain ⟨j, hj, rfl, hrow, hb3⟩ := hrel
            have hbx := hb.trans (hb3.mono hb.size)
            have d0 := cell_later hbx b0; have d1 := cell_later hbx b1; have d2 := cell_later hbx b2
            by_cases hlt3 : j < g.links.length
            · obtain ⟨bl, ol, rfl, _, hcl'⟩ := hcl j hlt3
              obtain ⟨x, hx⟩ := get_of_lt hlt3
              obtain ⟨e0, e1, e2⟩ := hcl' wr (hw1.trans (hbx.mono hw1.size)) j x hx
              have e3 := Hco.out wr (hw1.trans (hbx.mono hw1.size))
              have e4 := Hcr.out wr (hw1.trans (hbx.mono hw1.size))
              have Hx := Lib.hid hx; clear hx hcl'
              have hl1j : (j : Int) < (g.links.length : Int) := by omega
              have hl0j : (0 : Int) ≤ (j : Int) := by omega
              by_cases t1 : x.obv = a
              case neg =>
                have f1 : (x.obv == a) = false := by simp [t1]
                have T1 := Lib.hid t1; clear t1
                go_wp2_with fail
                go_quiet (fail)
                go_wp2_with fail
                refine ⟨?rel, ?measure⟩
                case rel => exact ⟨j + 1, by omega, by go_num, by rw [countM_take Hx.out, if_neg (fun h => T1.out h.1), Nat.add_zero]; exact hrow, below_drewN hb3 _⟩
                case measure => first | (simp [intOf]; done) | (simp [intOf]; omega)
              have f1 : (x.obv == a) = true := by simp [t1]
              have T1 := Lib.hid t1; clear t1
              by_cases t2 : x.rev = b
              case neg =>
                have f2 : (x.rev == b) = false := by simp [t2]
                have T2 := Lib.hid t2; clear t2
                go_wp2_with fail
                go_quiet (fail)
                go_wp2_with fail
                refine ⟨?rel, ?measure⟩
                case rel => exact ⟨j + 1, by omega, by go_num, by rw [countM_take Hx.out, if_neg (fun h => T2.out h.2), Nat.add_zero]; exact hrow, below_drewN hb3 _⟩
                case measure => first | (simp [intOf]; done) | (simp [intOf]; omega)
              have f2 : (x.rev == b) = true := by simp [t2]
              have T2 := Lib.hid t2; clear t2
              have hcn : countM (g.links.take j) a b ≤ 64 := by
                have := List.countP_le_length (p := fun y : Link => y.obv == a && y.rev == b) (l := g.links.take j)
                unfold countM
                rw [List.length_take] at this
                omega
              have hct := countM_take Hx.out a b
              rw [if_pos ⟨T1.out, T2.out⟩] at hct
              have hset := heap_row_set (k := k) hrow ((countM (g.links.take j) a b : Int) + 1)
              rw [List.set_set] at hset
              obtain ⟨cn, hcne⟩ : ∃ cn, countM (g.links.take j) a b = cn := ⟨_, rfl⟩
              have q0 := heap_cell (i := k) hrow
              have f0 := heap_free (i := k) hrow
              have hq : (((rowTo g.rev g.links a k).set k (countM (g.links.take j) a b : Int)).map (Value.int .i64)).toArray[k]? = some (.int .i64 (cn : Int)) := by
                rw [List.getElem?_toArray, List.getElem?_map, List.getElem?_set_self (by rw [rowTo_len (by omega)]; exact hlt2), hcne]
                rfl
              rw [hq] at q0
              rw [hcne] at hct hset hcn
              have Hset := Lib.hid hset; have Hct := Lib.hid hct
              clear hset hct hcne hq hrow
              go_wp2_with fail
              go_quiet (fail)
              go_wp2_with fail
              refine ⟨?rel, ?measure⟩
              case rel => exact ⟨j + 1, by omega, by go_num, by rw [Hct.out]; exact Hset.out, (below_drewN hb3 _).setCell (Nat.le_refl _) _⟩
              case measure => first | (simp [intOf]; done) | (simp [intOf]; omega)
            · have e1 : g.links.take j = g.links := List.take_of_length_le (by omega)
              rw [e1, rowTo_next Hb.out] at hrow
              clear e1
              go_wp2_with fail
              refine ⟨?rel, ?measure⟩
              case rel => exact ⟨k + 1, by omega, by go_num, hrow, hb3⟩
              case measure => first | (simp [intOf]; done) | (simp [intOf]; omega)
        · have hke : k = g.rev.length := by omega
          rw [hke, rowTo_all] at hrow
          clear hke
          have hq := Hm.out.own.below hb3
          have hBs : w1.heap.size ≤ wr.heap.size := hbx.size
          have hbl : bs.length ≤ 32 := by have := Hbs.out; omega
          have hni : wo.heap.size ∉ bs := fun h => by have := Hm.out.lt _ h; omega
          have Hrow := Lib.hid hrow; clear hrow
          go_wp2_with (at_builtin; refine wpList_append1 (enc := encB g.rev.length) (size := 1) (B := w1.heap.size) rfl (.tmp 69) (.tmp 71) _ rfl 24 iV _ 24 Try.underlying50 hiV hzV hkV hbV rfl (by decide) rfl hq wo.heap.size _ rfl (lenB _) (oneB _) _ rfl rfl (by omega) (by omega) hBs ?_; intro v' w2 hown' hgrow hat)
          refine ⟨?rel, ?measure⟩
          case rel => exact ⟨i + 1, bs ++ [wo.heap.size], by omega, by go_num, by simp [Hbs.out], by rw [matOf_snoc' Ha.out]; exact (Hm.out.below hb3).push2 Hrow.out hb.size hni (by simp) hown' hgrow, hbx.trans (below_append hq hgrow hBs)⟩
          case measure => first | (simp [intOf]; done) | (simp [intOf]; omega)
    · have e1 : g.obv.take i = g.obv := List.take_of_length_le (by omega)
      rw [e1] at hm
      clear e1
      have d0 := cell_later hb b0
      have Hbs := Lib.hid hbs; clear hbs
      go_wp2_with fail
      go_ret2
      exact ⟨_, ret_mat Hvz.out.symm, by rw [Hmz.out]; exact hm.rows (by omega), hw1.trans (hb.mono hw1.size)⟩
end Go.Proofs.Ytifgpmhkdnmhlaa
