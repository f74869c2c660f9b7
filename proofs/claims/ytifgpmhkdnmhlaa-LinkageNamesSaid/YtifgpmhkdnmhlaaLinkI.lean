/- linkage.Matrix: the walk. Condition: the argument reads as a graph. -/
import Derived.Test.YtifgpmhkdnmhlaaLinkH
namespace Go.Proofs.Ytifgpmhkdnmhlaa
open Go.RowKit Go.Shelf

theorem made_zero (n : Nat) : madeCells #[.int .i64 0] n = Array.replicate n (Value.int .i64 0) := by
  apply Array.ext_getElem?
  intro i
  simp only [madeCells, Array.getElem?_map, Array.getElem?_replicate]
  by_cases h : i < n
  · simp [h, Nat.mod_one]
  · simp [h]
theorem ret_mat {u : Value} {a b : Int} (h : a = b) : Ending.returned (.tuple #[u, .int .i64 a]) = .returned (.tuple #[u, .int .i64 b]) := by rw [h]

set_option maxHeartbeats 4000000 in
set_option maxRecDepth 100000 in
theorem Matrix_ok (v : Value) (g : Graph) (w : World) (h : GraphAt w v g) :
    Calls Try.prog 28 #[v] w fun e w' => ∃ u, e = .returned (.tuple #[u, .int .i64 (validE g)]) ∧ Rows w' u (matG g) ∧ Below w.heap.size w w' := by
  have h0 := h
  obtain ⟨v1, v2, v3, rfl, ho, hr, hl⟩ := h
  obtain ⟨A1, c1, rfl, o1, o2, _⟩ := ho.cells
  obtain ⟨A2, c2, rfl, r1, r2, _⟩ := hr.cells
  obtain ⟨A3, c3, rfl, l1, l2, hcl⟩ := hl.cells
  obtain ⟨W, hW, Hz, hwW, hlt, hc1⟩ := boxed w #[.slice A1 g.obv.length c1, .slice A2 g.rev.length c2, .slice A3 g.links.length c3] 27
  have a0 := hc1 0 _ rfl; have a1 := hc1 1 _ rfl; have a2 := hc1 2 _ rfl
  clear hc1
  go_enter Try.func28, Try.ntmps28
  go_wp2_with fail
  refine (Valid_ok _ _ _ (h0.below hwW)).mono ?_
  rintro e w1 ⟨rfl, hb1⟩
  clear hW
  have b0 := cell_later hb1 a0; have b1 := cell_later hb1 a1; have b2 := cell_later hb1 a2
  have hw1 := below_trans hwW hb1
  clear a0 a1 a2
  cases hg : graphB g
  · go_wp2_with fail
    go_ret2
    exact ⟨_, ret_mat (by simp [validE, hg]), by simp only [matG, hg]; exact ⟨none, 0, [], rfl, Nat.le_refl _, by simp [maxLen], Sl.nil _ _ _, fun i u xs hu => by simp at hu⟩, hw1⟩
  have hok := (graphB_iff g).1 hg
  have Ho := Lib.hid (ascB_asc hok.ao); have Hr := Lib.hid (ascB_asc hok.ar)
  have Hends := Lib.hid hok.ends
  have hlo := hok.lo; have hlr := hok.lr; have hll := hok.ll
  clear hok
  have hvz : validE g = 0 := by simp [validE, hg]
  have hmz : matG g = matOf g.obv g.rev g.links := by simp [matG, hg]
  have Hvz := Lib.hid hvz; have Hmz := Lib.hid hmz; clear hvz hmz
  have hmk := run_make_row' (P := Try.prog) 24 3 (.int .i64 0) 8 Try.underlying24 infoI rfl .i64 .i64 g.rev.length (by omega) (by omega)
  rw [made_zero] at hmk
  obtain ⟨iV, hiV, hzV, hkV, hbV⟩ := info_parts infoV
  go_wp2_with fail
  go_loopw [4, 17] (fun u i wr => ∃ (k : Nat) (bs : List Nat), k ≤ g.obv.length ∧ i = .int .i64 k ∧ bs.length = k ∧ MatSt w1.heap.size g.rev.length wr u bs (List.replicate k (List.replicate g.rev.length 0)) ∧ Below w1.heap.size w1 wr) (fun _ i _ => g.obv.length - (intOf i).toNat)
  case atStart => exact ⟨0, [], Nat.zero_le _, rfl, rfl, ⟨own_nil _ _ _ _ _, rfl, fun i b r hb => by simp at hb, List.nodup_nil⟩, Below.refl _ _⟩
  case round =>
    obtain ⟨k, bs, hk, rfl, hbs, hm, hb⟩ := hrel
    by_cases hlt' : k < g.obv.length
    · obtain ⟨W2, hW2⟩ : ∃ W2, wr.alloc (.cells (Array.replicate g.rev.length (Value.int .i64 0)) 3) = W2 := ⟨_, rfl⟩
      have hsz := hb.size
      have hb2 : Below wr.heap.size wr W2 := by rw [← hW2]; exact (Below.refl _ _).alloc (Nat.le_refl _) _
      have hq := hm.own.below hb2
      have hBs : w1.heap.size ≤ W2.heap.size := by have := hb2.size; omega
      have n1 := cell_later (below_trans hb hb2) b1
      have d1 := cell_later hb b1
      have Hm := Lib.hid hm; have Hbs := Lib.hid hbs; clear hm hbs
      have hbl : bs.length ≤ 32 := by have := Hbs.out; omega
      go_wp2_with (at_builtin; refine wpList_append1 (enc := encB g.rev.length) (size := 1) (B := w1.heap.size) rfl (.tmp 19) (.tmp 24) _ rfl 24 iV _ 24 Try.underlying50 hiV hzV hkV hbV rfl (by decide) rfl hq wr.heap.size _ rfl (lenB _) (oneB _) _ rfl rfl (by omega) (by omega) hBs ?_; intro v' w2 hown' hgrow hat)
      refine ⟨?rel, ?measure⟩
      case rel => exact ⟨k + 1, bs ++ [wr.heap.size], by omega, by go_num, by simp [Hbs.out], by have := Hm.out.push (r := List.replicate g.rev.length 0) (by rw [← hW2]; simp) hsz (by simp) hown' hgrow; rwa [← List.replicate_succ'] at this, (below_trans hb hb2).trans (below_append hq hgrow hBs)⟩
      case measure => simp [intOf]; omega
    · have hke : k = g.obv.length := by omega
      rw [hke, ← matOf_nil] at hm
      rw [hke] at hbs
      clear hmk hke hiV hzV hkV hbV
      have Hbs := Lib.hid hbs; clear hbs
      have d0 := cell_later hb b0; have d1 := cell_later hb b1; have d2 := cell_later hb b2
      go_wp2_with fail
      go_loopw [30] (fun i wx => ∃ k : Nat, k ≤ g.links.length ∧ i = .int .i64 k ∧ MatSt w1.heap.size g.rev.length wx u4 bs (matOf g.obv g.rev (g.links.take k)) ∧ Below w1.heap.size w1 wx) (fun i _ => g.links.length - (intOf i).toNat)
      case atStart => exact ⟨0, Nat.zero_le _, rfl, by simpa using hm, hb⟩
      case round =>
        clear hm hb d0 d1 d2
        obtain ⟨j, hj, rfl, hm, hb⟩ := hrel
        by_cases hlt2 : j < g.links.length
        · obtain ⟨b, o, rfl, _, hc⟩ := hcl j hlt2
          obtain ⟨x, hx⟩ := get_of_lt hlt2
          obtain ⟨e0, e1, e2⟩ := hc _ (hw1.trans (hb.mono hw1.size)) j x hx
          have hends := List.all_eq_true.1 Hends.out x (List.mem_of_getElem? hx)
          simp only [Bool.and_eq_true] at hends
          rw [hasB_iff, hasB_iff] at hends
          have Hx := Lib.hid hx; clear hx hc
          have hi := place_asc Ho.out hends.1
          have hj2 := place_asc Hr.out hends.2
          obtain ⟨pi, hpi⟩ : ∃ p, g.obv.countP (· < x.obv) = p := ⟨_, rfl⟩
          obtain ⟨pj, hpj⟩ : ∃ p, g.rev.countP (· < x.rev) = p := ⟨_, rfl⟩
          rw [hpi] at hi
          rw [hpj] at hj2
          have si : ∀ W', Below w.heap.size w W' → Calls Try.prog 53 #[.slice A1 g.obv.length c1, .int .i64 x.obv] W' fun e w' => e = .returned (.tuple #[.int .i64 (pi : Nat), .bool true]) ∧ Below W'.heap.size W' w' := fun W' hB => by
            have := searchI_ok _ g.obv x.obv W' (ho.below hB) Ho.out (by omega)
            rwa [hpi, (hasB_iff _ _).2 hends.1] at this
          have sj : ∀ W', Below w.heap.size w W' → Calls Try.prog 53 #[.slice A2 g.rev.length c2, .int .i64 x.rev] W' fun e w' => e = .returned (.tuple #[.int .i64 (pj : Nat), .bool true]) ∧ Below W'.heap.size W' w' := fun W' hB => by
            have := searchI_ok _ g.rev x.rev W' (hr.below hB) Hr.out (by omega)
            rwa [hpj, (hasB_iff _ _).2 hends.2] at this
          have Si := Lib.hid si; have Sj := Lib.hid sj; clear si sj hpi hpj hends
          obtain ⟨W1, hW1, Hz1, hb2, hlt1, hc1⟩ := boxed wr #[.int .i64 x.id, .int .i64 x.obv, .int .i64 x.rev] 67
          have m1 := hc1 1 _ rfl; have m2 := hc1 2 _ rfl
          clear hc1
          have hbW := below_trans hb hb2
          have d0 := cell_later hbW b0; have d1 := cell_later hbW b1
          go_wp2_with fail
          refine (Si.out _ (hw1.trans (hbW.mono hw1.size))).mono ?_
          rintro e w2 ⟨rfl, hb3⟩
          have m2' := cell_later hb3 m2
          have d1' := cell_later hb3 d1
          clear hW1 m1 m2 d0 d1 e0 e1 e2
          have hbW2 := below_trans hbW hb3
          have hrW2 := below_trans hb2 hb3
          go_wp2_with fail
          refine (Sj.out _ (hw1.trans (hbW2.mono hw1.size))).mono ?_
          rintro e w3 ⟨rfl, hb4⟩
          clear m2' d1'
          have hm3 := hm.below (below_trans hrW2 hb4)
          have hbW3 := below_trans hbW2 hb4
          obtain ⟨b', hb'⟩ := get_of_lt (show pi < bs.length by have := lt_of_get hi; have := Hbs.out; omega)
          have hrow : (matOf g.obv g.rev (g.links.take j))[pi]? = some (g.rev.map fun b => (countM (g.links.take j) x.obv b : Int)) := by
            unfold matOf
            rw [List.getElem?_map, hi]
            rfl
          obtain ⟨gg, cap, rfl, hcap, hcell⟩ := hm3.outer hb'
          obtain ⟨p1, p2, p3⟩ := hm3.row pi b' _ hb' hrow
          have hinc := hm3.inc (k := pj) hb' hrow ((countM (g.links.take j) x.obv x.rev : Int) + 1)
          rw [← matOf_snoc Ho.out Hr.out hi hj2, ← take_snoc' Hx.out] at hinc
          have q0 := heap_cell (i := pj) p3
          have f0 := heap_free (i := pj) p3
          have hq : ((g.rev.map fun b => (countM (g.links.take j) x.obv b : Int)).map (Value.int .i64)).toArray[pj]? = some (.int .i64 (countM (g.links.take j) x.obv x.rev : Int)) := by
            rw [List.getElem?_toArray, List.getElem?_map, List.getElem?_map, hj2]
            rfl
          rw [hq] at q0
          have hcn : countM (g.links.take j) x.obv x.rev ≤ 64 := by
            have := List.countP_le_length (p := fun y : Link => y.obv == x.obv && y.rev == x.rev) (l := g.links.take j)
            unfold countM
            rw [List.length_take] at this
            omega
          obtain ⟨cn, hcne⟩ : ∃ cn, countM (g.links.take j) x.obv x.rev = cn := ⟨_, rfl⟩
          rw [hcne] at q0 hcn hinc
          have Hinc := Lib.hid hinc
          have i1 : (pi : Int) < (bs.length : Int) := by have := lt_of_get hb'; omega
          have i2 : (0 : Int) ≤ (pi : Int) := by omega
          have i3 : (pj : Int) < (g.rev.length : Int) := by have := lt_of_get hj2; omega
          have i4 : (0 : Int) ≤ (pj : Int) := by omega
          clear hcne hq hinc hrow hm3 hm hi hj2 hb' p2 p3
          go_wp2_with fail
          refine ⟨?rel, ?measure⟩
          case rel => exact ⟨j + 1, by omega, by go_num, Hinc.out, hbW3.setCell p1 _⟩
          case measure => simp [intOf]; omega
        · have e1 : g.links.take j = g.links := List.take_of_length_le (by omega)
          rw [e1] at hm
          clear e1
          go_wp2_with fail
          go_ret2
          exact ⟨_, ret_mat Hvz.out.symm, by rw [Hmz.out]; exact hm.rows (by omega), hw1.trans (hb.mono hw1.size)⟩
end Go.Proofs.Ytifgpmhkdnmhlaa
