/- linkage.Dies; the reference's Dies and Degree. Condition: the arguments read as graphs and dies. -/
import Derived.Test.YtnaoiochfdipiaaLinkH
namespace Go.Proofs.Ytnaoiochfdipiaa
open Go.RowKit Go.Shelf

def diesG (g : Graph) : List Die := if graphB g = true then g.obv.map (Die.mk 0) ++ g.rev.map (Die.mk 1) else []

set_option maxHeartbeats 4000000 in
set_option maxRecDepth 100000 in
theorem Dies_own (v : Value) (g : Graph) (w : World) (h : GraphAt w v g) :
    Calls Try.prog 29 #[v] w fun e w' => ∃ u, e = .returned (.tuple #[u, .int .i64 (validE g)]) ∧ OwnD w.heap.size w' u (diesG g) ∧ Below w.heap.size w w' := by
    have h0 := h
    obtain ⟨v1, v2, v3, rfl, ho, hr, hl⟩ := h
    obtain ⟨A1, c1, rfl, o1, o2, hco⟩ := ho.cells
    obtain ⟨A2, c2, rfl, r1, r2, hcr⟩ := hr.cells
    obtain ⟨A3, c3, rfl, _, _, _⟩ := hl.cells
    obtain ⟨W, hW, Hz, hwW, hlt, hc1⟩ := boxed w #[.slice A1 g.obv.length c1, .slice A2 g.rev.length c2, .slice A3 g.links.length c3] 25
    have a0 := hc1 0 _ rfl; have a1 := hc1 1 _ rfl; have a2 := hc1 2 _ rfl
    clear hc1
    go_enter Try.func29, Try.ntmps29
    go_wp2_with fail
    refine (Valid_ok _ _ _ (h0.below hwW)).mono ?_
    rintro e w1 ⟨rfl, hb1⟩
    clear hW
    have b0 := cell_later hb1 a0; have b1 := cell_later hb1 a1; have b2 := cell_later hb1 a2
    have hw1 := below_trans hwW hb1
    clear a0 a1 a2
    cases hg : graphB g
    · go_wp2_with fail
      go_ret2
      exact ⟨_, ret_mat (by simp [validE, hg]), by simp only [diesG, hg]; exact own_nil encD 2 46 _ _, hw1⟩
    have hok := (graphB_iff g).1 hg
    have hlo := hok.lo; have hlr := hok.lr
    have hvz : validE g = 0 := by simp [validE, hg]
    have hmz : diesG g = g.obv.map (Die.mk 0) ++ g.rev.map (Die.mk 1) := by simp [diesG, hg]
    have Hvz := Lib.hid hvz; have Hmz := Lib.hid hmz; clear hvz hmz hok
    obtain ⟨iD, hiD, hzD, hkD, hbD⟩ := info_parts infoD
    go_wp2_with fail
    go_loopw [4, 15] (fun u i wr => ∃ k : Nat, k ≤ g.obv.length ∧ i = .int .i64 k ∧ OwnD w1.heap.size wr u ((g.obv.take k).map (Die.mk 0)) ∧ Below w1.heap.size w1 wr) (fun _ i _ => g.obv.length - (intOf i).toNat)
    case atStart => exact ⟨0, Nat.zero_le _, rfl, own_nil _ _ _ _ _, Below.refl _ _⟩
    case round =>
      obtain ⟨k, hk, rfl, hown, hb⟩ := hrel
      have d0 := cell_later hb b0; have d1 := cell_later hb b1
      by_cases hlt' : k < g.obv.length
      · obtain ⟨b, o, rfl, _, hc⟩ := hco k hlt'
        obtain ⟨x, hx⟩ := get_of_lt hlt'
        have e0 := hc wr (hw1.trans (hb.mono hw1.size)) k x hx
        have Hx := Lib.hid hx; clear hx hc
        have hl1 : (k : Int) < (g.obv.length : Int) := by omega
        have hl0 : (0 : Int) ≤ (k : Int) := by omega
        have hlen : ((g.obv.take k).map (Die.mk 0)).length ≤ 32 := by simp; omega
        have hBs := hb.size
        go_wp2_with (at_builtin; refine wpList_append1 (enc := encD) (size := 2) (B := w1.heap.size) rfl (.tmp 19) (.tmp 22) _ rfl 46 iD _ 16 Try.underlying26 hiD hzD hkD hbD rfl (by decide) rfl hown (Die.mk 0 x) _ rfl lenD oneD _ rfl rfl (by omega) (by omega) hBs ?_; intro v' w2 hown' hgrow hat)
        refine ⟨?rel, ?measure⟩
        case rel => exact ⟨k + 1, by omega, by go_num, by rw [map_take_snoc _ Hx.out]; exact hown', hb.trans (below_append hown hgrow hBs)⟩
        case measure => simp [intOf]; omega
      · have e1 : g.obv.take k = g.obv := List.take_of_length_le (by omega)
        rw [e1] at hown
        clear e1
        have hb0 := hb
        go_wp2_with fail
        go_loopw [4, 28] (fun u i wr => ∃ k : Nat, k ≤ g.rev.length ∧ i = .int .i64 k ∧ OwnD w1.heap.size wr u (g.obv.map (Die.mk 0) ++ (g.rev.take k).map (Die.mk 1)) ∧ Below w1.heap.size w1 wr) (fun _ i _ => g.rev.length - (intOf i).toNat)
        case atStart => exact ⟨0, Nat.zero_le _, rfl, by simpa using hown, hb⟩
        case round =>
          clear hown hb hb0 d0 d1
          obtain ⟨j, hj, rfl, hown, hb⟩ := hrel
          have d1 := cell_later hb b1
          by_cases hlt2 : j < g.rev.length
          · obtain ⟨b, o, rfl, _, hc⟩ := hcr j hlt2
            obtain ⟨x, hx⟩ := get_of_lt hlt2
            have e0 := hc _ (hw1.trans (hb.mono hw1.size)) j x hx
            have Hx := Lib.hid hx; clear hx hc
            have hl1 : (j : Int) < (g.rev.length : Int) := by omega
            have hl0 : (0 : Int) ≤ (j : Int) := by omega
            have hlen : (g.obv.map (Die.mk 0) ++ (g.rev.take j).map (Die.mk 1)).length ≤ 64 := by simp; omega
            have hBs := hb.size
            go_wp2_with (at_builtin; refine wpList_append1 (enc := encD) (size := 2) (B := w1.heap.size) rfl (.tmp 32) (.tmp 35) _ rfl 46 iD _ 16 Try.underlying26 hiD hzD hkD hbD rfl (by decide) rfl hown (Die.mk 1 x) _ rfl lenD oneD _ rfl rfl (by omega) (by omega) hBs ?_; intro v' w2 hown' hgrow hat)
            refine ⟨?rel, ?measure⟩
            case rel => exact ⟨j + 1, by omega, by go_num, by rw [map_take_snoc _ Hx.out, ← List.append_assoc]; exact hown', hb.trans (below_append hown hgrow hBs)⟩
            case measure => simp [intOf]; omega
          · have e1 : g.rev.take j = g.rev := List.take_of_length_le (by omega)
            rw [e1] at hown
            clear e1
            go_wp2_with fail
            go_ret2
            exact ⟨_, ret_mat Hvz.out.symm, by rw [Hmz.out]; exact hown.base hw1.size, hw1.trans (hb.mono hw1.size)⟩
theorem Dies_ok (v : Value) (g : Graph) (w : World) (h : GraphAt w v g) :
    Calls Try.prog 29 #[v] w fun e w' => ∃ u, e = .returned (.tuple #[u, .int .i64 (validE g)]) ∧ Dies w' u (diesG g) ∧ Below w.heap.size w w' :=
  (Dies_own v g w h).mono fun _ _ ⟨u, h1, h2, h3⟩ => ⟨u, h1, h2.slOf, h3⟩

end Go.Proofs.Ytnaoiochfdipiaa
/- linkage.Partners. Condition: the argument reads as a graph. -/
namespace Go.Proofs.Ytnaoiochfdipiaa
open Go.RowKit Go.Shelf

def partE (g : Graph) (d : Die) : Int := if graphB g = true then (if degI g d = 0 then 7 else 0) else 1
def partL (g : Graph) (d : Die) : List Int := (g.links.filter fun x => touchB x d).map fun x => endI x (1 - d.side)
def partG (g : Graph) (d : Die) : List Int := if graphB g = true then withs (partL g d) else []

theorem deg_zero {g : Graph} {d : Die} (h : degI g d = 0) (hg : graphB g = true) : partL g d = [] := by
  simp only [degI, if_pos hg] at h
  have h0 : g.links.countP (fun x => touchB x d) = 0 := by omega
  rw [List.countP_eq_zero] at h0
  have : (g.links.filter fun x => touchB x d) = [] := List.filter_eq_nil_iff.2 h0
  simp [partL, this]
theorem deg_side {g : Graph} {d : Die} (h : degI g d ≠ 0) : d.side = 0 ∨ d.side = 1 := by
  by_cases hs : d.side = 0 ∨ d.side = 1
  · exact hs
  · exfalso; apply h
    unfold degI
    split
    · have : g.links.countP (fun x => touchB x d) = 0 := by simp [touch_none hs]
      rw [this]; rfl
    · rfl
theorem filter_map_snoc {α β : Type} {p : α → Bool} {f : α → β} {l : List α} {k : Nat} {x : α} (hx : l[k]? = some x) : ((l.take (k + 1)).filter p).map f = ((l.take k).filter p).map f ++ (if p x = true then [f x] else []) := by
  rw [take_snoc' hx, List.filter_append, List.map_append]
  congr 1
  by_cases h : p x = true <;> simp [h]
theorem graphB_links {g : Graph} (h : graphB g = true) : g.links.length ≤ 64 := ((graphB_parts g).1 h).1.1.2.2
theorem end_later {x : Link} {s : Int} {w : World} {y : Later w} : Calls Try.prog 62 #[.agg #[.int .i64 x.id, .int .i64 x.obv, .int .i64 x.rev], .int .i64 s] y.to fun e w' => e = .returned (.int .i64 (endI x s)) ∧ ∃ z : Later w, w' = z.to :=
  (end_ok x s y.to).mono fun _ _ ⟨he, hb⟩ => ⟨he, later (below_trans y.h hb)⟩

def pickL (ls : List Link) (s o n : Int) : List Int := (ls.filter fun x => touchB x ⟨s, n⟩).map fun x => endI x o
theorem pick_snoc {ls : List Link} {k : Nat} {x : Link} {s o n : Int} (hx : ls[k]? = some x) : pickL (ls.take (k + 1)) s o n = pickL (ls.take k) s o n ++ (if touchB x ⟨s, n⟩ = true then [endI x o] else []) := filter_map_snoc hx
theorem pick_len (ls : List Link) (s o n : Int) : (pickL ls s o n).length ≤ ls.length := by
  rw [pickL, List.length_map]; exact List.length_filter_le _ _
set_option maxHeartbeats 4000000 in
theorem Partners_own (v : Value) (g : Graph) (s n : Int) (w : World) (h : GraphAt w v g) :
    Calls Try.prog 47 #[v, .agg #[.int .i64 s, .int .i64 n]] w fun e w' => ∃ u, e = .returned (.tuple #[u, .int .i64 (partE g ⟨s, n⟩)]) ∧ OwnI w.heap.size w' u (partG g ⟨s, n⟩) ∧ Below w.heap.size w w' := by
  have h0 := h
  obtain ⟨v1, v2, v3, rfl, ho, hr, hl⟩ := h
  obtain ⟨A1, c1, rfl, _, _, _⟩ := ho.cells
  obtain ⟨A2, c2, rfl, _, _, _⟩ := hr.cells
  obtain ⟨A3, c3, rfl, l1, l2, hcl⟩ := hl.cells
  obtain ⟨W0, hW0, Hz0, hwW0, hlt0, hc0⟩ := boxed w #[.slice A1 g.obv.length c1, .slice A2 g.rev.length c2, .slice A3 g.links.length c3] 25
  obtain ⟨W, hW, Hz, hWW, hlt, hc1⟩ := boxed W0 #[.int .i64 s, .int .i64 n] 46
  have hwW := below_trans hwW0 hWW
  have a0 := cell_later hWW (hc0 0 _ rfl); have a1 := cell_later hWW (hc0 1 _ rfl); have a2 := cell_later hWW (hc0 2 _ rfl)
  have b0 := hc1 0 _ rfl; have b1 := hc1 1 _ rfl
  clear hc0 hc1
  rw [Hz0.out] at b0 b1
  have hW' : (w.alloc (.cells #[.slice A1 g.obv.length c1, .slice A2 g.rev.length c2, .slice A3 g.links.length c3] 25)).alloc (.cells #[.int .i64 s, .int .i64 n] 46) = W := by rw [hW0, hW]
  clear hW0 hW
  go_enter Try.func47, Try.ntmps47
  go_wp2_with fail
  have hV := Valid_ok _ _ _ (h0.below hwW)
  cases hg : graphB g
  · rw [hg] at hV
    refine hV.mono ?_
    rintro e w1 ⟨rfl, hb1⟩
    clear hW' hV
    have hw1 := below_trans hwW hb1
    have hE : partE g ⟨s, n⟩ = 1 := by simp [partE, hg]
    have hG : partG g ⟨s, n⟩ = [] := by simp [partG, hg]
    have HE := Lib.hid hE; have HG := Lib.hid hG; clear hE hG hg
    go_wp2_with fail
    go_ret2
    exact ⟨_, ret_mat HE.out.symm, by rw [HG.out]; exact own_nil encI 1 3 _ _, hw1⟩
  rw [hg] at hV
  refine hV.mono ?_
  rintro e w1 ⟨rfl, hb1⟩
  clear hW' hV
  have a0' := cell_later hb1 a0; have a1' := cell_later hb1 a1; have a2' := cell_later hb1 a2; have b0' := cell_later hb1 b0; have b1' := cell_later hb1 b1
  have hw1 := below_trans hwW hb1
  clear a0 a1 a2 b0 b1
  have Hg := Lib.hid hg; clear hg
  go_wp2_with fail
  refine (Degree_ok _ _ ⟨s, n⟩ _ (h0.below hw1)).mono ?_
  rintro e w2 ⟨rfl, hb2⟩
  have a0 := cell_later hb2 a0'; have a1 := cell_later hb2 a1'; have a2 := cell_later hb2 a2'; have b0 := cell_later hb2 b0'; have b1 := cell_later hb2 b1'
  have hw2 := below_trans hw1 hb2
  clear a0' a1' a2' b0' b1'
  by_cases hd : degI g ⟨s, n⟩ = 0
  · have hE : partE g ⟨s, n⟩ = 7 := by simp [partE, Hg.out, hd]
    have hG : partG g ⟨s, n⟩ = [] := by simp [partG, Hg.out, deg_zero hd Hg.out, withs]
    have HE := Lib.hid hE; have HG := Lib.hid hG; clear hE hG
    have ht : (degI g ⟨s, n⟩ == 0) = true := by simp [hd]
    clear hd
    go_wp2_with fail
    go_ret2
    exact ⟨_, ret_mat HE.out.symm, by rw [HG.out]; exact own_nil encI 1 3 _ _, hw2⟩
  have hE : partE g ⟨s, n⟩ = 0 := by simp [partE, Hg.out, hd]
  have hG : partG g ⟨s, n⟩ = withs (partL g ⟨s, n⟩) := by simp [partG, Hg.out]
  have HE := Lib.hid hE; have HG := Lib.hid hG; clear hE hG
  have ht0 : (degI g ⟨s, n⟩ == 0) = false := by simp [hd]
  have hside := deg_side hd
  have hll := graphB_links Hg.out
  clear hd
  obtain ⟨iI, hiI, hzI, hkI, hbI⟩ := info_parts infoI
  rcases hside with hs | hs
  · simp only at hs
    subst hs
    have hpart : partL g ⟨0, n⟩ = pickL g.links 0 1 n := rfl
    have Hpart := Lib.hid hpart; clear hpart
    go_wp2_with fail
    go_loopw [6, 19] (fun u i wr => ∃ k : Nat, k ≤ g.links.length ∧ i = .int .i64 k ∧ OwnI w2.heap.size wr u (pickL (g.links.take k) 0 1 n) ∧ Below w2.heap.size w2 wr) (fun _ i _ => g.links.length - (intOf i).toNat)
    case atStart => exact ⟨0, Nat.zero_le _, rfl, own_nil _ _ _ _ _, Below.refl _ _⟩
    case round =>
      clear ht0
      obtain ⟨k, hk, rfl, hown, hb⟩ := hrel
      have hlen := pick_len (g.links.take k) 0 1 n
      rw [List.length_take] at hlen
      by_cases hlt' : k < g.links.length
      · obtain ⟨b, o, rfl, _, hc⟩ := hcl k hlt'
        obtain ⟨x, hx⟩ := get_of_lt hlt'
        obtain ⟨c0, c1', c2'⟩ := hc wr (hw2.trans (hb.mono hw2.size)) k x hx
        have Hx := Lib.hid hx; clear hx hc
        obtain ⟨W1, hW1, Hz1, hb3, hlt1, hc1⟩ := boxed wr #[.int .i64 x.id, .int .i64 x.obv, .int .i64 x.rev] 32
        have m0 := Later.cell_all (hc1 0 _ rfl); have m1 := Later.cell_all (hc1 1 _ rfl); have m2 := Later.cell_all (hc1 2 _ rfl)
        have n0 := Later.cell_all (cell_later hb3 (cell_later hb b0)); have n1 := Later.cell_all (cell_later hb3 (cell_later hb b1))
        clear hc1
        have hbW1 := hb.trans (hb3.mono hb.size)
        have hsn := pick_snoc (s := 0) (o := 1) (n := n) Hx.out
        rw [touch_end (x := x) (d := ⟨0, n⟩) (.inl rfl)] at hsn
        simp only at hsn
        cases ht : (endI x 0 == n)
        · rw [ht, if_neg (by simp), List.append_nil] at hsn
          have Hsn := Lib.hid hsn; clear hsn
          go_wp2_with fail
          refine wp_region_later (by kernel_rfl) (by kernel_rfl) ?_
          repeat (go_big_quiet_step (first | (go_at_call 62; with_reducible exact end_later)))
          refine wpQuiet_nil ?_
          intro _ hw'
          obtain ⟨xq, hw''⟩ := hw'
          subst hw''
          go_wp2_with fail
          refine ⟨?rel, ?measure⟩
          case rel => exact ⟨k + 1, by omega, by go_num, by rw [Hsn.out]; exact hown.below (below_trans hb3 xq.h), hbW1.trans (xq.h.mono hbW1.size)⟩
          case measure => simp [intOf]; omega
        · rw [ht, if_pos rfl] at hsn
          have Hsn := Lib.hid hsn; clear hsn
          go_wp2_with fail
          refine wp_region_later (by kernel_rfl) (by kernel_rfl) ?_
          repeat (go_big_quiet_step (first | (go_at_call 62; with_reducible exact end_later)))
          refine wpQuiet_nil ?_
          intro _ hw'
          obtain ⟨xq, hw''⟩ := hw'
          subst hw''
          go_wp2_with fail
          refine (end_later).mono ?_
          rintro e w' ⟨rfl, y, rfl⟩
          have hq := hown.below (below_trans hb3 y.h)
          have hby := hbW1.trans (y.h.mono hbW1.size)
          have hBs := hby.size
          go_wp2_with (at_builtin; refine wpList_append1 (enc := encI) (size := 1) (B := w2.heap.size) rfl (.tmp 30) (.tmp 36) _ rfl 3 iI _ 8 Try.underlying22 hiI hzI hkI hbI rfl (by decide) rfl hq (endI x 1) _ rfl lenI oneI _ rfl rfl (by omega) (by omega) hBs ?_; intro v' w3 hown' hgrow hat)
          refine ⟨?rel, ?measure⟩
          case rel => exact ⟨k + 1, by omega, by go_num, by rw [Hsn.out]; exact hown', hby.trans (below_append hq hgrow hBs)⟩
          case measure => simp [intOf]; omega
      · have e1 : g.links.take k = g.links := List.take_of_length_le (by omega)
        rw [e1] at hown
        have hpl : (pickL g.links 0 1 n).length ≤ 1048576 := by have := pick_len g.links 0 1 n; omega
        have hsl : (sortI (pickL g.links 0 1 n)).length ≤ 1048576 := by rw [sortI_len]; exact hpl
        clear e1
        have Ho := Lib.hid hown; clear hown
        go_wp2_with fail
        refine (sortI_ok _ _ _ _ Ho.out hpl).mono ?_
        rintro e w4 ⟨rfl, s1, hg1⟩
        have B1 := hb.grown hg1 hb.size (fun j e => (Ho.out.lt j e).1)
        go_wp2_with fail
        refine (compactI_ok _ _ _ _ s1 hsl).mono ?_
        rintro e w5 ⟨z, rfl, x1, hk1, hg2⟩
        have B2 := B1.grown hg2 B1.size (fun j e => (Ho.out.lt j e).1)
        rw [compact_sortI, ← Hpart.out, ← HG.out] at x1
        go_wp2_with fail
        go_ret2
        exact ⟨_, ret_mat HE.out.symm, x1.base hw2.size, hw2.trans (B2.mono hw2.size)⟩
  · simp only at hs
    subst hs
    have hpart : partL g ⟨1, n⟩ = pickL g.links 1 0 n := rfl
    have Hpart := Lib.hid hpart; clear hpart
    go_wp2_with fail
    go_loopw [6, 19] (fun u i wr => ∃ k : Nat, k ≤ g.links.length ∧ i = .int .i64 k ∧ OwnI w2.heap.size wr u (pickL (g.links.take k) 1 0 n) ∧ Below w2.heap.size w2 wr) (fun _ i _ => g.links.length - (intOf i).toNat)
    case atStart => exact ⟨0, Nat.zero_le _, rfl, own_nil _ _ _ _ _, Below.refl _ _⟩
    case round =>
      clear ht0
      obtain ⟨k, hk, rfl, hown, hb⟩ := hrel
      have hlen := pick_len (g.links.take k) 1 0 n
      rw [List.length_take] at hlen
      by_cases hlt' : k < g.links.length
      · obtain ⟨b, o, rfl, _, hc⟩ := hcl k hlt'
        obtain ⟨x, hx⟩ := get_of_lt hlt'
        obtain ⟨c0, c1', c2'⟩ := hc wr (hw2.trans (hb.mono hw2.size)) k x hx
        have Hx := Lib.hid hx; clear hx hc
        obtain ⟨W1, hW1, Hz1, hb3, hlt1, hc1⟩ := boxed wr #[.int .i64 x.id, .int .i64 x.obv, .int .i64 x.rev] 32
        have m0 := Later.cell_all (hc1 0 _ rfl); have m1 := Later.cell_all (hc1 1 _ rfl); have m2 := Later.cell_all (hc1 2 _ rfl)
        have n0 := Later.cell_all (cell_later hb3 (cell_later hb b0)); have n1 := Later.cell_all (cell_later hb3 (cell_later hb b1))
        clear hc1
        have hbW1 := hb.trans (hb3.mono hb.size)
        have hsn := pick_snoc (s := 1) (o := 0) (n := n) Hx.out
        rw [touch_end (x := x) (d := ⟨1, n⟩) (.inr rfl)] at hsn
        simp only at hsn
        cases ht : (endI x 1 == n)
        · rw [ht, if_neg (by simp), List.append_nil] at hsn
          have Hsn := Lib.hid hsn; clear hsn
          go_wp2_with fail
          refine wp_region_later (by kernel_rfl) (by kernel_rfl) ?_
          repeat (go_big_quiet_step (first | (go_at_call 62; with_reducible exact end_later)))
          refine wpQuiet_nil ?_
          intro _ hw'
          obtain ⟨xq, hw''⟩ := hw'
          subst hw''
          go_wp2_with fail
          refine ⟨?rel, ?measure⟩
          case rel => exact ⟨k + 1, by omega, by go_num, by rw [Hsn.out]; exact hown.below (below_trans hb3 xq.h), hbW1.trans (xq.h.mono hbW1.size)⟩
          case measure => simp [intOf]; omega
        · rw [ht, if_pos rfl] at hsn
          have Hsn := Lib.hid hsn; clear hsn
          go_wp2_with fail
          refine wp_region_later (by kernel_rfl) (by kernel_rfl) ?_
          repeat (go_big_quiet_step (first | (go_at_call 62; with_reducible exact end_later)))
          refine wpQuiet_nil ?_
          intro _ hw'
          obtain ⟨xq, hw''⟩ := hw'
          subst hw''
          go_wp2_with fail
          refine (end_later).mono ?_
          rintro e w' ⟨rfl, y, rfl⟩
          have hq := hown.below (below_trans hb3 y.h)
          have hby := hbW1.trans (y.h.mono hbW1.size)
          have hBs := hby.size
          go_wp2_with (at_builtin; refine wpList_append1 (enc := encI) (size := 1) (B := w2.heap.size) rfl (.tmp 30) (.tmp 36) _ rfl 3 iI _ 8 Try.underlying22 hiI hzI hkI hbI rfl (by decide) rfl hq (endI x 0) _ rfl lenI oneI _ rfl rfl (by omega) (by omega) hBs ?_; intro v' w3 hown' hgrow hat)
          refine ⟨?rel, ?measure⟩
          case rel => exact ⟨k + 1, by omega, by go_num, by rw [Hsn.out]; exact hown', hby.trans (below_append hq hgrow hBs)⟩
          case measure => simp [intOf]; omega
      · have e1 : g.links.take k = g.links := List.take_of_length_le (by omega)
        rw [e1] at hown
        have hpl : (pickL g.links 1 0 n).length ≤ 1048576 := by have := pick_len g.links 1 0 n; omega
        have hsl : (sortI (pickL g.links 1 0 n)).length ≤ 1048576 := by rw [sortI_len]; exact hpl
        clear e1
        have Ho := Lib.hid hown; clear hown
        go_wp2_with fail
        refine (sortI_ok _ _ _ _ Ho.out hpl).mono ?_
        rintro e w4 ⟨rfl, s1, hg1⟩
        have B1 := hb.grown hg1 hb.size (fun j e => (Ho.out.lt j e).1)
        go_wp2_with fail
        refine (compactI_ok _ _ _ _ s1 hsl).mono ?_
        rintro e w5 ⟨z, rfl, x1, hk1, hg2⟩
        have B2 := B1.grown hg2 B1.size (fun j e => (Ho.out.lt j e).1)
        rw [compact_sortI, ← Hpart.out, ← HG.out] at x1
        go_wp2_with fail
        go_ret2
        exact ⟨_, ret_mat HE.out.symm, x1.base hw2.size, hw2.trans (B2.mono hw2.size)⟩
theorem Partners_ok (v : Value) (g : Graph) (s n : Int) (w : World) (h : GraphAt w v g) :
    Calls Try.prog 47 #[v, .agg #[.int .i64 s, .int .i64 n]] w fun e w' => ∃ u, e = .returned (.tuple #[u, .int .i64 (partE g ⟨s, n⟩)]) ∧ Ints w' u (partG g ⟨s, n⟩) ∧ Below w.heap.size w w' :=
  (Partners_own v g s n w h).mono fun _ _ ⟨u, h1, h2, h3⟩ => ⟨u, h1, h2.slOf, h3⟩
end Go.Proofs.Ytnaoiochfdipiaa
