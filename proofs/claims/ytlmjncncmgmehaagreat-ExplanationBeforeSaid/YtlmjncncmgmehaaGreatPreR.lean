/- Reference 21: Before. Condition: the list reads as such. -/
import Derived.Test.YtlmjncncmgmehaaGreatPreA
import Derived.Test.YtlmjncncmgmehaaGreatPreM
namespace Go.Proofs.YtlmjncncmgmehaaGreat
open Go.RowKit Go.Maps Go.Shelf

set_option maxHeartbeats 2000000 in
theorem die21_ok (s : Spec) (o : Int) (w : World) : Calls Tryz.prog 167 #[valS s, .int .i64 o] w fun e w' => e = .returned (.tuple #[.int .i64 (numO s o), .int .i64 (stO s o)]) ∧ Below w.heap.size w w' := by
  obtain ⟨W, hW, Hz, hwW, hlt0, hc0⟩ := boxed w (encS s).toArray 38
  simp only [encS] at hW hc0
  have a1 := hc0 1 _ rfl; have a2 := hc0 2 _ rfl; have a3 := hc0 3 _ rfl; have a4 := hc0 4 _ rfl
  have A1 := Later.cell_all a1; have A2 := Later.cell_all a2; have A3 := Later.cell_all a3; have A4 := Later.cell_all a4
  clear hc0
  by_cases ho : o = 0
  · rw [numO, stO, if_pos ho, if_pos ho]
    have d1 : (o == 0) = true := by simpa using ho
    clear ho
    go_enter Tryz.func167, Tryz.ntmps167
    go_wp2_with fail
    refine wp_region_later (by kernel_rfl) (by kernel_rfl) ?_
    repeat (go_big_quiet_step (first | fail))
    refine wpQuiet_nil ?_
    intro _ hw'
    obtain ⟨xq, hw''⟩ := hw'
    subst hw''
    have hbz := xq.h
    generalize xq.to = wz at hbz ⊢
    go_wp2_with fail
    exact bodyPost_ret (v := .tuple #[.int .i64 s.obv, .int .i64 s.os]) (by simp [results, Tryz.results167, go_sem]) rfl ⟨rfl, below_trans hwW hbz⟩
  · rw [numO, stO, if_neg ho, if_neg ho]
    have d1 : (o == 0) = false := by simpa using ho
    clear ho
    go_enter Tryz.func167, Tryz.ntmps167
    go_wp2_with fail
    refine wp_region_later (by kernel_rfl) (by kernel_rfl) ?_
    repeat (go_big_quiet_step (first | fail))
    refine wpQuiet_nil ?_
    intro _ hw'
    obtain ⟨xq, hw''⟩ := hw'
    subst hw''
    have hbz := xq.h
    generalize xq.to = wz at hbz ⊢
    go_wp2_with fail
    exact bodyPost_ret (v := .tuple #[.int .i64 s.rev, .int .i64 s.rs]) (by simp [results, Tryz.results167, go_sem]) rfl ⟨rfl, below_trans hwW hbz⟩
set_option maxHeartbeats 4000000 in
theorem befR21_ok (s t : Spec) (o : Int) (w : World) : Calls Tryz.prog 154 #[valS s, valS t, .int .i64 o] w fun e w' => e = .returned (.bool (befB o s t)) ∧ Below w.heap.size w w' := by
  obtain ⟨W, hW, Hz, hwW, hlt0, hc0⟩ := boxed w (encS s).toArray 38
  simp only [encS] at hW hc0
  obtain ⟨V, hV, HzV, hwV, hltV, hcV⟩ := boxed W (encS t).toArray 38
  simp only [encS] at hV hcV
  have a0 := cell_later hwV (hc0 0 _ rfl); have a1 := cell_later hwV (hc0 1 _ rfl); have a2 := cell_later hwV (hc0 2 _ rfl); have a3 := cell_later hwV (hc0 3 _ rfl); have a4 := cell_later hwV (hc0 4 _ rfl); have a5 := cell_later hwV (hc0 5 _ rfl); have a6 := cell_later hwV (hc0 6 _ rfl)
  have b0 := hcV 0 _ rfl; have b1 := hcV 1 _ rfl; have b2 := hcV 2 _ rfl; have b3 := hcV 3 _ rfl; have b4 := hcV 4 _ rfl; have b5 := hcV 5 _ rfl; have b6 := hcV 6 _ rfl
  have hw2 := below_trans hwW hwV
  have HA := Lib.hid (die21_ok s o V)
  have HB := Lib.hid (fun W' => die21_ok t o W')
  have HR : Hid (befB o s t = ((numO s o == numO t o) && decide (stO s o < stO t o))) := Lib.hid rfl
  generalize befB o s t = R at HR ⊢
  generalize numO s o = n1 at HA HR
  generalize stO s o = x1 at HA HR
  generalize numO t o = n2 at HB HR
  generalize stO t o = x2 at HB HR
  clear hc0 hcV
  go_enter Tryz.func154, Tryz.ntmps154
  go_wp2_with fail
  refine HA.out.mono ?_
  rintro e w3 ⟨rfl, hb3⟩
  have b0 := cell_later hb3 b0; have b1 := cell_later hb3 b1; have b2 := cell_later hb3 b2; have b3 := cell_later hb3 b3; have b4 := cell_later hb3 b4; have b5 := cell_later hb3 b5; have b6 := cell_later hb3 b6
  clear a0 a1 a2 a3 a4 a5 a6
  go_wp2_with fail
  refine (HB.out _).mono ?_
  rintro e w4 ⟨rfl, hb4⟩
  clear b0 b1 b2 b3 b4 b5 b6
  have hw4 := below_trans hw2 (below_trans hb3 hb4)
  cases hn : (n1 == n2)
  · go_wp2_with fail
    go_ret
    exact ⟨ret_bool (by rw [HR.out, hn]; rfl), hw4⟩
  · go_wp2_with fail
    go_ret
    exact ⟨ret_bool (by rw [HR.out, hn]; rfl), hw4⟩
theorem rowW_len (o : Int) (s : Spec) (i : Nat) (l : List Spec) (hl : l.length ≤ 64) : (rowW o s i l).length ≤ 64 := by
  unfold rowW
  exact Nat.le_trans (List.length_filterMap_le _ _) (by simpa using hl)
theorem arcsW_len (o : Int) (l xs : List Spec) (hl : l.length ≤ 64) : (arcsW o l xs).length ≤ 64 * xs.length := by
  have h2 : ∀ (xs : List (Spec × Nat)), (xs.flatMap fun p => rowW o p.1 p.2 l).length ≤ 64 * xs.length := fun xs => by
    induction xs with
    | nil => simp
    | cons x xs ih =>
      rw [List.flatMap_cons, List.length_append, List.length_cons]
      have := rowW_len o x.1 x.2 l hl
      omega
  have := h2 xs.zipIdx
  have h3 : xs.zipIdx.length = xs.length := by simp
  unfold arcsW
  omega
set_option maxHeartbeats 8000000 in
set_option maxRecDepth 100000 in
theorem Before21_ok (v : Value) (l : List Spec) (o : Int) (w : World) (h : Specs w v l) (hE : checkE l = 0) (ho : o = 0 ∨ o = 1) :
    Calls Tryz.prog 128 #[v, .int .i64 o] w fun e w' => ∃ u, e = .returned (.tuple #[u, .int .i64 0]) ∧ OwnAr w.heap.size w' u (arcsW o l l) ∧ Below w.heap.size w w' := by
  obtain ⟨A, c, rfl, _⟩ := id h
  have hll : l.length ≤ 64 := (checkE_zero hE).1
  have HC := Lib.hid (Check_ok _ l w h)
  rw [hE] at HC
  have Hh := Lib.hid h
  obtain ⟨iA, hiA, hzA, hkA, hbA⟩ := info_parts infoAr
  have d1 : (o != 0) = true ∧ (o != 1) = false ∨ (o != 0) = false := by rcases ho with rfl | rfl <;> simp
  have D1 := Lib.hid d1
  clear h hE ho d1
  go_enter Tryz.func128, Tryz.ntmps128
  go_wp2_with fail
  refine HC.out.mono ?_
  rintro e w1 ⟨rfl, hb1⟩
  have hBz := hb1.size
  rcases D1.out with ⟨t1, t2⟩ | t1
  all_goals
    go_wp2_with fail
    go_loopw [7, 8] (fun u i wr => ∃ k : Nat, k ≤ l.length ∧ i = .int .i64 k ∧ OwnAr w.heap.size wr u (arcsW o l (l.take k)) ∧ Below w.heap.size w wr) (fun _ i _ => l.length - (intOf i).toNat)
    case atStart => exact ⟨0, Nat.zero_le _, rfl, own_nil _ _ _ _ _, hb1⟩
    case round =>
      obtain ⟨k, hk, rfl, hown, hb⟩ := hrel
      by_cases hlt : k < l.length
      case neg =>
        rw [List.take_of_length_le (by omega)] at hown
        have HO := Lib.hid hown
        obtain ⟨Au, cu, rfl, _⟩ := id hown.slOf
        clear hown
        go_wp2_with fail
        exact bodyPost_ret (v := .tuple #[.slice Au (arcsW o l l).length cu, .int .i64 0]) (by simp [results, Tryz.results128, go_sem]) rfl ⟨_, rfl, HO.out, hb⟩
      obtain ⟨x, hx⟩ := get_of_lt hlt
      have hsn := arcs_snoc (o := o) (l := l) hx
      have hQl := arcsW_len o l (l.take k) hll
      have hQl2 : (arcsW o l (l.take k)).length ≤ 4096 := by rw [List.length_take] at hQl; omega
      obtain ⟨Q, hQ⟩ : ∃ Q, arcsW o l (l.take k) = Q := ⟨_, rfl⟩
      rw [hQ] at hown hsn hQl2
      have Hsn := Lib.hid hsn; have Hx := Lib.hid hx
      have Hown := Lib.hid (show OwnAr w.heap.size wr _ (Q ++ rowW o x k (l.take 0)) from by simpa [rowW] using hown)
      have hk1 : (k : Int) < (l.length : Int) := by omega
      have hk0 : (0 : Int) ≤ (k : Int) := by omega
      clear hown hsn hQ hQl hx
      go_wp2_with fail
      go_loopw [7, 9] (fun u i wr => ∃ j : Nat, j ≤ l.length ∧ i = .int .i64 j ∧ OwnAr w.heap.size wr u (Q ++ rowW o x k (l.take j)) ∧ Below w.heap.size w wr) (fun _ i _ => l.length - (intOf i).toNat)
      case atStart => exact ⟨0, Nat.zero_le _, rfl, Hown.out, hb⟩
      case round =>
        clear Hown hb
        obtain ⟨j, hj, rfl, hown, hb⟩ := hrel
        by_cases hltj : j < l.length
        case neg =>
          have HN : Hid (arcsW o l (l.take (k + 1)) = Q ++ rowW o x k (l.take j)) := Lib.hid (by rw [Hsn.out, List.take_of_length_le (show l.length ≤ j by omega)])
          have HO := Lib.hid hown
          clear hown
          go_wp2_with fail
          refine ⟨?rel, ?measure⟩
          case rel => exact ⟨k + 1, by omega, by go_num, by rw [HN.out]; exact HO.out, hb⟩
          case measure => first | (simp [intOf]; done) | (simp [intOf]; omega)
        obtain ⟨y, hy⟩ := get_of_lt hltj
        obtain ⟨_, _, ex, _, _, hc⟩ := Hh.out.cells
        cases ex
        obtain ⟨bo, oo, rfl, _, hcb⟩ := hc k hlt
        obtain ⟨x0, x1, x2, x3, x4, x5, x6⟩ := hcb wr hb k x Hx.out
        obtain ⟨y0, y1, y2, y3, y4, y5, y6⟩ := hcb wr hb j y hy
        have X0 := Later.cell_all x0; have X1 := Later.cell_all x1; have X2 := Later.cell_all x2; have X3 := Later.cell_all x3; have X4 := Later.cell_all x4; have X5 := Later.cell_all x5; have X6 := Later.cell_all x6
        have Y0 := Later.cell_all y0; have Y1 := Later.cell_all y1; have Y2 := Later.cell_all y2; have Y3 := Later.cell_all y3; have Y4 := Later.cell_all y4; have Y5 := Later.cell_all y5; have Y6 := Later.cell_all y6
        have hrs := row_snoc (o := o) (s := x) (i := k) hy
        obtain ⟨T, hT⟩ : ∃ T, befB o x y = T := ⟨_, rfl⟩
        have HB := fun z : Later wr => befR21_ok x y o z.to
        rw [hT] at hrs HB
        have Hrs := Lib.hid hrs; have HB' := Lib.hid HB; have HO := Lib.hid hown
        have hRl : (Q ++ rowW o x k (l.take j)).length ≤ 4160 := by
          have := rowW_len o x k (l.take j) (by rw [List.length_take]; omega)
          rw [List.length_append]; omega
        have hj1 : (j : Int) < (l.length : Int) := by omega
        have hj0 : (0 : Int) ≤ (j : Int) := by omega
        clear hc hcb hy hrs HB hown hT x0 x1 x2 x3 x4 x5 x6 y0 y1 y2 y3 y4 y5 y6
        go_wp2_with fail
        refine wp_region_later (by kernel_rfl) (by kernel_rfl) ?_
        repeat (go_big_quiet_step (first | (go_at_call 154; with_reducible exact calls_later (HB'.out _))))
        refine wpQuiet_nil ?_
        intro _ hw'
        obtain ⟨xq, hw''⟩ := hw'
        subst hw''
        have hbq := xq.h
        generalize xq.to = wq at hbq ⊢
        clear X0 X1 X2 X3 X4 X5 X6 Y0 Y1 Y2 Y3 Y4 Y5 Y6
        have hbb := below_trans hb hbq
        have hownq := HO.out.below hbq
        have hzq := hbb.size
        cases T
        · have HT : Hid (Q ++ rowW o x k (l.take (j + 1)) = Q ++ rowW o x k (l.take j)) := Lib.hid (by rw [Hrs.out]; simp)
          go_wp2_with fail
          refine ⟨?rel, ?measure⟩
          case rel => exact ⟨j + 1, by omega, by go_num, by rw [HT.out]; exact hownq, hbb⟩
          case measure => first | (simp [intOf]; done) | (simp [intOf]; omega)
        · have HT : Hid (Q ++ rowW o x k (l.take (j + 1)) = Q ++ rowW o x k (l.take j) ++ [(⟨k, j⟩ : Pair)]) := Lib.hid (by rw [Hrs.out, ← List.append_assoc]; rfl)
          go_wp2_with (at_builtin; refine wpList_append1 (enc := encP) (size := 2) (B := w.heap.size) rfl (.tmp 43) (.tmp 47) _ rfl 138 iA _ 16 Tryz.underlying88 hiA hzA hkA hbA rfl (by decide) rfl hownq (⟨k, j⟩ : Pair) _ rfl lenP oneP _ rfl rfl (by omega) (by omega) hzq ?_; intro v' w7 hown' hgrow hat)
          go_simp
          have hb8 := hbb.grown hgrow hzq (fun j e => (hownq.lt j e).1)
          refine ⟨?rel, ?measure⟩
          case rel => exact ⟨j + 1, by omega, by go_num, by rw [HT.out]; exact hown', hb8⟩
          case measure => first | (simp [intOf]; done) | (simp [intOf]; omega)
set_option maxHeartbeats 4000000 in
theorem place22_ok (v : Value) (l : List Spec) (id : Int) (w : World) (h : Specs w v l) :
    Calls Tryz.prog 85 #[v, .int .i64 id] w fun e w' => e = .returned (.int .i64 (firstI (fun s : Spec => s.id == id) l)) ∧ w' = w := by
  obtain ⟨A, c, rfl, _⟩ := _root_.id h
  have Hh := Lib.hid h
  clear h
  go_enter Tryz.func85, Tryz.ntmps85
  go_wp2_with fail
  go_loop [5] (fun i => ∃ k : Nat, k ≤ l.length ∧ i = .int .i64 k ∧ Hid ((l.take k).all (fun s => !(s.id == id)) = true)) (fun i => l.length - (intOf i).toNat)
  case atStart => exact ⟨0, Nat.zero_le _, rfl, by show _ = _; simp⟩
  case round =>
    obtain ⟨k, hk, rfl, Hr⟩ := hrel
    by_cases hlt : k < l.length
    · obtain ⟨x, hx⟩ := get_of_lt hlt
      obtain ⟨_, _, ex, _, _, hc⟩ := Hh.out.cells
      cases ex
      obtain ⟨bo, o, rfl, _, hcb⟩ := hc k hlt
      obtain ⟨y0, _, _, _, _, _, _⟩ := hcb w (Below.refl _ _) k x hx
      have Hx := Lib.hid hx
      have hl1 : (k : Int) < (l.length : Int) := by omega
      have hl0 : (0 : Int) ≤ (k : Int) := by omega
      obtain ⟨T, hT⟩ : ∃ T, (x.id == id) = T := ⟨_, rfl⟩
      have HT := Lib.hid hT
      clear hc hcb hx
      cases T
      · go_wp2_with fail
        refine ⟨?rel, ?measure⟩
        case rel => exact ⟨k + 1, by omega, by go_num, all_snoc Hx.out Hr.out (by simp [HT.out])⟩
        case measure => simp [intOf]; omega
      · go_wp2_with fail
        go_ret
        exact ⟨ret_i64 (firstI_hit Hx.out Hr.out HT.out).symm, rfl⟩
    · have Hm : Hid (firstI (fun s : Spec => s.id == id) l = -1) := firstI_miss (all_end hlt Hr.out)
      go_wp2_with fail
      go_ret
      exact ⟨ret_i64 Hm.out.symm, rfl⟩
end Go.Proofs.YtlmjncncmgmehaaGreat
/- Reference 22: check. Condition: the arguments read as such. -/
namespace Go.Proofs.YtlmjncncmgmehaaGreat
open Go.RowKit Go.Maps Go.Shelf

set_option maxHeartbeats 8000000 in
set_option maxRecDepth 100000 in
theorem check22_ok (A : Option Addr) (c : Nat) (l : List Spec) (cv : Value) (C : List Pair) (w : World) (h : Specs w (.slice A l.length c) l) (hC : Pairs w cv C) :
    Calls Tryz.prog 84 #[.slice A l.length c, cv] w fun e w' => e = .returned (.int .i64 (gatherE l C)) ∧ Below w.heap.size w w' := by
  obtain ⟨Ac, cc, rfl, _⟩ := id hC
  have HC := Lib.hid (Check_ok _ l w h)
  have Hh := Lib.hid h; have HCC := Lib.hid (show Pairs w _ C from hC)
  obtain ⟨E, hE⟩ : ∃ E, checkE l = E := ⟨_, rfl⟩
  obtain ⟨G, hG⟩ : ∃ G, gatherE l C = G := ⟨_, rfl⟩
  rw [hE] at HC
  rw [hG]
  have HE := Lib.hid hE; have HG := Lib.hid hG
  clear h hC hE hG
  go_enter Tryz.func84, Tryz.ntmps84
  go_wp2_with fail
  refine HC.out.mono ?_
  rintro e w1 ⟨rfl, hb1⟩
  clear HC
  by_cases hE0 : E = 0
  case neg =>
    have t : (E != 0) = true := by simpa using hE0
    have HG2 : Hid (G = E) := Lib.hid (by rw [← HG.out, gatherE, if_neg (by rw [HE.out]; exact hE0), HE.out])
    clear hE0
    go_wp2_with fail
    go_ret
    exact ⟨ret_i64 HG2.out.symm, hb1⟩
  subst hE0
  by_cases hl : l.length ≤ 24 ∧ C.length ≤ 64
  case neg =>
    have HG2 : Hid (G = 6) := Lib.hid (by rw [← HG.out, gatherE, if_pos HE.out, if_neg hl])
    by_cases h1 : l.length ≤ 24
    · have t3 : (l.length : Int) ≤ 24 := by omega
      have t4 : (64 : Int) < (C.length : Int) := by omega
      clear hl h1
      go_wp2_with fail
      go_ret
      exact ⟨ret_i64 HG2.out.symm, hb1⟩
    · have t3 : (24 : Int) < (l.length : Int) := by omega
      clear hl h1
      go_wp2_with fail
      go_ret
      exact ⟨ret_i64 HG2.out.symm, hb1⟩
  have HL := Lib.hid hl
  have t3 : (l.length : Int) ≤ 24 := by omega
  have t4 : (C.length : Int) ≤ 64 := by omega
  have Hh1 := Lib.hid (Hh.out.below hb1); have HC1 := Lib.hid (show Pairs w1 _ C from HCC.out.below hb1)
  clear hl
  go_wp2_with fail
  go_loop [6] (fun i => ∃ j : Nat, j ≤ C.length ∧ i = .int .i64 j ∧ Hid ((C.take j).any (missB l) = false)) (fun i => C.length - (intOf i).toNat)
  case atStart => exact ⟨0, Nat.zero_le _, rfl, Lib.hid rfl⟩
  case round =>
    obtain ⟨j, hj, rfl, Hm⟩ := hrel
    by_cases hlt : j < C.length
    case pos =>
      obtain ⟨x, hx⟩ := get_of_lt hlt
      obtain ⟨_, _, ex, _, _, hcc⟩ := HC1.out.cells
      cases ex
      obtain ⟨bo, o, rfl, _, hcb⟩ := hcc j hlt
      obtain ⟨y0, y1⟩ := hcb w1 (Below.refl _ _) j x hx
      have HA := place22_ok _ l x.a w1 Hh1.out
      have HB := place22_ok _ l x.b w1 Hh1.out
      have hmx : missB l x = (decide (plS l x.a < 0) || decide (plS l x.b < 0)) := rfl
      obtain ⟨pa, hpa⟩ : ∃ p, plS l x.a = p := ⟨_, rfl⟩
      obtain ⟨pb, hpb⟩ : ∃ p, plS l x.b = p := ⟨_, rfl⟩
      rw [show firstI (fun s : Spec => s.id == x.a) l = pa from hpa] at HA
      rw [show firstI (fun s : Spec => s.id == x.b) l = pb from hpb] at HB
      rw [hpa, hpb] at hmx
      have HA' := Lib.hid HA; have HB' := Lib.hid HB; have Hx := Lib.hid hx; have Hmx := Lib.hid hmx
      have hj1 : (j : Int) < (C.length : Int) := by omega
      have hj0 : (0 : Int) ≤ (j : Int) := by omega
      have HG7 : missB l x = true → G = 7 := fun hm => by
        rw [← HG.out, gatherE, if_pos HE.out, if_pos HL.out, if_pos (List.any_eq_true.2 ⟨x, List.mem_of_getElem? Hx.out, hm⟩)]
      have HG7' := Lib.hid HG7
      have HmN : missB l x = false → (C.take (j + 1)).any (missB l) = false := fun hm => by
        rw [take_snoc' Hx.out, List.any_append, Hm.out]; simp [hm]
      have HmN' := Lib.hid HmN
      clear hcc hcb hx HA HB hmx hpa hpb HG7 HmN
      cases c1 : decide (pa < 0)
      · cases c2 : decide (pb < 0)
        · have HR := HmN'.out (by rw [Hmx.out, c1, c2]; rfl)
          have HR' := Lib.hid HR
          clear HR
          go_wp2_with fail
          refine HA'.out.mono ?_
          rintro e w2 ⟨rfl, rfl⟩
          go_wp2_with fail
          refine HB'.out.mono ?_
          rintro e w3 ⟨rfl, rfl⟩
          go_wp2_with fail
          refine ⟨?rel, ?measure⟩
          case rel => exact ⟨j + 1, by omega, by go_num, HR'⟩
          case measure => simp [intOf]; omega
        · have HR := Lib.hid (HG7'.out (by rw [Hmx.out, c1, c2]; rfl))
          go_wp2_with fail
          refine HA'.out.mono ?_
          rintro e w2 ⟨rfl, rfl⟩
          go_wp2_with fail
          refine HB'.out.mono ?_
          rintro e w3 ⟨rfl, rfl⟩
          go_wp2_with fail
          go_ret
          exact ⟨ret_i64 HR.out.symm, hb1⟩
      · have HR := Lib.hid (HG7'.out (by rw [Hmx.out, c1]; rfl))
        go_wp2_with fail
        refine HA'.out.mono ?_
        rintro e w2 ⟨rfl, rfl⟩
        go_wp2_with fail
        go_ret
        exact ⟨ret_i64 HR.out.symm, hb1⟩
    have hmall : C.any (missB l) = false := by
      have := Hm.out
      rwa [List.take_of_length_le (by omega)] at this
    have HMa := Lib.hid hmall
    clear hmall Hm
    go_wp2_with fail
    clear hlt hj
    go_loopw [7] (fun i wr => ∃ j : Nat, j ≤ C.length ∧ i = .int .i64 j ∧ Hid ((C.take j).any (sameB l) = false) ∧ Below w1.heap.size w1 wr) (fun i _ => C.length - (intOf i).toNat)
    case atStart => exact ⟨0, Nat.zero_le _, rfl, Lib.hid rfl, Below.refl _ _⟩
    case round =>
      obtain ⟨k, hk, rfl, Hs, hb⟩ := hrel
      by_cases hltk : k < C.length
      case neg =>
        have HG0 : Hid (G = 0) := Lib.hid (by
          have h1 := Hs.out
          rw [List.take_of_length_le (by omega)] at h1
          rw [← HG.out, gatherE, if_pos HE.out, if_pos HL.out, if_neg (by rw [HMa.out]; simp), if_neg (by rw [h1]; simp)])
        go_wp2_with fail
        go_ret
        exact ⟨ret_i64 HG0.out.symm, below_trans hb1 hb⟩
      obtain ⟨x, hx⟩ := get_of_lt hltk
      obtain ⟨_, _, ex, _, _, hcc⟩ := HC1.out.cells
      cases ex
      obtain ⟨bo, o, rfl, _, hcb⟩ := hcc k hltk
      obtain ⟨y0, y1⟩ := hcb wr hb k x hx
      have Y0 := Later.cell_all y0; have Y1 := Later.cell_all y1
      have hmx : missB l x = false := by
        cases hm : missB l x
        · rfl
        · have := List.any_eq_true.2 ⟨x, List.mem_of_getElem? hx, hm⟩
          rw [HMa.out] at this; cases this
      have hp0 : 0 ≤ plS l x.a := by
        unfold missB at hmx
        rw [Bool.or_eq_false_iff, decide_eq_false_iff_not] at hmx
        omega
      obtain ⟨T, hT⟩ : ∃ T, (x.a == x.b) = T := ⟨_, rfl⟩
      have hsx : sameB l x = T := by
        rw [← hT, sameB]
        exact decide_eq_decide.2 (plS_same hp0)
      have Hsx := Lib.hid hsx; have Hx := Lib.hid hx
      have hk1 : (k : Int) < (C.length : Int) := by omega
      have hk0 : (0 : Int) ≤ (k : Int) := by omega
      clear hcc hcb hx hmx hp0 hsx y0 y1
      cases T
      · have HR : Hid ((C.take (k + 1)).any (sameB l) = false) := Lib.hid (by rw [take_snoc' Hx.out, List.any_append, Hs.out]; simp [Hsx.out])
        go_wp2_with fail
        refine wp_region_later (by kernel_rfl) (by kernel_rfl) ?_
        repeat (go_big_quiet_step (first | fail))
        refine wpQuiet_nil ?_
        intro _ hw'
        obtain ⟨xq, hw''⟩ := hw'
        subst hw''
        have hbq := xq.h
        generalize xq.to = wq at hbq ⊢
        clear Y0 Y1
        have hbb := below_trans hb hbq
        go_wp2_with fail
        refine ⟨?rel, ?measure⟩
        case rel => exact ⟨k + 1, by omega, by go_num, HR, hbb⟩
        case measure => first | (simp [intOf]; done) | (simp [intOf]; omega)
      · have HG1 : Hid (G = 1) := Lib.hid (by
          rw [← HG.out, gatherE, if_pos HE.out, if_pos HL.out, if_neg (by rw [HMa.out]; simp), if_pos (List.any_eq_true.2 ⟨x, List.mem_of_getElem? Hx.out, Hsx.out⟩)])
        go_wp2_with fail
        refine wp_region_later (by kernel_rfl) (by kernel_rfl) ?_
        repeat (go_big_quiet_step (first | fail))
        refine wpQuiet_nil ?_
        intro _ hw'
        obtain ⟨xq, hw''⟩ := hw'
        subst hw''
        have hbq := xq.h
        generalize xq.to = wq at hbq ⊢
        clear Y0 Y1
        have hbb := below_trans hb hbq
        go_wp2_with fail
        go_ret
        exact ⟨ret_i64 HG1.out.symm, below_trans hb1 hbb⟩
end Go.Proofs.YtlmjncncmgmehaaGreat
/- Reference 22: Proofs. Condition: the arguments read as such, without error. -/
namespace Go.Proofs.YtlmjncncmgmehaaGreat
open Go.RowKit Go.Maps Go.Shelf

set_option maxHeartbeats 16000000 in
set_option maxRecDepth 100000 in
theorem Proofs22_ok (A : Option Addr) (c : Nat) (l : List Spec) (cv : Value) (C : List Pair) (w : World) (h : Specs w (.slice A l.length c) l) (hC : Pairs w cv C) (hg : gatherE l C = 0) :
    Calls Tryz.prog 86 #[.slice A l.length c, cv] w fun e w' => ∃ u, e = .returned u ∧ OwnPf w.heap.size w' u (proofsS l C) ∧ Below w.heap.size w w' := by
  obtain ⟨Ac, cc, rfl, _⟩ := id hC
  obtain ⟨hE, hl24, hC64, _, _⟩ := gather_zero hg
  have Hh := Lib.hid h; have HC := Lib.hid (show Pairs w _ C from hC)
  have HE := Lib.hid hE
  have Hcl := Lib.hid (proofs_claim hg)
  obtain ⟨iP, hiP, hzP, hkP, hbP⟩ := info_parts infoPf
  clear h hC hE hg
  go_enter Tryz.func86, Tryz.ntmps86
  go_wp2_with fail
  go_loopw [5, 6] (fun ov kv wr => ∃ (k : Nat) (R : List Link), k ≤ 2 ∧ kv = .int .i64 k ∧ OwnPf w.heap.size wr ov R ∧ Below w.heap.size w wr ∧ Hid (R = (sidesK l k).map (prfL l))) (fun _ kv _ => 2 - (intOf kv).toNat)
  case atStart => exact ⟨0, [], by omega, rfl, own_nil _ _ _ _ _, Below.refl _ _, Lib.hid (by simp [sidesK])⟩
  case round =>
    obtain ⟨k, R, hk, rfl, hown, hb, HR⟩ := hrel
    have hQl := sidesK_len l hl24 k
    have hRl : R.length ≤ 576 * k := by rw [HR.out, List.length_map]; exact hQl
    have hzb := hb.size
    obtain ⟨Ao, co, rfl, _⟩ := id hown.slOf
    clear hQl
    by_cases hlt : k < 2
    case pos =>
      have hlt2 : (k : Int) < 2 := by omega
      have HB := Lib.hid (Before21_ok _ l (k : Int) wr (Hh.out.below hb) HE.out (by omega))
      have hXl := arcs_len (k : Int) l hl24
      have hXm := fun p => mem_arcs (o := (k : Int)) (l := l) (p := p)
      have hss := sidesK_succ l k
      obtain ⟨X, hX⟩ : ∃ X, arcsW (k : Int) l l = X := ⟨_, rfl⟩
      rw [hX] at HB hXl hss
      simp only [hX] at hXm
      have Hss := Lib.hid hss; have HXm := Lib.hid hXm; have Hown := Lib.hid hown
      obtain ⟨S, hS⟩ : ∃ S, (Value.slice Ao R.length co).ownBlock.toList = S := ⟨_, rfl⟩
      have HSm : Hid (∀ q ∈ S, w.heap.size ≤ q ∧ q < wr.heap.size) := Lib.hid fun q hq => by
        rw [← hS, Option.mem_toList] at hq
        exact Hown.out.lt q hq
      have HSo : Hid (∀ q, (Value.slice Ao R.length co).ownBlock = some q → q ∈ S) := Lib.hid fun q hq => by rw [← hS, Option.mem_toList]; exact hq
      clear hss hX hXm hown hS
      go_wp2_with fail
      refine HB.out.mono ?_
      rintro e w3 ⟨u, rfl, hu, hb3⟩
      obtain ⟨Au, cu, rfl, _⟩ := id hu.slOf
      have Hu := Lib.hid hu
      have hw3 := below_trans hb hb3
      have Hown3 := Lib.hid (Hown.out.below hb3)
      have hz3 := hb3.size
      clear hu HB
      go_wp2_with fail
      go_loopw [5, 9] (fun ov jv wr => ∃ (j : Nat) (R' : List Link), j ≤ X.length ∧ jv = .int .i64 j ∧ OwnPf w.heap.size wr ov R' ∧ Below w.heap.size w wr ∧ Touch w3 wr S ∧ Hid (∀ q, ov.ownBlock = some q → q ∈ S ∨ w3.heap.size ≤ q) ∧ Hid (R' = R ++ ((X.take j).map (arcP (k : Int))).map (prfL l))) (fun _ jv _ => X.length - (intOf jv).toNat)
      case atStart => exact ⟨0, R, Nat.zero_le _, rfl, Hown3.out, hw3, Touch.refl _ _, Lib.hid (fun q hq => .inl (HSo.out q hq)), Lib.hid (by simp)⟩
      case round =>
        obtain ⟨wt, hwt0⟩ : ∃ z, z = wr := ⟨_, rfl⟩
        subst hwt0
        obtain ⟨j, R', hj, rfl, hown', hbt, hT, Hq, HR'⟩ := hrel
        obtain ⟨Ap, cp, rfl, _⟩ := id hown'.slOf
        have hR'l : R'.length ≤ R.length + 576 := by
          rw [HR'.out, List.length_append, List.length_map, List.length_map, List.length_take]; omega
        have hzt := hbt.size
        by_cases hltj : j < X.length
        case neg =>
          have HN : Hid (R' = (sidesK l (k + 1)).map (prfL l)) := Lib.hid (by rw [HR'.out, Hss.out, HR.out, List.take_of_length_le (by omega), List.map_append])
          have HO' := Lib.hid hown'
          clear hown' hT
          go_wp2_with fail
          refine ⟨?rel, ?measure⟩
          case rel => exact ⟨k + 1, R', by omega, by go_num, HO'.out, hbt, HN⟩
          case measure => first | (simp [intOf]; done) | (simp [intOf]; omega)
        obtain ⟨x, hx⟩ := get_of_lt hltj
        obtain ⟨⟨m1, m2⟩, m3, m4⟩ := HXm.out x (List.mem_of_getElem? hx)
        rcases Hu.out.cases with ⟨_, h2⟩ | ⟨q, cap, hv, hBq, hql, _, _⟩
        · rw [h2] at hltj; simp at hltj
        obtain ⟨rfl, rfl⟩ : Au = some ⟨q, 0, none⟩ ∧ cu = cap := by simpa using hv
        have hqS : q ∉ S := fun e => by have := (HSm.out q e).2; omega
        have c0 := (Hu.out.cellsAt lenP rfl hx (j := 0) (u := .int .i64 x.a) rfl).1
        have c1 := (Hu.out.cellsAt lenP rfl hx (j := 1) (u := .int .i64 x.b) rfl).1
        have y0 := cell_off hT (a := ⟨q, j * 2 + 0, none⟩) hqS c0; have y1 := cell_off hT (a := ⟨q, j * 2 + 1, none⟩) hqS c1
        simp only [Nat.add_zero] at y0
        obtain ⟨fa, hfa⟩ : ∃ i : Nat, x.a = i := ⟨x.a.toNat, by omega⟩
        obtain ⟨tb, htb⟩ : ∃ i : Nat, x.b = i := ⟨x.b.toNat, by omega⟩
        have hfl : fa < l.length := by omega
        have htl : tb < l.length := by omega
        obtain ⟨sa, hsa⟩ := get_of_lt hfl
        obtain ⟨sb, hsb⟩ := get_of_lt htl
        obtain ⟨_, _, ex, _, _, hlc⟩ := Hh.out.cells
        cases ex
        obtain ⟨bl, ol, rfl, _, hlb⟩ := hlc fa hfl
        have g0 := (hlb wt hbt fa sa hsa).1
        have g1 := (hlb wt hbt tb sb hsb).1
        have Hsn : Hid (R ++ ((X.take (j + 1)).map (arcP (k : Int))).map (prfL l) = R' ++ [(⟨(k : Int), sa.id, sb.id⟩ : Link)]) := Lib.hid (by
          rw [HR'.out, take_snoc' hx, List.map_append, List.map_append, ← List.append_assoc]
          simp [prfL, arcP, hfa, htb, idAt_get hsa, idAt_get hsb])
        have hj1 : (j : Int) < (X.length : Int) := by omega
        have hj0 : (0 : Int) ≤ (j : Int) := by omega
        have hfa1 : (fa : Int) < (l.length : Int) := by omega
        have hfa0 : (0 : Int) ≤ (fa : Int) := by omega
        have htb1 : (tb : Int) < (l.length : Int) := by omega
        have htb0 : (0 : Int) ≤ (tb : Int) := by omega
        have HO' := Lib.hid hown'; have HT := Lib.hid hT
        rw [hfa] at y0
        rw [htb] at y1
        clear hv c0 c1 hlc hlb hx hsa hsb hown' hT m1 m2 m3 m4 hfa htb
        go_wp2_with fail
        have hba : Below (wt).heap.size (wt) (wt).drew := (Below.refl _ _).drew
        obtain ⟨wa, hwa⟩ : ∃ W, (wt).drew = W := ⟨_, rfl⟩
        rw [hwa] at hba
        have HSt := Lib.hid fun (w9 : World) (hb : Below wa.heap.size wa w9) => (show (fun w' : World => Below wa.heap.size wa w' ∧ w'.cell? ⟨q, j * 2, none⟩ = some (.int .i64 fa) ∧ w'.cell? ⟨q, j * 2 + 1, none⟩ = some (.int .i64 tb) ∧ w'.cell? ⟨bl, ol + fa * 7, none⟩ = some (.int .i64 sa.id) ∧ w'.cell? ⟨bl, ol + tb * 7, none⟩ = some (.int .i64 sb.id)) w9 from ⟨hb, cell_later hb (cell_later hba y0), cell_later hb (cell_later hba y1), cell_later hb (cell_later hba g0), cell_later hb (cell_later hba g1)⟩)
        have hHeld := HSt.out wa (Below.refl _ _)
        refine wp_region_S 22 (fun w' : World => Below wa.heap.size wa w' ∧ w'.cell? ⟨q, j * 2, none⟩ = some (.int .i64 fa) ∧ w'.cell? ⟨q, j * 2 + 1, none⟩ = some (.int .i64 tb) ∧ w'.cell? ⟨bl, ol + fa * 7, none⟩ = some (.int .i64 sa.id) ∧ w'.cell? ⟨bl, ol + tb * 7, none⟩ = some (.int .i64 sb.id)) (by kernel_rfl) (by decide) ?_
        rw [hwa]
        clear hwa
        refine wpAnyS_takeD 0 (some 27) (.slice Ap R'.length cp) (by rfl) (by rfl) (by kernel_rfl) (by exact fun _ _ _ h => h) (by rfl) (fun w' hS => by go_simp) hHeld ?_
        simp only [Act.put, List.setIfInBounds_toArray, List.set_cons_succ, List.set_cons_zero]
        refine wpAnyS_takeD 1 (some 28) (.int .i64 k) (by rfl) (by rfl) (by kernel_rfl) (by exact fun _ _ _ h => h) (by rfl) (fun w' hS => by go_simp) hHeld ?_
        simp only [Act.put, List.setIfInBounds_toArray, List.set_cons_succ, List.set_cons_zero]
        refine wpAnyS_takeD 2 (some 29) (.slice (some ⟨bl, ol, none⟩) l.length c) (by rfl) (by rfl) (by kernel_rfl) (by exact fun _ _ _ h => h) (by rfl) (fun w' hS => by go_simp) hHeld ?_
        simp only [Act.put, List.setIfInBounds_toArray, List.set_cons_succ, List.set_cons_zero]
        refine wpAnyS_takeD 3 (some 30) (.slice (some ⟨q, 0, none⟩) X.length cu) (by rfl) (by rfl) (by kernel_rfl) (by exact fun _ _ _ h => h) (by rfl) (fun w' hS => by go_simp) hHeld ?_
        simp only [Act.put, List.setIfInBounds_toArray, List.set_cons_succ, List.set_cons_zero]
        refine wpAnyS_takeD 4 (some 31) (.int .i64 j) (by rfl) (by rfl) (by kernel_rfl) (by exact fun _ _ _ h => h) (by rfl) (fun w' hS => by go_simp) hHeld ?_
        simp only [Act.put, List.setIfInBounds_toArray, List.set_cons_succ, List.set_cons_zero]
        refine wpAnyS_takeD 5 (some 32) (.pointer (some ⟨q, j * 2, none⟩)) (by rfl) (by rfl) (by kernel_rfl) (by exact fun _ _ _ h => h) (by rfl) (fun w' hS => by go_simp) hHeld ?_
        simp only [Act.put, List.setIfInBounds_toArray, List.set_cons_succ, List.set_cons_zero]
        refine wpAnyS_takeD 6 (some 33) (.pointer (some ⟨q, j * 2, none⟩)) (by rfl) (by rfl) (by kernel_rfl) (by exact fun _ _ _ h => h) (by rfl) (fun w' hS => by go_simp) hHeld ?_
        simp only [Act.put, List.setIfInBounds_toArray, List.set_cons_succ, List.set_cons_zero]
        refine wpAnyS_takeD 7 (some 34) (.int .i64 fa) (by rfl) (by rfl) (by kernel_rfl) (by exact fun _ _ _ h => h) (by rfl) (fun w' hS => by (obtain ⟨_, x0, x1, x2, x3⟩ := hS; go_simp)) hHeld ?_
        simp only [Act.put, List.setIfInBounds_toArray, List.set_cons_succ, List.set_cons_zero]
        refine wpAnyS_takeD 8 (some 35) (.pointer (some ⟨bl, ol + fa * 7, none⟩)) (by rfl) (by rfl) (by kernel_rfl) (by exact fun _ _ _ h => h) (by rfl) (fun w' hS => by go_simp) hHeld ?_
        simp only [Act.put, List.setIfInBounds_toArray, List.set_cons_succ, List.set_cons_zero]
        refine wpAnyS_takeD 9 (some 36) (.pointer (some ⟨bl, ol + fa * 7, none⟩)) (by rfl) (by rfl) (by kernel_rfl) (by exact fun _ _ _ h => h) (by rfl) (fun w' hS => by go_simp) hHeld ?_
        simp only [Act.put, List.setIfInBounds_toArray, List.set_cons_succ, List.set_cons_zero]
        refine wpAnyS_takeD 10 (some 37) (.int .i64 sa.id) (by rfl) (by rfl) (by kernel_rfl) (by exact fun _ _ _ h => h) (by rfl) (fun w' hS => by (obtain ⟨_, x0, x1, x2, x3⟩ := hS; go_simp)) hHeld ?_
        simp only [Act.put, List.setIfInBounds_toArray, List.set_cons_succ, List.set_cons_zero]
        refine wpAnyS_takeD 11 (some 38) (.slice (some ⟨bl, ol, none⟩) l.length c) (by rfl) (by rfl) (by kernel_rfl) (by exact fun _ _ _ h => h) (by rfl) (fun w' hS => by go_simp) hHeld ?_
        simp only [Act.put, List.setIfInBounds_toArray, List.set_cons_succ, List.set_cons_zero]
        refine wpAnyS_takeD 12 (some 39) (.slice (some ⟨q, 0, none⟩) X.length cu) (by rfl) (by rfl) (by kernel_rfl) (by exact fun _ _ _ h => h) (by rfl) (fun w' hS => by go_simp) hHeld ?_
        simp only [Act.put, List.setIfInBounds_toArray, List.set_cons_succ, List.set_cons_zero]
        refine wpAnyS_takeD 13 (some 40) (.int .i64 j) (by rfl) (by rfl) (by kernel_rfl) (by exact fun _ _ _ h => h) (by rfl) (fun w' hS => by go_simp) hHeld ?_
        simp only [Act.put, List.setIfInBounds_toArray, List.set_cons_succ, List.set_cons_zero]
        refine wpAnyS_takeD 14 (some 41) (.pointer (some ⟨q, j * 2, none⟩)) (by rfl) (by rfl) (by kernel_rfl) (by exact fun _ _ _ h => h) (by rfl) (fun w' hS => by go_simp) hHeld ?_
        simp only [Act.put, List.setIfInBounds_toArray, List.set_cons_succ, List.set_cons_zero]
        refine wpAnyS_takeD 15 (some 42) (.pointer (some ⟨q, j * 2 + 1, none⟩)) (by rfl) (by rfl) (by kernel_rfl) (by exact fun _ _ _ h => h) (by rfl) (fun w' hS => by go_simp) hHeld ?_
        simp only [Act.put, List.setIfInBounds_toArray, List.set_cons_succ, List.set_cons_zero]
        refine wpAnyS_takeD 16 (some 43) (.int .i64 tb) (by rfl) (by rfl) (by kernel_rfl) (by exact fun _ _ _ h => h) (by rfl) (fun w' hS => by (obtain ⟨_, x0, x1, x2, x3⟩ := hS; go_simp)) hHeld ?_
        simp only [Act.put, List.setIfInBounds_toArray, List.set_cons_succ, List.set_cons_zero]
        refine wpAnyS_takeD 17 (some 44) (.pointer (some ⟨bl, ol + tb * 7, none⟩)) (by rfl) (by rfl) (by kernel_rfl) (by exact fun _ _ _ h => h) (by rfl) (fun w' hS => by go_simp) hHeld ?_
        simp only [Act.put, List.setIfInBounds_toArray, List.set_cons_succ, List.set_cons_zero]
        refine wpAnyS_takeD 18 (some 45) (.pointer (some ⟨bl, ol + tb * 7, none⟩)) (by rfl) (by rfl) (by kernel_rfl) (by exact fun _ _ _ h => h) (by rfl) (fun w' hS => by go_simp) hHeld ?_
        simp only [Act.put, List.setIfInBounds_toArray, List.set_cons_succ, List.set_cons_zero]
        refine wpAnyS_takeD 19 (some 46) (.int .i64 sb.id) (by rfl) (by rfl) (by kernel_rfl) (by exact fun _ _ _ h => h) (by rfl) (fun w' hS => by (obtain ⟨_, x0, x1, x2, x3⟩ := hS; go_simp)) hHeld ?_
        simp only [Act.put, List.setIfInBounds_toArray, List.set_cons_succ, List.set_cons_zero]
        refine wpAnyS_takeD 20 (some 47) (.agg #[.int .i64 k, .int .i64 sa.id, .int .i64 sb.id]) (by rfl) (by rfl) (by kernel_rfl) (by exact fun _ _ _ h => h) (by rfl) (fun w' hS => by go_simp) hHeld ?_
        simp only [Act.put, List.setIfInBounds_toArray, List.set_cons_succ, List.set_cons_zero]
        clear hHeld y0 y1 g0 g1
        have hownA := HO'.out.below hba
        have hzA : w.heap.size ≤ wa.heap.size := by have := hba.size; omega
        refine wpAnyS_one 21 (by kernel_rfl) (by rfl) (by decide) (fun K hK => ?_)
        have HK := Lib.hid hK; clear hK
        rw [if_pos (by rfl)]
        go_simp
        refine HK.out _ _ (HSt.out _ ((Below.refl _ _).alloc (Nat.le_refl _) _)) ?_
        clear HK
        refine (show tailOf _ _ _ _ _ _ _ _ from ⟨by kernel_rfl, ?_⟩)
        simp only [List.drop_succ_cons, List.drop_zero]
        go_wp2_with (at_builtin; refine wpList_append1 (enc := encL) (size := 3) (B := w.heap.size) rfl (.tmp 27) (.tmp 48) _ rfl 85 iP _ 24 Tryz.underlying81 hiP hzP hkP hbP rfl (by decide) rfl hownA (⟨(k : Int), sa.id, sb.id⟩ : Link) _ rfl lenL oneL _ rfl rfl (by omega) (by omega) hzA ?_; intro v' w7 hown' hgrow hat; obtain ⟨Av, cv9, rfl, _⟩ := id hown'.slOf; obtain ⟨Rn, hRn⟩ : ∃ z, R' ++ [(⟨(k : Int), sa.id, sb.id⟩ : Link)] = z := ⟨_, rfl⟩; rw [hRn] at hown' hat ⊢; have HRn := Lib.hid hRn; have HO7 := Lib.hid hown'; have HG7 := Lib.hid hgrow; have HA7 := Lib.hid hat; skip; clear hRn hown' hgrow hat)
        have hb7 := ((below_trans hbt hba).grown HG7.out hzA (fun j e => (HO'.out.lt j e).1))
        have HTN := Lib.hid (touch_own' (HT.out.trans (touch_below hba S)) HG7.out (fun j' e => Hq.out j' e))
        have HqN : Hid (∀ q', (Value.slice Av Rn.length cv9).ownBlock = some q' → q' ∈ S ∨ w3.heap.size ≤ q') := Lib.hid fun q' hq' => by
          rcases HA7.out with e | e
          · rw [e] at hq'; exact Hq.out q' hq'
          · rw [e] at hq'; cases hq'; exact .inr (by have := HT.out.size; have := hba.size; omega)
        refine ⟨?rel, ?measure⟩
        case rel => exact ⟨j + 1, Rn, by omega, by go_num, HO7.out, hb7, HTN.out, HqN, Lib.hid (by rw [Hsn.out]; exact HRn.out.symm)⟩
        case measure => first | (simp [intOf]; done) | (simp [intOf]; omega)
    have hk2 : k = 2 := by omega
    subst hk2
    have HR2 : Hid (R = (sidesS l).map (prfL l)) := Lib.hid (by rw [HR.out, sidesK_two])
    have hRl2 : R.length ≤ 1152 := by omega
    have Hown := Lib.hid hown
    clear hown hlt hRl
    go_wp2_with fail
    go_loopw [5, 10] (fun ov jv wr => ∃ (j : Nat) (R' : List Link), j ≤ C.length ∧ jv = .int .i64 j ∧ OwnPf w.heap.size wr ov R' ∧ Below w.heap.size w wr ∧ Hid (R' = R ++ (C.take j).map (fun c => (⟨2, c.a, c.b⟩ : Link)))) (fun _ jv _ => C.length - (intOf jv).toNat)
    case atStart => exact ⟨0, R, Nat.zero_le _, rfl, Hown.out, hb, Lib.hid (by simp)⟩
    case round =>
      obtain ⟨wt, hwt0⟩ : ∃ z, z = wr := ⟨_, rfl⟩
      subst hwt0
      obtain ⟨j, R', hj, rfl, hown', hbt, HR'⟩ := hrel
      obtain ⟨Ap, cp, rfl, _⟩ := id hown'.slOf
      have hR'l : R'.length ≤ R.length + 64 := by
        rw [HR'.out, List.length_append, List.length_map, List.length_take]; omega
      have hzt := hbt.size
      by_cases hltj : j < C.length
      case neg =>
        have HN : Hid (R' = proofsS l C) := Lib.hid (by rw [HR'.out, HR2.out, List.take_of_length_le (by omega), proofsS, piecesS, List.map_append, List.map_map, ← Hcl.out]; rfl)
        have HO' := Lib.hid hown'
        clear hown'
        go_wp2_with fail
        go_ret
        exact ⟨_, rfl, by rw [← HN.out]; exact HO'.out, hbt⟩
      obtain ⟨x, hx⟩ := get_of_lt hltj
      obtain ⟨_, _, ex, _, _, hcc⟩ := HC.out.cells
      cases ex
      obtain ⟨bo, o, rfl, _, hcb⟩ := hcc j hltj
      obtain ⟨y0, y1⟩ := hcb wt hbt j x hx
      have Hsn : Hid (R ++ (C.take (j + 1)).map (fun c => (⟨2, c.a, c.b⟩ : Link)) = R' ++ [(⟨2, x.a, x.b⟩ : Link)]) := Lib.hid (by
        rw [HR'.out, take_snoc' hx, List.map_append, ← List.append_assoc]; rfl)
      have hj1 : (j : Int) < (C.length : Int) := by omega
      have hj0 : (0 : Int) ≤ (j : Int) := by omega
      have HO' := Lib.hid hown'
      clear hcc hcb hx hown'
      go_wp2_with fail
      have hba : Below (wt).heap.size (wt) (wt).drew := (Below.refl _ _).drew
      obtain ⟨wa, hwa⟩ : ∃ W, (wt).drew = W := ⟨_, rfl⟩
      rw [hwa] at hba
      have HSt := Lib.hid fun (w9 : World) (hb : Below wa.heap.size wa w9) => (show (fun w' : World => Below wa.heap.size wa w' ∧ w'.cell? ⟨bo, o + j * 2, none⟩ = some (.int .i64 x.a) ∧ w'.cell? ⟨bo, o + j * 2 + 1, none⟩ = some (.int .i64 x.b)) w9 from ⟨hb, cell_later hb (cell_later hba y0), cell_later hb (cell_later hba y1)⟩)
      have hHeld := HSt.out wa (Below.refl _ _)
      refine wp_region_S 13 (fun w' : World => Below wa.heap.size wa w' ∧ w'.cell? ⟨bo, o + j * 2, none⟩ = some (.int .i64 x.a) ∧ w'.cell? ⟨bo, o + j * 2 + 1, none⟩ = some (.int .i64 x.b)) (by kernel_rfl) (by decide) ?_
      rw [hwa]
      clear hwa
      refine wpAnyS_takeD 0 (some 56) (.slice Ap R'.length cp) (by rfl) (by rfl) (by kernel_rfl) (by exact fun _ _ _ h => h) (by rfl) (fun w' hS => by go_simp) hHeld ?_
      simp only [Act.put, List.setIfInBounds_toArray, List.set_cons_succ, List.set_cons_zero]
      refine wpAnyS_takeD 1 (some 57) (.slice (some ⟨bo, o, none⟩) C.length cc) (by rfl) (by rfl) (by kernel_rfl) (by exact fun _ _ _ h => h) (by rfl) (fun w' hS => by go_simp) hHeld ?_
      simp only [Act.put, List.setIfInBounds_toArray, List.set_cons_succ, List.set_cons_zero]
      refine wpAnyS_takeD 2 (some 58) (.int .i64 j) (by rfl) (by rfl) (by kernel_rfl) (by exact fun _ _ _ h => h) (by rfl) (fun w' hS => by go_simp) hHeld ?_
      simp only [Act.put, List.setIfInBounds_toArray, List.set_cons_succ, List.set_cons_zero]
      refine wpAnyS_takeD 3 (some 59) (.pointer (some ⟨bo, o + j * 2, none⟩)) (by rfl) (by rfl) (by kernel_rfl) (by exact fun _ _ _ h => h) (by rfl) (fun w' hS => by go_simp) hHeld ?_
      simp only [Act.put, List.setIfInBounds_toArray, List.set_cons_succ, List.set_cons_zero]
      refine wpAnyS_takeD 4 (some 60) (.pointer (some ⟨bo, o + j * 2, none⟩)) (by rfl) (by rfl) (by kernel_rfl) (by exact fun _ _ _ h => h) (by rfl) (fun w' hS => by go_simp) hHeld ?_
      simp only [Act.put, List.setIfInBounds_toArray, List.set_cons_succ, List.set_cons_zero]
      refine wpAnyS_takeD 5 (some 61) (.int .i64 x.a) (by rfl) (by rfl) (by kernel_rfl) (by exact fun _ _ _ h => h) (by rfl) (fun w' hS => by (obtain ⟨_, x0, x1⟩ := hS; go_simp)) hHeld ?_
      simp only [Act.put, List.setIfInBounds_toArray, List.set_cons_succ, List.set_cons_zero]
      refine wpAnyS_takeD 6 (some 62) (.slice (some ⟨bo, o, none⟩) C.length cc) (by rfl) (by rfl) (by kernel_rfl) (by exact fun _ _ _ h => h) (by rfl) (fun w' hS => by go_simp) hHeld ?_
      simp only [Act.put, List.setIfInBounds_toArray, List.set_cons_succ, List.set_cons_zero]
      refine wpAnyS_takeD 7 (some 63) (.int .i64 j) (by rfl) (by rfl) (by kernel_rfl) (by exact fun _ _ _ h => h) (by rfl) (fun w' hS => by go_simp) hHeld ?_
      simp only [Act.put, List.setIfInBounds_toArray, List.set_cons_succ, List.set_cons_zero]
      refine wpAnyS_takeD 8 (some 64) (.pointer (some ⟨bo, o + j * 2, none⟩)) (by rfl) (by rfl) (by kernel_rfl) (by exact fun _ _ _ h => h) (by rfl) (fun w' hS => by go_simp) hHeld ?_
      simp only [Act.put, List.setIfInBounds_toArray, List.set_cons_succ, List.set_cons_zero]
      refine wpAnyS_takeD 9 (some 65) (.pointer (some ⟨bo, o + j * 2 + 1, none⟩)) (by rfl) (by rfl) (by kernel_rfl) (by exact fun _ _ _ h => h) (by rfl) (fun w' hS => by go_simp) hHeld ?_
      simp only [Act.put, List.setIfInBounds_toArray, List.set_cons_succ, List.set_cons_zero]
      refine wpAnyS_takeD 10 (some 66) (.int .i64 x.b) (by rfl) (by rfl) (by kernel_rfl) (by exact fun _ _ _ h => h) (by rfl) (fun w' hS => by (obtain ⟨_, x0, x1⟩ := hS; go_simp)) hHeld ?_
      simp only [Act.put, List.setIfInBounds_toArray, List.set_cons_succ, List.set_cons_zero]
      refine wpAnyS_takeD 11 (some 67) (.agg #[.int .i64 2, .int .i64 x.a, .int .i64 x.b]) (by rfl) (by rfl) (by kernel_rfl) (by exact fun _ _ _ h => h) (by rfl) (fun w' hS => by go_simp) hHeld ?_
      simp only [Act.put, List.setIfInBounds_toArray, List.set_cons_succ, List.set_cons_zero]
      clear hHeld y0 y1
      have hownA := HO'.out.below hba
      have hzA : w.heap.size ≤ wa.heap.size := by have := hba.size; omega
      refine wpAnyS_one 12 (by kernel_rfl) (by rfl) (by decide) (fun K hK => ?_)
      have HK := Lib.hid hK; clear hK
      rw [if_pos (by rfl)]
      go_simp
      refine HK.out _ _ (HSt.out _ ((Below.refl _ _).alloc (Nat.le_refl _) _)) ?_
      clear HK
      refine (show tailOf _ _ _ _ _ _ _ _ from ⟨by kernel_rfl, ?_⟩)
      simp only [List.drop_succ_cons, List.drop_zero]
      go_wp2_with (at_builtin; refine wpList_append1 (enc := encL) (size := 3) (B := w.heap.size) rfl (.tmp 56) (.tmp 68) _ rfl 85 iP _ 24 Tryz.underlying81 hiP hzP hkP hbP rfl (by decide) rfl hownA (⟨2, x.a, x.b⟩ : Link) _ rfl lenL oneL _ rfl rfl (by omega) (by omega) hzA ?_; intro v' w7 hown' hgrow hat; obtain ⟨Av, cv9, rfl, _⟩ := id hown'.slOf; obtain ⟨Rn, hRn⟩ : ∃ z, R' ++ [(⟨2, x.a, x.b⟩ : Link)] = z := ⟨_, rfl⟩; rw [hRn] at hown' hat ⊢; have HRn := Lib.hid hRn; have HO7 := Lib.hid hown'; have HG7 := Lib.hid hgrow; have HA7 := Lib.hid hat; skip; clear hRn hown' hgrow hat)
      have hb7 := ((below_trans hbt hba).grown HG7.out hzA (fun j e => (HO'.out.lt j e).1))
      refine ⟨?rel, ?measure⟩
      case rel => exact ⟨j + 1, by omega, by go_num, Rn, HO7.out, hb7, Lib.hid (by rw [← List.map_take, Hsn.out]; exact HRn.out.symm)⟩
      case measure => first | (simp [intOf]; done) | (simp [intOf]; omega)
end Go.Proofs.YtlmjncncmgmehaaGreat
/- Reference 22: Why. Condition: the arguments read as such. -/
namespace Go.Proofs.YtlmjncncmgmehaaGreat
open Go.RowKit Go.Maps Go.Shelf

theorem neg_rowF (n : Nat) : List.replicate n (-1 : Int) = rowF n (fun _ => -1) := by
  refine List.ext_getElem? fun j => ?_
  rw [List.getElem?_replicate]
  by_cases hj : j < n
  · rw [if_pos hj, rowF_get _ hj]
  · rw [if_neg hj, List.getElem?_eq_none (by rw [rowF_len]; omega)]
theorem plc22_ok (v : Value) (l : List Spec) (id : Int) (w : World) (h : Specs w v l) :
    Calls Tryz.prog 85 #[v, .int .i64 id] w fun e w' => e = .returned (.int .i64 (plS l id)) ∧ w = w' :=
  (place22_ok v l id w h).mono fun _ _ h => ⟨h.1, h.2.symm⟩
/-- What the index of the best proof tells. -/
def BIx (P : List Link) (bi : Int) (bo : Option Link) : Prop := match bo with
  | none => bi = -1
  | some q => ∃ b : Nat, bi = (b : Int) ∧ P[b]? = some q
set_option maxHeartbeats 32000000 in
set_option maxRecDepth 100000 in
theorem Why22_ok (A : Option Addr) (c : Nat) (l : List Spec) (cv : Value) (C : List Pair) (a b : Int) (w : World) (h : Specs w (.slice A l.length c) l) (hC : Pairs w cv C) :
    Calls Tryz.prog 54 #[.slice A l.length c, cv, .int .i64 a, .int .i64 b] w fun e w' => ∃ u E L, e = .returned (.tuple #[u, .int .i64 E]) ∧ OwnPf w.heap.size w' u L ∧ WhyR l C a b E L ∧ Below w.heap.size w w' := by
  have HK := Lib.hid (check22_ok A c l cv C w h hC)
  have Hh := Lib.hid h
  obtain ⟨Ac, cc, rfl, _⟩ := id hC
  have HCC := Lib.hid (show Pairs w _ C from hC)
  have hA := fun w9 (hh : Specs w9 (.slice A l.length c) l) => plc22_ok _ l a w9 hh
  have hB := fun w9 (hh : Specs w9 (.slice A l.length c) l) => plc22_ok _ l b w9 hh
  obtain ⟨pa, hpa⟩ : ∃ p, plS l a = p := ⟨_, rfl⟩
  obtain ⟨pb, hpb⟩ : ∃ p, plS l b = p := ⟨_, rfl⟩
  rw [hpa] at hA
  rw [hpb] at hB
  have HA := Lib.hid hA; have HB := Lib.hid hB
  have Hpa := Lib.hid hpa; have Hpb := Lib.hid hpb
  obtain ⟨E, hE⟩ : ∃ E, gatherE l C = E := ⟨_, rfl⟩
  rw [hE] at HK
  have HE := Lib.hid hE
  clear h hC hpa hpb hA hB hE
  go_enter Tryz.func54, Tryz.ntmps54
  go_wp2_with fail
  refine HK.out.mono ?_
  rintro e w1 ⟨rfl, hb1⟩
  clear HK
  by_cases hE0 : E = 0
  case neg =>
    have t : (E != 0) = true := by simpa using hE0
    have HR : Hid (WhyR l C a b E []) := Lib.hid (.inl ⟨by rw [HE.out]; exact hE0, HE.out.symm, rfl⟩)
    clear hE0
    go_wp2_with fail
    exact bodyPost_ret (v := .tuple #[.slice none 0 0, .int .i64 E]) (by simp [results, Tryz.results54, go_sem]) rfl ⟨_, _, [], rfl, own_nil _ _ _ _ _, HR.out, hb1⟩
  subst hE0
  have Hg0 : Hid (gatherE l C = 0) := HE
  have Hh1 := Lib.hid (Hh.out.below hb1)
  go_wp2_with fail
  refine (HA.out _ Hh1.out).mono ?_
  rintro e w2 ⟨rfl, rfl⟩
  by_cases hneg : pa < 0 ∨ pb < 0
  case pos =>
    have HR : Hid (WhyR l C a b 7 []) := Lib.hid (.inr (.inl ⟨Hg0.out, by rw [Hpa.out, Hpb.out]; exact hneg, rfl, rfl⟩))
    by_cases c2 : pa < 0
    · have t1 : decide (pa < 0) = true := decide_eq_true c2
      clear hneg
      go_wp2_with fail
      exact bodyPost_ret (v := .tuple #[.slice none 0 0, .int .i64 7]) (by simp [results, Tryz.results54, go_sem]) rfl ⟨_, _, [], rfl, own_nil _ _ _ _ _, HR.out, hb1⟩
    · have t1 : decide (pa < 0) = false := decide_eq_false c2
      have t2 : decide (pb < 0) = true := decide_eq_true (by omega)
      clear hneg
      go_wp2_with fail
      refine (HB.out _ Hh1.out).mono ?_
      rintro e w3 ⟨rfl, rfl⟩
      go_wp2_with fail
      exact bodyPost_ret (v := .tuple #[.slice none 0 0, .int .i64 7]) (by simp [results, Tryz.results54, go_sem]) rfl ⟨_, _, [], rfl, own_nil _ _ _ _ _, HR.out, hb1⟩
  obtain ⟨ia, rfl⟩ : ∃ k : Nat, pa = k := ⟨pa.toNat, by omega⟩
  obtain ⟨ib, rfl⟩ : ∃ k : Nat, pb = k := ⟨pb.toNat, by omega⟩
  have hia : ia < l.length := by have := plS_lt (l := l) (a := a) (by rw [Hpa.out]; omega); rw [Hpa.out] at this; omega
  have hib : ib < l.length := by have := plS_lt (l := l) (a := b) (by rw [Hpb.out]; omega); rw [Hpb.out] at this; omega
  have n1 : decide ((ia : Int) < 0) = false := decide_eq_false (by omega)
  have n2 : decide ((ib : Int) < 0) = false := decide_eq_false (by omega)
  have HP := Lib.hid (Proofs22_ok A c l _ C w1 Hh1.out (show Pairs w1 _ C from HCC.out.below hb1) Hg0.out)
  obtain ⟨hcE, hl24, _, _, _⟩ := gather_zero Hg0.out
  have hnd := (checkE_zero hcE).2.2
  have hpl : ∀ x : Nat, x < l.length → ∀ w9, Specs w9 (.slice A l.length c) l → Calls Tryz.prog 85 #[.slice A l.length c, .int .i64 (idAt l (x : Int))] w9 fun e w' => e = .returned (.int .i64 (x : Int)) ∧ w9 = w' := fun x hx w9 h9 => by
    have := plc22_ok _ l (idAt l (x : Int)) w9 h9
    rw [pl_idAt hnd ⟨by omega, by omega⟩] at this
    exact this
  have Hpl := Lib.hid hpl
  have Hinj : Hid (∀ x y : Nat, x < l.length → y < l.length → idAt l (x : Int) = idAt l (y : Int) → x = y) := Lib.hid fun x y hx hy e => by
    have := idAt_inj hnd (x := (x : Int)) (y := (y : Int)) ⟨by omega, by omega⟩ ⟨by omega, by omega⟩ e
    omega
  have hin' : PcIn l.length (piecesS l C) := pieces_in Hg0.out
  obtain ⟨P, hPn⟩ : ∃ P, piecesS l C = P := ⟨_, rfl⟩
  have hPQ : proofsS l C = P.map (prfL l) := by rw [proofsS, hPn]
  obtain ⟨Q, hQ⟩ : ∃ Q, proofsS l C = Q := ⟨_, rfl⟩
  rw [hPn] at hin'
  rw [hQ] at HP hPQ
  have HPn := Lib.hid hPn; have Hin := Lib.hid hin'
  have hQl : Q.length = P.length := by rw [hPQ, List.length_map]
  have HQl := Lib.hid hQl
  have HQ : Hid (∀ (j : Nat) (p : Link), P[j]? = some p → Q[j]? = some (prfL l p)) := Lib.hid fun j p hp => by rw [hPQ, List.getElem?_map, hp]; rfl
  clear hneg hpl hcE hnd hin' hPn hPQ hQ hQl
  go_wp2_with fail
  refine (HB.out _ Hh1.out).mono ?_
  rintro e w3 ⟨rfl, rfl⟩
  go_wp2_with fail
  refine HP.out.mono ?_
  rintro e w2 ⟨u, rfl, hu, hb2⟩
  obtain ⟨Au, cu, rfl, _⟩ := id hu.slOf
  have hw2 := below_trans hb1 hb2
  have HU := Lib.hid (show Links w2 _ Q from hu.slOf)
  have hw2z := hw2.size
  obtain ⟨N, hN⟩ : ∃ N, l.length = N := ⟨_, rfl⟩
  have hmk := run_make_row' (P := Tryz.prog) 26 3 (.int .i64 0) 8 Tryz.underlying26 infoI rfl .i64 .i64 N (by omega) (by omega)
  rw [made_zero] at hmk
  rw [← hN] at hmk
  obtain ⟨M, hM⟩ : ∃ z, w2.alloc (.cells (Array.replicate l.length (Value.int .i64 0)) 3) = z := ⟨_, rfl⟩
  have hbM : Below w2.heap.size w2 M := by rw [← hM]; exact (Below.refl _ _).alloc (Nat.le_refl _) _
  have hMz : w2.heap.size < M.heap.size := by rw [← hM]; simp
  have hrow : RowI M w2.heap.size (negF l.length 0) := by
    rw [negF_zero, ← hM]
    unfold RowI
    simpa using heap_alloc_new w2 (.cells (Array.replicate l.length (Value.int .i64 0)) 3)
  have hwM := below_trans hw2 hbM
  have Hrow := Lib.hid hrow
  clear hu hrow HP hN HA
  go_wp2_with fail
  clear hM hmk
  go_loopw [13] (fun jv wr => ∃ j : Nat, j ≤ l.length ∧ jv = .int .i64 j ∧ RowI wr w2.heap.size (negF l.length j) ∧ Touch M wr [w2.heap.size]) (fun jv _ => l.length - (intOf jv).toNat)
  case atStart => exact ⟨0, Nat.zero_le _, rfl, Hrow.out, Touch.refl _ _⟩
  case round =>
    obtain ⟨j, hj, rfl, hR, hT⟩ := hrel
    by_cases hlt : j < l.length
    case pos =>
      obtain ⟨p0, p1⟩ := hR.cell (k := j) (x := 0) (by rw [negF, List.getElem?_map, List.getElem?_range hlt]; simp)
      have HR := Lib.hid (hR.set j (-1))
      rw [negF_set hlt] at HR
      have hl1 : (j : Int) < (l.length : Int) := by omega
      have hl0 : (0 : Int) ≤ (j : Int) := by omega
      clear hR
      go_wp2_with fail
      refine ⟨?rel, ?measure⟩
      case rel => exact ⟨j + 1, by omega, by go_num, HR.out, hT.trans (touch_set rfl (by simp))⟩
      case measure => first | (simp [intOf]; done) | (simp [intOf]; omega)
    have ej : j = l.length := by omega
    subst ej
    rw [negF_end, neg_rowF] at hR
    have hwr : Below w.heap.size w wr := (touch_below hwM [w2.heap.size]).trans hT |>.below (by simp; omega) (Nat.le_refl _)
    obtain ⟨p0, p1⟩ := hR.cell (rowF_get (fun _ => -1) hib)
    have hR4 := hR.set ib 0
    rw [rowF_set _ _ hib] at hR4
    obtain ⟨W4, hW4⟩ : ∃ z, wr.setCell ⟨w2.heap.size, ib, none⟩ (.int .i64 0) = z := ⟨_, rfl⟩
    rw [hW4] at hR4
    have hT4 : Touch M W4 [w2.heap.size] := hT.trans (by rw [← hW4]; exact touch_set rfl (by simp))
    have HR4 : Hid (RowI W4 w2.heap.size (rowF l.length (begI (ib : Int)))) := Lib.hid hR4
    have HT4 := Lib.hid hT4
    have h1 : (ib : Int) < (l.length : Int) := by omega
    have h0 : (0 : Int) ≤ (ib : Int) := by omega
    have Hhr := Lib.hid (Hh.out.below hwr)
    have Hst := Lib.hid (rnd_start P hib)
    clear hR hR4 hT4 hT hlt hj hwr n1 n2
    go_wp2_with fail
    refine (HB.out _ Hhr.out).mono ?_
    rintro e w3 ⟨rfl, rfl⟩
    go_wp2_with fail
    clear p0 p1 hW4 HB h1 h0
    go_loopw [14] (fun kv wr => ∃ (k : Nat) (f : Int → Int), k ≤ l.length ∧ kv = .int .i64 k ∧ RowI wr w2.heap.size (rowF l.length f) ∧ Touch M wr [w2.heap.size] ∧ Hid (RndP P (ib : Int) l.length f (k : Int) 0)) (fun kv _ => l.length - (intOf kv).toNat)
    case atStart => exact ⟨0, _, Nat.zero_le _, rfl, HR4.out, HT4.out, Hst⟩
    case round =>
      clear HR4 HT4 Hst Hhr
      obtain ⟨wk, hwk0⟩ : ∃ z, z = wr := ⟨_, rfl⟩
      subst hwk0
      obtain ⟨k, f, hk, rfl, hR, hT, HB⟩ := hrel
      by_cases hlt : k < l.length
      case pos =>
        have hk1 : (k : Int) < (l.length : Int) := by omega
        have hk0 : (0 : Int) ≤ (k : Int) := by omega
        have Hst := Lib.hid (And.intro hR hT)
        clear hR hT
        go_wp2_with fail
        go_loopw [15] (fun jv wr => ∃ (j : Nat) (f : Int → Int), j ≤ Q.length ∧ jv = .int .i64 j ∧ RowI wr w2.heap.size (rowF l.length f) ∧ Touch M wr [w2.heap.size] ∧ Hid (RndP P (ib : Int) l.length f (k : Int) j)) (fun jv _ => Q.length - (intOf jv).toNat)
        case atStart => exact ⟨0, f, Nat.zero_le _, rfl, Hst.out.1, Hst.out.2, HB⟩
        case round =>
          as_aux_lemma =>
            clear HB Hst f
            obtain ⟨wt, hwt0⟩ : ∃ z, z = wr := ⟨_, rfl⟩
            subst hwt0
            obtain ⟨j, f, hj, rfl, hR, hT, HB⟩ := hrel
            have hwt : Below w.heap.size w wt := (touch_below hwM [w2.heap.size]).trans hT |>.below (by simp; omega) (Nat.le_refl _)
            have hw2t : Below w2.heap.size w2 wt := (touch_below hbM [w2.heap.size]).trans hT |>.below (by simp) (Nat.le_refl _)
            by_cases hltj : j < Q.length
            case neg =>
              have HN := Lib.hid (HB.out.next (by have := HQl.out; omega))
              have HR := Lib.hid hR
              clear hR
              go_wp2_with fail
              refine ⟨?rel, ?measure⟩
              case rel => exact ⟨k + 1, f, by omega, by go_num, HR.out, hT, by have := HN.out; exact Lib.hid (by simpa using this)⟩
              case measure => first | (simp [intOf]; done) | (simp [intOf]; omega)
            obtain ⟨p, hp⟩ := get_of_lt (show j < P.length by have := HQl.out; omega)
            obtain ⟨⟨hf0, hfn⟩, hr0, hrn⟩ := Hin.out p (List.mem_of_getElem? hp)
            obtain ⟨_, _, ex, _, _, hqc⟩ := HU.out.cells
            cases ex
            obtain ⟨bq, oq, rfl, _, hqb⟩ := hqc j hltj
            obtain ⟨y0, y1, y2⟩ := hqb wt hw2t j _ (HQ.out j p hp)
            obtain ⟨fi, hfi⟩ : ∃ i : Nat, p.obv = i := ⟨p.obv.toNat, by omega⟩
            obtain ⟨ti, hti⟩ : ∃ i : Nat, p.rev = i := ⟨p.rev.toNat, by omega⟩
            have hfin : fi < l.length := by omega
            have htin : ti < l.length := by omega
            replace y1 : wt.cell? ⟨bq, oq + j * 3 + 1, none⟩ = some (.int .i64 (idAt l (fi : Int))) := by rw [← hfi]; exact y1
            replace y2 : wt.cell? ⟨bq, oq + j * 3 + 2, none⟩ = some (.int .i64 (idAt l (ti : Int))) := by rw [← hti]; exact y2
            have h1 := Hpl.out fi hfin wt (Hh.out.below hwt)
            have h2 := Hpl.out ti htin wt (Hh.out.below hwt)
            obtain ⟨If, hIf⟩ : ∃ z, idAt l (fi : Int) = z := ⟨_, rfl⟩
            obtain ⟨It, hIt⟩ : ∃ z, idAt l (ti : Int) = z := ⟨_, rfl⟩
            rw [hIf] at y1 h1
            rw [hIt] at y2 h2
            have H1 := Lib.hid h1; have H2 := Lib.hid h2
            obtain ⟨c0, c1⟩ := hR.cell (rowF_get f hfin)
            have c2 := (hR.cell (rowF_get f htin)).1
            have hF : f (ti : Int) = k → f (fi : Int) < 0 → RndP P (ib : Int) l.length (updI f (fi : Int) ((k : Int) + 1)) (k : Int) (j + 1) := fun e1 e2 => by
              have := HB.out.add (by omega) hp (by rw [hti]; exact e1) hfi hfin (by rw [hfi]; exact e2)
              rwa [hfi] at this
            have hS : (f (ti : Int) = k → 0 ≤ f (fi : Int)) → RndP P (ib : Int) l.length f (k : Int) (j + 1) := fun e1 => HB.out.skip hp (by rw [hti, hfi]; exact e1)
            have hRn := hR.set fi ((k : Int) + 1)
            rw [rowF_set _ _ hfin] at hRn
            obtain ⟨X, hX⟩ : ∃ z, f (fi : Int) = z := ⟨_, rfl⟩
            obtain ⟨Y, hY⟩ : ∃ z, f (ti : Int) = z := ⟨_, rfl⟩
            rw [hX] at c0 hF hS
            rw [hY] at c2 hF hS
            have HF := Lib.hid hF; have HS := Lib.hid hS; have HRn := Lib.hid hRn; have HR := Lib.hid hR; have HT := Lib.hid hT
            have HTn := Lib.hid (hT.trans (touch_set (a := ⟨w2.heap.size, fi, none⟩) (x := .int .i64 ((k : Int) + 1)) (S := [w2.heap.size]) rfl (by simp)))
            have hj1 : (j : Int) < (Q.length : Int) := by omega
            have hj0 : (0 : Int) ≤ (j : Int) := by omega
            have hfi1 : (fi : Int) < (l.length : Int) := by omega
            have hfi0 : (0 : Int) ≤ (fi : Int) := by omega
            have hti1 : (ti : Int) < (l.length : Int) := by omega
            have hti0 : (0 : Int) ≤ (ti : Int) := by omega
            have hk25 : (k : Int) ≤ 24 := by omega
            clear hqc hqb hp hf0 hfn hr0 hrn hfi hti h1 h2 hIf hIt hF hS hRn hR hT hX hY y0
            by_cases e1 : Y = k
            case neg =>
              have t1 : (Y == (k : Int)) = false := by simpa using e1
              have HN := Lib.hid (HS.out fun e => absurd e e1)
              clear e1
              go_wp2_with fail
              refine H2.out.mono ?_
              rintro e w6 ⟨rfl, rfl⟩
              go_wp2_with fail
              refine ⟨?rel, ?measure⟩
              case rel => exact ⟨j + 1, f, by omega, by go_num, HR.out, HT.out, HN⟩
              case measure => first | (simp [intOf]; done) | (simp [intOf]; omega)
            have t1 : (Y == (k : Int)) = true := by simpa using e1
            by_cases e2 : X < 0
            case neg =>
              have t2 : decide (X < 0) = false := decide_eq_false e2
              have HN := Lib.hid (HS.out fun _ => by omega)
              clear e1
              go_wp2_with fail
              refine H2.out.mono ?_
              rintro e w6 ⟨rfl, rfl⟩
              go_wp2_with fail
              refine H1.out.mono ?_
              rintro e w6 ⟨rfl, rfl⟩
              go_wp2_with fail
              refine ⟨?rel, ?measure⟩
              case rel => exact ⟨j + 1, f, by omega, by go_num, HR.out, HT.out, HN⟩
              case measure => first | (simp [intOf]; done) | (simp [intOf]; omega)
            have t2 : decide (X < 0) = true := decide_eq_true e2
            have HN := Lib.hid (HF.out e1 e2)
            clear e1
            go_wp2_with fail
            refine H2.out.mono ?_
            rintro e w6 ⟨rfl, rfl⟩
            go_wp2_with fail
            refine H1.out.mono ?_
            rintro e w6 ⟨rfl, rfl⟩
            go_wp2_with fail
            refine H1.out.mono ?_
            rintro e w6 ⟨rfl, rfl⟩
            go_wp2_with fail
            refine ⟨?rel, ?measure⟩
            case rel => exact ⟨j + 1, _, by omega, by go_num, HRn.out, HTn.out, HN⟩
            case measure => first | (simp [intOf]; done) | (simp [intOf]; omega)
      case neg =>
        as_aux_lemma =>
          have ek : k = l.length := by omega
          have hfar : FarP P (ib : Int) f := by have := HB.out; rw [ek] at this; exact this.far
          have Hf := Lib.hid hfar
          have Hfn : Hid (∀ x, f x ≤ 24) := Lib.hid fun x => by have := HB.out.le x; omega
          have hwk : Below w.heap.size w wk := (touch_below hwM [w2.heap.size]).trans hT |>.below (by simp; omega) (Nat.le_refl _)
          have hw2k : Below w2.heap.size w2 wk := (touch_below hbM [w2.heap.size]).trans hT |>.below (by simp) (Nat.le_refl _)
          have HU5 := Lib.hid (show Links wk _ Q from HU.out.below hw2k)
          have Hrow5 := Lib.hid hR
          have Hz5 := Lib.hid hwk.size
          have Ha : Hid (a = idAt l (ia : Int)) := Lib.hid (by rw [← Hpa.out]; exact (idAt_pl (by rw [Hpa.out]; omega)).symm)
          have Hb : Hid (b = idAt l (ib : Int)) := Lib.hid (by rw [← Hpb.out]; exact (idAt_pl (by rw [Hpb.out]; omega)).symm)
          obtain ⟨iP, hiP, hzP, hkP, hbP⟩ := info_parts infoPf
          clear HB hR hT hfar ek hw2k
          go_wp2_with fail
          go_loopw [16, 17] (fun ov av wr => ∃ (x N : Nat) (acc R : List Link) (ax : Int), av = .int .i64 ax ∧ x < l.length ∧ OwnPf wk.heap.size wr ov R ∧ Below wk.heap.size wk wr ∧ Hid (ax = idAt l (x : Int)) ∧ Hid (R = acc.map (prfL l)) ∧ Hid (ChS f (idAt l) P (ib : Int) (ia : Int) acc (x : Int) N)) (fun ov _ _ => 26 - qLen ov)
          case atStart => exact ⟨ia, 26, [], [], a, rfl, hia, own_nil _ _ _ _ _, Below.refl _ _, Ha, Lib.hid rfl, Lib.hid chS_start⟩
          case round =>
            obtain ⟨x, N, acc, R, ax, rfl, hx, hown, hbr, Hax, HR, HCh⟩ := hrel
            obtain ⟨wo, hwo0⟩ : ∃ z, z = wr := ⟨_, rfl⟩
            subst hwo0
            have hRl : R.length = acc.length := by rw [HR.out, List.length_map]
            have hRn : R.length ≤ 26 := by have := HCh.out.len; omega
            obtain ⟨Ao, co, rfl, _⟩ := id hown.slOf
            have hwo := below_trans hwk hbr
            have Hown := Lib.hid hown
            by_cases hdone : acc ≠ [] ∧ x = ib
            case pos =>
              have h1 : ((R.length : Int) == 0) = false := by
                have : acc.length ≠ 0 := fun e => hdone.1 (List.eq_nil_of_length_eq_zero e)
                exact beq_eq_false_iff_ne.2 (by omega)
              have h2 : (ax != b) = false := by rw [Hax.out, Hb.out, hdone.2]; simp
              have h2' : (ax == b) = true := by rw [Hax.out, Hb.out, hdone.2]; simp
              obtain ⟨q1, q2⟩ := HCh.out.done hdone.1 (by rw [hdone.2])
              have HWR : Hid (WhyR l C a b 0 R) := Lib.hid (.inr (.inr ⟨Hg0.out, by rw [Hpa.out, Hpb.out]; omega, f, ⟨by rw [HPn.out, Hpb.out]; exact Hf.out, Hfn.out⟩, .inr ⟨by rw [Hpa.out, HPn.out]; exact q2, rfl, by rw [HR.out, q1, HPn.out, Hpa.out, Hpb.out]⟩⟩))
              have HoF := Lib.hid (show OwnPf w.heap.size wo (.slice Ao R.length co) R from Own.base hown Hz5.out)
              clear hdone hRl hown q1 q2
              go_wp2_with fail
              exact bodyPost_ret (v := .tuple #[.slice Ao R.length co, .int .i64 0]) (by simp [results, Tryz.results54, go_sem]) rfl ⟨_, _, _, rfl, HoF.out, HWR.out, hwo⟩
            have Hgo : Hid (acc = [] ∨ (x : Int) ≠ ib) := Lib.hid (by
              by_cases e : acc = []
              · exact .inl e
              · exact .inr fun e2 => hdone ⟨e, by omega⟩)
            have HRl := Lib.hid hRl
            clear hdone hRl hown
            go_upto_region 23 with fail
            go_cut [114] (fun tv wc => tv = .bool true ∧ wc = wo)
            case first =>
              cases e1 : ((R.length : Int) == 0)
              · have h3 : acc ≠ [] := fun e => by rw [HRl.out, e] at e1; simp at e1
                have h4 := Hgo.out.resolve_left h3
                have h5 : ax ≠ b := fun e => by
                  rw [Hax.out, Hb.out] at e
                  have := Hinj.out x ib hx hib e
                  omega
                have h2 : (ax == b) = false := by simpa using h5
                have h2' : (ax != b) = true := by simp [bne, h2]
                clear h3 h4 h5
                go_wp2_with fail
                go_meet
                exact ⟨rfl, rfl⟩
              · go_wp2_with fail
                go_meet
                exact ⟨rfl, rfl⟩
            case rest =>
              as_aux_lemma =>
                obtain ⟨rfl, hwc⟩ := hcut
                obtain rfl : wc = wo := hwc
                obtain ⟨wo, hwo0⟩ : ∃ z, z = wc := ⟨_, rfl⟩
                subst hwo0
                go_wp2_with fail
                go_loopw [18, 19] (fun bv iv wr => ∃ (j : Nat) (bi : Int), j ≤ Q.length ∧ iv = .int .i64 j ∧ bv = .int .i64 bi ∧ Below wo.heap.size wo wr ∧ Hid (BIx P bi (bestF f (idAt l) (x : Int) (P.take j)))) (fun _ iv _ => Q.length - (intOf iv).toNat)
                case atStart => exact ⟨0, -1, Nat.zero_le _, rfl, rfl, Below.refl _ _, Lib.hid rfl⟩
                case round =>
                  obtain ⟨wt, hwt0⟩ : ∃ z, z = wr := ⟨_, rfl⟩
                  subst hwt0
                  obtain ⟨j, bi, hj, rfl, rfl, hbt, Hbi⟩ := hrel
                  obtain ⟨bo, hbo⟩ : ∃ b, bestF f (idAt l) (x : Int) (P.take j) = b := ⟨_, rfl⟩
                  rw [hbo] at Hbi
                  have Hbo := Lib.hid hbo
                  have hbw := below_trans hbr hbt
                  have hww := below_trans hwk hbw
                  clear hbo
                  by_cases hltj : j < Q.length
                  case neg =>
                    have HboP : Hid (bestF f (idAt l) (x : Int) P = bo) := Lib.hid (by have := Hbo.out; rwa [List.take_of_length_le (by have := HQl.out; omega)] at this)
                    cases bo with
                    | none =>
                      have HWR : Hid (WhyR l C a b 7 []) := Lib.hid (.inr (.inr ⟨Hg0.out, by rw [Hpa.out, Hpb.out]; omega, f, ⟨by rw [HPn.out, Hpb.out]; exact Hf.out, Hfn.out⟩, .inl ⟨by rw [Hpa.out, HPn.out]; exact HCh.out.none Hf.out Hgo.out HboP.out, rfl, rfl⟩⟩))
                      obtain rfl : bi = -1 := Hbi.out
                      go_wp2_with fail
                      exact bodyPost_ret (v := .tuple #[.slice none 0 0, .int .i64 7]) (by simp [results, Tryz.results54, go_sem]) rfl ⟨_, _, [], rfl, own_nil _ _ _ _ _, HWR.out, hww⟩
                    | some p =>
                      as_aux_lemma =>
                        obtain ⟨bn, hbn, hbp⟩ := Hbi.out
                        subst hbn
                        obtain ⟨hpm, hpo, hpf⟩ := best_mem HboP.out
                        obtain ⟨N', hN', hstep⟩ := HCh.out.step Hf.out Hfn.out Hgo.out HboP.out
                        have hlen := HCh.out.len
                        obtain ⟨⟨_, _⟩, hr0, hrn⟩ := Hin.out p hpm
                        obtain ⟨tb, htb⟩ : ∃ i : Nat, p.rev = i := ⟨p.rev.toNat, by omega⟩
                        have htl : tb < l.length := by omega
                        rw [htb] at hstep
                        have hbl : bn < Q.length := by have := lt_of_get hbp; have := HQl.out; omega
                        obtain ⟨_, _, ex, _, _, hqc⟩ := HU5.out.cells
                        cases ex
                        obtain ⟨bq, oq, rfl, hbq5, hqb⟩ := hqc bn hbl
                        obtain ⟨y0, y1, y2⟩ := hqb wt hbw bn _ (HQ.out bn p hbp)
                        have HY : Hid (∀ w7, Below wk.heap.size wk w7 → w7.cell? ⟨bq, oq + bn * 3 + 2, none⟩ = some (.int .i64 (prfL l p).rev)) := Lib.hid fun w7 h7 => (hqb w7 h7 bn _ (HQ.out bn p hbp)).2.2
                        have Hrv : Hid ((prfL l p).rev = idAt l (tb : Int)) := Lib.hid (by rw [← htb]; rfl)
                        have Hsn : Hid (R ++ [prfL l p] = (acc ++ [p]).map (prfL l)) := Lib.hid (by
                          rw [List.map_append, ← HR.out]; rfl)
                        obtain ⟨pq, hpq⟩ : ∃ z, prfL l p = z := ⟨_, rfl⟩
                        rw [hpq] at y0 y1 y2 HY Hrv Hsn
                        have hneg : decide ((bn : Int) < 0) = false := decide_eq_false (by omega)
                        have hbn1 : (bn : Int) < (Q.length : Int) := by omega
                        have hbn0 : (0 : Int) ≤ (bn : Int) := by omega
                        have hR26 : R.length < 26 := by have := HRl.out; omega
                        have Hstep := Lib.hid hstep
                        have hownT := Hown.out.below hbt
                        have hzT : wk.heap.size ≤ wt.heap.size := hbw.size
                        have HOT := Lib.hid hownT
                        clear hqc hqb hstep hpm hpo hpf hN' hlen hr0 hrn htb hbp hpq Hbi
                        go_wp2_with (at_builtin; refine wpList_append1 (enc := encL) (size := 3) (B := wk.heap.size) rfl (.tmp 214) (.tmp 219) _ rfl 85 iP _ 24 Tryz.underlying81 hiP hzP hkP hbP rfl (by decide) rfl hownT (pq : Link) _ rfl lenL oneL _ rfl rfl (by omega) (by omega) hzT ?_; intro v' w7 hown' hgrow hat; obtain ⟨Av, cv9, rfl, _⟩ := id hown'.slOf; obtain ⟨Rn, hRn⟩ : ∃ z, R ++ [(pq : Link)] = z := ⟨_, rfl⟩; rw [hRn] at hown' hat ⊢; have HRn := Lib.hid hRn; have HO7 := Lib.hid hown'; have Hb7 := Lib.hid (hbw.grown hgrow hzT (fun j e => (HOT.out.lt j e).1)); have m27 := HY.out _ Hb7.out; clear hRn hown' hgrow hat)
                        have hRnl : Rn.length = R.length + 1 := by rw [← HRn.out, List.length_append]; rfl
                        refine ⟨?rel, ?measure⟩
                        case rel => exact ⟨tb, N', acc ++ [p], Rn, _, by go_num, htl, HO7.out, Hb7.out, Hrv, Lib.hid (by rw [← Hsn.out]; exact HRn.out.symm), Hstep⟩
                        case measure => simp [qLen]; omega
                  obtain ⟨pj, hpj⟩ := get_of_lt (show j < P.length by have := HQl.out; omega)
                  have hpm := List.mem_of_getElem? hpj
                  obtain ⟨⟨hf0, hfn'⟩, hr0, hrn⟩ := Hin.out pj hpm
                  have HbN : Hid (bestF f (idAt l) (x : Int) (P.take (j + 1)) = bestS f (idAt l) (x : Int) bo pj) := Lib.hid (by rw [bestF_snoc hpj, Hbo.out])
                  obtain ⟨fi, hfi⟩ : ∃ i : Nat, pj.obv = i := ⟨pj.obv.toNat, by omega⟩
                  obtain ⟨ti, hti⟩ : ∃ i : Nat, pj.rev = i := ⟨pj.rev.toNat, by omega⟩
                  have hfin : fi < l.length := by omega
                  have htin : ti < l.length := by omega
                  obtain ⟨_, _, ex, _, _, hqc⟩ := HU5.out.cells
                  cases ex
                  obtain ⟨bq, oq, rfl, _, hqb⟩ := hqc j hltj
                  obtain ⟨y0, y1, y2⟩ := hqb wt hbw j _ (HQ.out j pj hpj)
                  replace y1 : wt.cell? ⟨bq, oq + j * 3 + 1, none⟩ = some (.int .i64 (idAt l (fi : Int))) := by rw [← hfi]; exact y1
                  replace y2 : wt.cell? ⟨bq, oq + j * 3 + 2, none⟩ = some (.int .i64 (idAt l (ti : Int))) := by rw [← hti]; exact y2
                  replace y0 : wt.cell? ⟨bq, oq + j * 3, none⟩ = some (.int .i64 pj.id) := y0
                  have h2 := fun z : Later wt => Hpl.out ti htin z.to (Hh.out.below (below_trans hww z.h))
                  have hcand : candB f (x : Int) pj = (decide ((fi : Int) = (x : Int)) && decide (0 ≤ f (ti : Int))) := by rw [candB, hfi, hti]
                  have hinj : fi ≠ x → ¬ idAt l (fi : Int) = ax := fun e1 e2 => e1 (Hinj.out fi x hfin hx (by rw [e2, Hax.out]))
                  have heq : fi = x → idAt l (fi : Int) = ax := fun e1 => by rw [e1, Hax.out]
                  obtain ⟨If, hIf⟩ : ∃ z, idAt l (fi : Int) = z := ⟨_, rfl⟩
                  obtain ⟨It, hIt⟩ : ∃ z, idAt l (ti : Int) = z := ⟨_, rfl⟩
                  rw [hIf] at y1 hinj heq
                  rw [hIt] at y2 h2
                  obtain ⟨X, hX⟩ : ∃ z, f (ti : Int) = z := ⟨_, rfl⟩
                  have c0 := ((Hrow5.out.below hbw).cell (rowF_get f htin)).1
                  rw [hX] at c0 hcand
                  have H2 := Lib.hid h2; have Hcand := Lib.hid hcand; have Hinj2 := Lib.hid hinj; have Heq2 := Lib.hid heq
                  have hkey : ∀ q : Link, keyLt f (idAt l) pj q = (decide (X < f q.rev) || (decide (X = f q.rev) && (decide (It < idAt l q.rev) || (decide (It = idAt l q.rev) && decide (pj.id < q.id))))) := fun q => by rw [keyLt, hti, hX, hIt]
                  have Hkey := Lib.hid hkey
                  have Hpj := Lib.hid hpj
                  have hj1 : (j : Int) < (Q.length : Int) := by omega
                  have hj0 : (0 : Int) ≤ (j : Int) := by omega
                  have hti1 : (ti : Int) < (l.length : Int) := by omega
                  have hti0 : (0 : Int) ≤ (ti : Int) := by omega
                  clear hqc hpj hpm hf0 hfn' hr0 hrn hfi hti h2 hcand hinj heq hIf hIt hX hkey
                  by_cases hcf : fi = x
                  case neg =>
                    have t0 := Hinj2.out hcf
                    have t1 : (If == ax) = false := by simpa using t0
                    have t2 : (If != ax) = true := by simp [bne, t1]
                    have HN : Hid (bestF f (idAt l) (x : Int) (P.take (j + 1)) = bo) := Lib.hid (by rw [HbN.out]; exact best_skip (by rw [Hcand.out, decide_eq_false (by omega)]; rfl))
                    clear hcf t0 hqb
                    go_wp2_with fail
                    refine ⟨?rel, ?measure⟩
                    case rel => exact ⟨j + 1, bi, by omega, by go_num, rfl, hbt, Lib.hid (by rw [HN.out]; exact Hbi.out)⟩
                    case measure => first | (simp [intOf]; done) | (simp [intOf]; omega)
                  have t0 := Heq2.out hcf
                  have t1 : (If == ax) = true := by simpa using t0
                  have t2 : (If != ax) = false := by simp [bne, t1]
                  by_cases hX0 : X < 0
                  case pos =>
                    have t3 : decide (X < 0) = true := decide_eq_true hX0
                    have HN : Hid (bestF f (idAt l) (x : Int) (P.take (j + 1)) = bo) := Lib.hid (by rw [HbN.out]; exact best_skip (by rw [Hcand.out, decide_eq_false (show ¬ 0 ≤ X by omega), Bool.and_false]))
                    clear hcf t0 hqb
                    go_wp2_with fail
                    refine (H2.out ⟨wt, Below.refl _ _⟩).mono ?_
                    rintro e w6 ⟨rfl, hw6⟩
                    obtain rfl : wt = w6 := hw6
                    go_wp2_with fail
                    refine ⟨?rel, ?measure⟩
                    case rel => exact ⟨j + 1, bi, by omega, by go_num, rfl, hbt, Lib.hid (by rw [HN.out]; exact Hbi.out)⟩
                    case measure => first | (simp [intOf]; done) | (simp [intOf]; omega)
                  have t3 : decide (X < 0) = false := decide_eq_false hX0
                  have Hc : Hid (candB f (x : Int) pj = true) := Lib.hid (by rw [Hcand.out, decide_eq_true (show (fi : Int) = x by omega), decide_eq_true (show 0 ≤ X by omega)]; rfl)
                  clear hcf t0
                  cases bo with
                  | none =>
                    obtain rfl : bi = -1 := Hbi.out
                    have HN : Hid (bestF f (idAt l) (x : Int) (P.take (j + 1)) = some pj) := Lib.hid (by rw [HbN.out]; unfold bestS; rw [if_pos Hc.out])
                    clear hqb
                    go_wp2_with fail
                    refine (H2.out ⟨wt, Below.refl _ _⟩).mono ?_
                    rintro e w6 ⟨rfl, hw6⟩
                    obtain rfl : wt = w6 := hw6
                    go_wp2_with fail
                    refine ⟨?rel, ?measure⟩
                    case rel => exact ⟨j + 1, (j : Int), by omega, by go_num, by go_num, hbt, Lib.hid (by rw [HN.out]; exact ⟨j, rfl, Hpj.out⟩)⟩
                    case measure => first | (simp [intOf]; done) | (simp [intOf]; omega)
                  | some q =>
                    as_aux_lemma =>
                      obtain ⟨bn, hbn, hbp⟩ := Hbi.out
                      subst hbn
                      have hqm := List.mem_of_getElem? hbp
                      obtain ⟨_, hr0, hrn⟩ := Hin.out q hqm
                      obtain ⟨tb, htb⟩ : ∃ i : Nat, q.rev = i := ⟨q.rev.toNat, by omega⟩
                      have htbn : tb < l.length := by omega
                      obtain ⟨u0, _, u2⟩ := hqb wt hbw bn _ (HQ.out bn q hbp)
                      replace u2 : wt.cell? ⟨bq, oq + bn * 3 + 2, none⟩ = some (.int .i64 (idAt l (tb : Int))) := by rw [← htb]; exact u2
                      replace u0 : wt.cell? ⟨bq, oq + bn * 3, none⟩ = some (.int .i64 q.id) := u0
                      have h3 := fun z : Later wt => Hpl.out tb htbn z.to (Hh.out.below (below_trans hww z.h))
                      have c1 := ((Hrow5.out.below hbw).cell (rowF_get f htbn)).1
                      have hk := Hkey.out q
                      rw [htb] at hk
                      obtain ⟨Iq, hIq⟩ : ∃ z, idAt l (tb : Int) = z := ⟨_, rfl⟩
                      obtain ⟨Y, hY⟩ : ∃ z, f (tb : Int) = z := ⟨_, rfl⟩
                      rw [hIq] at u2 h3 hk
                      rw [hY] at c1 hk
                      have hbl : bn < Q.length := by have := lt_of_get hbp; have := HQl.out; omega
                      have HYes : Hid (keyLt f (idAt l) pj q = true → bestF f (idAt l) (x : Int) (P.take (j + 1)) = some pj) := Lib.hid fun e => by
                        rw [HbN.out]; unfold bestS; rw [if_pos Hc.out]; show (if keyLt f (idAt l) pj q = true then some pj else some q) = _; rw [if_pos e]
                      have HNo : Hid (keyLt f (idAt l) pj q = false → bestF f (idAt l) (x : Int) (P.take (j + 1)) = some q) := Lib.hid fun e => by
                        rw [HbN.out]; unfold bestS; rw [if_pos Hc.out]; show (if keyLt f (idAt l) pj q = true then some pj else some q) = _; rw [if_neg (by rw [e]; simp)]
                      have H3 := Lib.hid h3; have Hk := Lib.hid hk; have HbP := Lib.hid hbp
                      have hneg : decide ((bn : Int) < 0) = false := decide_eq_false (by omega)
                      have hbn1 : (bn : Int) < (Q.length : Int) := by omega
                      have hbn0 : (0 : Int) ≤ (bn : Int) := by omega
                      have htb1 : (tb : Int) < (l.length : Int) := by omega
                      have htb0 : (0 : Int) ≤ (tb : Int) := by omega
                      have CK0 := Later.cell_all y0; have CK2 := Later.cell_all y2; have CB0 := Later.cell_all u0; have CB2 := Later.cell_all u2; have C0 := Later.cell_all c0; have C1 := Later.cell_all c1
                      obtain ⟨pid, hpid⟩ : ∃ z, pj.id = z := ⟨_, rfl⟩
                      obtain ⟨qid, hqid⟩ : ∃ z, q.id = z := ⟨_, rfl⟩
                      rw [hpid] at y0 CK0 Hk
                      rw [hqid] at u0 CB0 Hk
                      clear hqb hbp hqm hr0 hrn htb h3 hk hIq hY hpid hqid Hbi
                      go_wp2_with fail
                      refine (H2.out ⟨wt, Below.refl _ _⟩).mono ?_
                      rintro e w6 ⟨rfl, hw6⟩
                      obtain rfl : wt = w6 := hw6
                      go_wp2_with fail
                      refine wp_region_later (by kernel_rfl) (by kernel_rfl) ?_
                      repeat (go_big_quiet_step (first | (go_at_call 85; with_reducible exact calls_later_same (H2.out _)) | (go_at_call 85; with_reducible exact calls_later_same (H3.out _))))
                      refine wpQuiet_nil ?_
                      intro _ hw'
                      obtain ⟨xq, hw''⟩ := hw'
                      subst hw''
                      have hbq := xq.h
                      generalize xq.to = wq at hbq ⊢
                      have hbtq := below_trans hbt hbq
                      replace y0 := cell_later hbq y0; replace y2 := cell_later hbq y2; replace u0 := cell_later hbq u0; replace u2 := cell_later hbq u2
                      replace CK0 := Later.cell_all y0; replace CK2 := Later.cell_all y2; replace CB0 := Later.cell_all u0; replace CB2 := Later.cell_all u2
                      clear C0 C1 c0 c1 y0 y1 y2 u0 u2
                      cases e1 : decide (X < Y)
                      · cases e2 : decide (X = Y)
                        · have e2' : (X == Y) = false := e2
                          go_wp2_with fail
                          refine wp_region_later (by kernel_rfl) (by kernel_rfl) ?_
                          repeat (go_big_quiet_step (first | fail))
                          refine wpQuiet_nil ?_
                          intro _ hw'
                          obtain ⟨xq, hw''⟩ := hw'
                          subst hw''
                          have hbq2 := xq.h
                          generalize xq.to = wq2 at hbq2 ⊢
                          clear CK0 CK2 CB0 CB2
                          have hbt2 := below_trans hbtq hbq2
                          go_wp2_with fail
                          refine ⟨?rel, ?measure⟩
                          case rel => exact ⟨j + 1, (bn : Int), by omega, by go_num, by go_num, hbt2, Lib.hid (by rw [HNo.out (by rw [Hk.out, e1, e2]; rfl)]; exact ⟨bn, rfl, HbP.out⟩)⟩
                          case measure => first | (simp [intOf]; done) | (simp [intOf]; omega)
                        · have e2' : (X == Y) = true := e2
                          cases e3 : decide (It < Iq)
                          · cases e4 : decide (It = Iq)
                            · have e4' : (It == Iq) = false := e4
                              go_wp2_with fail
                              refine wp_region_later (by kernel_rfl) (by kernel_rfl) ?_
                              repeat (go_big_quiet_step (first | fail))
                              refine wpQuiet_nil ?_
                              intro _ hw'
                              obtain ⟨xq, hw''⟩ := hw'
                              subst hw''
                              have hbq2 := xq.h
                              generalize xq.to = wq2 at hbq2 ⊢
                              clear CK0 CK2 CB0 CB2
                              have hbt2 := below_trans hbtq hbq2
                              go_wp2_with fail
                              refine ⟨?rel, ?measure⟩
                              case rel => exact ⟨j + 1, (bn : Int), by omega, by go_num, by go_num, hbt2, Lib.hid (by rw [HNo.out (by rw [Hk.out, e1, e2, e3, e4]; rfl)]; exact ⟨bn, rfl, HbP.out⟩)⟩
                              case measure => first | (simp [intOf]; done) | (simp [intOf]; omega)
                            · have e4' : (It == Iq) = true := e4
                              cases e5 : decide (pid < qid)
                              · skip
                                go_wp2_with fail
                                refine wp_region_later (by kernel_rfl) (by kernel_rfl) ?_
                                repeat (go_big_quiet_step (first | fail))
                                refine wpQuiet_nil ?_
                                intro _ hw'
                                obtain ⟨xq, hw''⟩ := hw'
                                subst hw''
                                have hbq2 := xq.h
                                generalize xq.to = wq2 at hbq2 ⊢
                                clear CK0 CK2 CB0 CB2
                                have hbt2 := below_trans hbtq hbq2
                                go_wp2_with fail
                                refine ⟨?rel, ?measure⟩
                                case rel => exact ⟨j + 1, (bn : Int), by omega, by go_num, by go_num, hbt2, Lib.hid (by rw [HNo.out (by rw [Hk.out, e1, e2, e3, e4, e5]; rfl)]; exact ⟨bn, rfl, HbP.out⟩)⟩
                                case measure => first | (simp [intOf]; done) | (simp [intOf]; omega)
                              · skip
                                go_wp2_with fail
                                refine wp_region_later (by kernel_rfl) (by kernel_rfl) ?_
                                repeat (go_big_quiet_step (first | fail))
                                refine wpQuiet_nil ?_
                                intro _ hw'
                                obtain ⟨xq, hw''⟩ := hw'
                                subst hw''
                                have hbq2 := xq.h
                                generalize xq.to = wq2 at hbq2 ⊢
                                clear CK0 CK2 CB0 CB2
                                have hbt2 := below_trans hbtq hbq2
                                go_wp2_with fail
                                refine ⟨?rel, ?measure⟩
                                case rel => exact ⟨j + 1, (j : Int), by omega, by go_num, by go_num, hbt2, Lib.hid (by rw [HYes.out (by rw [Hk.out, e1, e2, e3, e4, e5]; rfl)]; exact ⟨j, rfl, Hpj.out⟩)⟩
                                case measure => first | (simp [intOf]; done) | (simp [intOf]; omega)
                          · skip
                            go_wp2_with fail
                            refine wp_region_later (by kernel_rfl) (by kernel_rfl) ?_
                            repeat (go_big_quiet_step (first | fail))
                            refine wpQuiet_nil ?_
                            intro _ hw'
                            obtain ⟨xq, hw''⟩ := hw'
                            subst hw''
                            have hbq2 := xq.h
                            generalize xq.to = wq2 at hbq2 ⊢
                            clear CK0 CK2 CB0 CB2
                            have hbt2 := below_trans hbtq hbq2
                            go_wp2_with fail
                            refine ⟨?rel, ?measure⟩
                            case rel => exact ⟨j + 1, (j : Int), by omega, by go_num, by go_num, hbt2, Lib.hid (by rw [HYes.out (by rw [Hk.out, e1, e2, e3]; rfl)]; exact ⟨j, rfl, Hpj.out⟩)⟩
                            case measure => first | (simp [intOf]; done) | (simp [intOf]; omega)
                      · skip
                        go_wp2_with fail
                        refine wp_region_later (by kernel_rfl) (by kernel_rfl) ?_
                        repeat (go_big_quiet_step (first | fail))
                        refine wpQuiet_nil ?_
                        intro _ hw'
                        obtain ⟨xq, hw''⟩ := hw'
                        subst hw''
                        have hbq2 := xq.h
                        generalize xq.to = wq2 at hbq2 ⊢
                        clear CK0 CK2 CB0 CB2
                        have hbt2 := below_trans hbtq hbq2
                        go_wp2_with fail
                        refine ⟨?rel, ?measure⟩
                        case rel => exact ⟨j + 1, (j : Int), by omega, by go_num, by go_num, hbt2, Lib.hid (by rw [HYes.out (by rw [Hk.out, e1]; rfl)]; exact ⟨j, rfl, Hpj.out⟩)⟩
                        case measure => first | (simp [intOf]; done) | (simp [intOf]; omega)
end Go.Proofs.YtlmjncncmgmehaaGreat
