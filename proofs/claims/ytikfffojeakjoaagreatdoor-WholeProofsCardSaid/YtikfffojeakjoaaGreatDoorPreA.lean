/- Package wear: side, before, Before's func. Condition: the arguments read as such. -/
import Derived.Test.YtikfffojeakjoaaGreatDoorTraA
import Derived.Test.YtikfffojeakjoaaGreatDoorSpecA
import Derived.Test.YtikfffojeakjoaaGreatDoorShelfX
import Derived.Shelf.SlSortCmp.NoneTotal
import Derived.Test.YtikfffojeakjoaaGreatDoorLinkH
import Derived.Shelf.Bits.Mul64
import Derived.Laws.CopyOwn
namespace Go.Proofs.YtikfffojeakjoaaGreatDoor
open Go.RowKit Go.Maps Go.Shelf

def numO (s : Spec) (o : Int) : Int := if o = 0 then s.obv else s.rev
def stO (s : Spec) (o : Int) : Int := if o = 0 then s.os else s.rs
/-- Whether a specimen is before another one by a side. -/
def befB (o : Int) (s t : Spec) : Bool := (numO s o == numO t o) && decide (stO s o < stO t o)
set_option maxHeartbeats 2000000 in
theorem side_ok (s : Spec) (o : Int) (w : World) : Calls Tryz.prog 90 #[valS s, .int .i64 o] w fun e w' => e = .returned (.tuple #[.int .i64 (numO s o), .int .i64 (stO s o)]) ∧ Below w.heap.size w w' := by
  obtain ⟨W, hW, Hz, hwW, hlt0, hc0⟩ := boxed w (encS s).toArray 27
  simp only [encS] at hW hc0
  have a1 := hc0 1 _ rfl; have a2 := hc0 2 _ rfl; have a3 := hc0 3 _ rfl; have a4 := hc0 4 _ rfl
  have A1 := Later.cell_all a1; have A2 := Later.cell_all a2; have A3 := Later.cell_all a3; have A4 := Later.cell_all a4
  clear hc0
  by_cases ho : o = 0
  · rw [numO, stO, if_pos ho, if_pos ho]
    have d1 : (o == 0) = true := by simpa using ho
    clear ho
    go_enter Tryz.func90, Tryz.ntmps90
    go_wp2_with fail
    refine wp_region_later (by kernel_rfl) (by kernel_rfl) ?_
    repeat (go_big_quiet_step (first | fail))
    refine wpQuiet_nil ?_
    intro _ hw'
    obtain ⟨xq, hw''⟩ := hw'
    subst hw''
    have hbz := xq.h
    generalize xq.to = wz at hbz ⊢
    go_wp2_with fail
    exact bodyPost_ret (v := .tuple #[.int .i64 s.obv, .int .i64 s.os]) (by simp [results, Tryz.results90, go_sem]) rfl ⟨rfl, below_trans hwW hbz⟩
  · rw [numO, stO, if_neg ho, if_neg ho]
    have d1 : (o == 0) = false := by simpa using ho
    clear ho
    go_enter Tryz.func90, Tryz.ntmps90
    go_wp2_with fail
    refine wp_region_later (by kernel_rfl) (by kernel_rfl) ?_
    repeat (go_big_quiet_step (first | fail))
    refine wpQuiet_nil ?_
    intro _ hw'
    obtain ⟨xq, hw''⟩ := hw'
    subst hw''
    have hbz := xq.h
    generalize xq.to = wz at hbz ⊢
    go_wp2_with fail
    exact bodyPost_ret (v := .tuple #[.int .i64 s.rev, .int .i64 s.rs]) (by simp [results, Tryz.results90, go_sem]) rfl ⟨rfl, below_trans hwW hbz⟩
set_option maxHeartbeats 4000000 in
theorem before_ok (s t : Spec) (o : Int) (w : World) : Calls Tryz.prog 70 #[valS s, valS t, .int .i64 o] w fun e w' => e = .returned (.bool (befB o s t)) ∧ Below w.heap.size w w' := by
  obtain ⟨W, hW, Hz, hwW, hlt0, hc0⟩ := boxed w (encS s).toArray 27
  simp only [encS] at hW hc0
  obtain ⟨V, hV, HzV, hwV, hltV, hcV⟩ := boxed W (encS t).toArray 27
  simp only [encS] at hV hcV
  have a0 := cell_later hwV (hc0 0 _ rfl); have a1 := cell_later hwV (hc0 1 _ rfl); have a2 := cell_later hwV (hc0 2 _ rfl); have a3 := cell_later hwV (hc0 3 _ rfl); have a4 := cell_later hwV (hc0 4 _ rfl); have a5 := cell_later hwV (hc0 5 _ rfl); have a6 := cell_later hwV (hc0 6 _ rfl)
  have b0 := hcV 0 _ rfl; have b1 := hcV 1 _ rfl; have b2 := hcV 2 _ rfl; have b3 := hcV 3 _ rfl; have b4 := hcV 4 _ rfl; have b5 := hcV 5 _ rfl; have b6 := hcV 6 _ rfl
  have hw2 := below_trans hwW hwV
  have HA := Lib.hid (side_ok s o V)
  have HB := Lib.hid (fun W' => side_ok t o W')
  have HR : Hid (befB o s t = ((numO s o == numO t o) && decide (stO s o < stO t o))) := Lib.hid rfl
  generalize befB o s t = R at HR ⊢
  generalize numO s o = n1 at HA HR
  generalize stO s o = x1 at HA HR
  generalize numO t o = n2 at HB HR
  generalize stO t o = x2 at HB HR
  clear hc0 hcV
  go_enter Tryz.func70, Tryz.ntmps70
  go_wp2_with fail
  refine HA.out.mono ?_
  rintro e w3 ⟨rfl, hb3⟩
  have b0 := cell_later hb3 b0; have b1 := cell_later hb3 b1; have b2 := cell_later hb3 b2; have b3 := cell_later hb3 b3; have b4 := cell_later hb3 b4; have b5 := cell_later hb3 b5; have b6 := cell_later hb3 b6
  clear a0 a1 a2 a3 a4 a5 a6
  go_wp2_with fail
  refine (HB.out _).mono ?_
  rintro e w4 ⟨rfl, hb4⟩
  clear b0 b1 b2 b3 b4 b5 b6
  have hw4 := below_trans hw2 (below_trans hb3 hb4)
  cases hn : (n1 == n2)
  · go_wp2_with fail
    go_ret
    exact ⟨ret_bool (by rw [HR.out, hn]; rfl), hw4⟩
  · go_wp2_with fail
    go_ret
    exact ⟨ret_bool (by rw [HR.out, hn]; rfl), hw4⟩
set_option maxHeartbeats 4000000 in
theorem before1_ok (s t : Spec) (o : Int) (q : Nat) (w : World) (h : w.cell? ⟨q, 0, none⟩ = some (.int .i64 o)) : Calls Tryz.prog 69 #[valS s, valS t, .pointer (some ⟨q, 0, none⟩)] w fun e w' => e = .returned (.bool (befB o s t)) ∧ Below w.heap.size w w' := by
  obtain ⟨W, hW, Hz, hwW, hlt0, hc0⟩ := boxed w (encS s).toArray 27
  simp only [encS] at hW hc0
  obtain ⟨V, hV, HzV, hwV, hltV, hcV⟩ := boxed W (encS t).toArray 27
  simp only [encS] at hV hcV
  have a0 := cell_later hwV (hc0 0 _ rfl); have a1 := cell_later hwV (hc0 1 _ rfl); have a2 := cell_later hwV (hc0 2 _ rfl); have a3 := cell_later hwV (hc0 3 _ rfl); have a4 := cell_later hwV (hc0 4 _ rfl); have a5 := cell_later hwV (hc0 5 _ rfl); have a6 := cell_later hwV (hc0 6 _ rfl)
  have b0 := hcV 0 _ rfl; have b1 := hcV 1 _ rfl; have b2 := hcV 2 _ rfl; have b3 := hcV 3 _ rfl; have b4 := hcV 4 _ rfl; have b5 := hcV 5 _ rfl; have b6 := hcV 6 _ rfl
  have hw2 := below_trans hwW hwV
  have h2 := cell_later hw2 h
  have HB := Lib.hid (before_ok s t o V)
  generalize befB o s t = R at HB ⊢
  clear hc0 hcV h
  go_enter Tryz.func69, Tryz.ntmps69
  go_wp2_with fail
  refine HB.out.mono ?_
  rintro e w3 ⟨rfl, hb3⟩
  go_wp2_with fail
  go_ret
  exact ⟨rfl, below_trans hw2 hb3⟩
end Go.Proofs.YtikfffojeakjoaaGreatDoor
/- Package wear: arcs, Before. Condition: the arguments read as such. -/
namespace Go.Proofs.YtikfffojeakjoaaGreatDoor
open Go.RowKit Go.Maps Go.Shelf

theorem infoAr : (Tryz.prog.info? 98).map (fun i => (i.zero, i.size, i.bytes)) = some (some (.agg #[.int .i64 0, .int .i64 0]), 2, 16) := by kernel_rfl
abbrev OwnAr (B : Nat) (w : World) (v : Value) (xs : List Pair) : Prop := Own encP 2 98 B w v xs
def rowW (o : Int) (s : Spec) (i : Nat) (l : List Spec) : List Pair := l.zipIdx.filterMap fun p => if befB o s p.1 = true then some ⟨i, p.2⟩ else none
/-- What is before what by a side, by places. -/
def arcsW (o : Int) (l : List Spec) : List Spec → List Pair := fun xs => xs.zipIdx.flatMap fun p => rowW o p.1 p.2 l
theorem zip_snoc {l : List Spec} {k : Nat} {x : Spec} (h : l[k]? = some x) : (l.take (k + 1)).zipIdx = (l.take k).zipIdx ++ [(x, k)] := by
  have hk := lt_of_get h
  rw [take_snoc' h, List.zipIdx_append, List.length_take, Nat.min_eq_left (by omega)]
  simp
theorem row_snoc {o : Int} {s : Spec} {i : Nat} {l : List Spec} {k : Nat} {x : Spec} (h : l[k]? = some x) : rowW o s i (l.take (k + 1)) = rowW o s i (l.take k) ++ (if befB o s x = true then [⟨i, k⟩] else []) := by
  rw [rowW, zip_snoc h, List.filterMap_append]
  cases hb : befB o s x <;> simp [rowW, hb]
theorem arcs_snoc {o : Int} {l m : List Spec} {k : Nat} {x : Spec} (h : m[k]? = some x) : arcsW o l (m.take (k + 1)) = arcsW o l (m.take k) ++ rowW o x k l := by
  simp only [arcsW]
  rw [zip_snoc h, List.flatMap_append]
  simp
set_option maxHeartbeats 8000000 in
set_option maxRecDepth 100000 in
theorem wArcs_ok (v : Value) (l : List Spec) (o : Int) (q : Nat) (w : World) (h : Specs w v l) (hl : l.length ≤ 64) (hq : w.cell? ⟨q, 0, none⟩ = some (.int .i64 o)) :
    Calls Tryz.prog 68 #[v, .func (.func 69) #[] #[.pointer (some ⟨q, 0, none⟩)]] w fun e w' => ∃ u, e = .returned u ∧ OwnAr w.heap.size w' u (arcsW o l l) ∧ Below w.heap.size w w' := by
  obtain ⟨A, c, rfl, _, _, hc⟩ := h.cells
  obtain ⟨iA, hiA, hzA, hkA, hbA⟩ := info_parts infoAr
  have Hq := Lib.hid hq
  clear h hq
  go_enter Tryz.func68, Tryz.ntmps68
  go_wp2_with fail
  go_loopw [5, 12] (fun u i wr => ∃ k : Nat, k ≤ l.length ∧ i = .int .i64 k ∧ OwnAr w.heap.size wr u (arcsW o l (l.take k)) ∧ Hid ((arcsW o l (l.take k)).length ≤ 64 * k) ∧ Below w.heap.size w wr) (fun _ i _ => l.length - (intOf i).toNat)
  case atStart => exact ⟨0, Nat.zero_le _, rfl, own_nil _ _ _ _ _, Lib.hid (by simp [arcsW]), Below.refl _ _⟩
  case round =>
    obtain ⟨k, hk, rfl, hown, HLk, hb⟩ := hrel
    by_cases hlt : k < l.length
    case neg =>
      rw [List.take_of_length_le (by omega)] at hown
      clear hc
      go_wp2_with fail
      go_ret
      exact ⟨_, rfl, hown, hb⟩
    obtain ⟨s, hs⟩ := get_of_lt hlt
    obtain ⟨bo, oo, rfl, _, hcb⟩ := hc k hlt
    obtain ⟨y0, y1, y2, y3, y4, y5, y6⟩ := hcb wr hb k s hs
    have Hs := Lib.hid hs
    obtain ⟨V1, V2, hV1, hV2, HzV2, hkV1, hkV2, hbV2, hltV2⟩ := fresh wr [.int .i64 0, .int .i64 0, .int .i64 0, .int .i64 0, .int .i64 0, .int .i64 0, .int .i64 0] [.int .i64 (s).id, .int .i64 (s).obv, .int .i64 (s).rev, .int .i64 (s).os, .int .i64 (s).rs, .int .i64 (s).ax, .int .i64 (s).wt] 27 rfl
    have hsV2 : ((((((V1.setCell ⟨wr.heap.size, 0, none⟩ (.int .i64 (s).id)).setCell ⟨wr.heap.size, 1, none⟩ (.int .i64 (s).obv)).setCell ⟨wr.heap.size, 2, none⟩ (.int .i64 (s).rev)).setCell ⟨wr.heap.size, 3, none⟩ (.int .i64 (s).os)).setCell ⟨wr.heap.size, 4, none⟩ (.int .i64 (s).rs)).setCell ⟨wr.heap.size, 5, none⟩ (.int .i64 (s).ax)).setCell ⟨wr.heap.size, 6, none⟩ (.int .i64 (s).wt) = V2 := hV2
    clear hV2
    obtain ⟨⟨z0, z1, z2, z3, z4, z5, z6⟩, f0, f1, f2, f3, f4, f5, f6⟩ := cellsS hkV1
    clear hkV1
    obtain ⟨⟨s0, s1, s2, s3, s4, s5, s6⟩, _⟩ := cellsS hkV2
    have hownV := hown.below hbV2
    have hbV := below_trans hb hbV2
    have Hown := Lib.hid hownV
    have Hk2 : Hid (V2.heap[wr.heap.size]? = some (.cells [.int .i64 s.id, .int .i64 s.obv, .int .i64 s.rev, .int .i64 s.os, .int .i64 s.rs, .int .i64 s.ax, .int .i64 s.wt].toArray 27 (0, 0))) := Lib.hid hkV2
    have Hne : Hid (∀ g, (u5 : Value).ownBlock = some g → g < wr.heap.size) := Lib.hid fun g e => (hown.lt g e).2
    have hV2z := hbV2.size
    have hV2l := hltV2
    clear hcb hs hown hownV hkV2
    obtain ⟨R, hR⟩ : ∃ R, arcsW o l (l.take k) = R := ⟨_, rfl⟩
    rw [hR] at Hown HLk
    have HR := Lib.hid hR
    clear hR
    go_wp2_with fail
    clear y0 y1 y2 y3 y4 y5 y6 z0 z1 z2 z3 z4 z5 z6 f0 f1 f2 f3 f4 f5 f6 s0 s1 s2 s3 s4 s5 s6 hsV2 hV1
    obtain ⟨wo, hwo⟩ : ∃ z, z = wr := ⟨_, rfl⟩
    subst hwo
    go_loopw [5, 19] (fun u i wr => ∃ j : Nat, j ≤ l.length ∧ i = .int .i64 j ∧ OwnAr w.heap.size wr u (R ++ rowW o s k (l.take j)) ∧ Hid ((R ++ rowW o s k (l.take j)).length ≤ 64 * k + j) ∧ Below w.heap.size w wr ∧ Hid (wr.heap[wo.heap.size]? = some (.cells [.int .i64 s.id, .int .i64 s.obv, .int .i64 s.rev, .int .i64 s.os, .int .i64 s.rs, .int .i64 s.ax, .int .i64 s.wt].toArray 27 (0, 0))) ∧ Hid (∀ g, u.ownBlock = some g → g ≠ wo.heap.size)) (fun _ i _ => l.length - (intOf i).toNat)
    case atStart => exact ⟨0, Nat.zero_le _, rfl, by rw [show rowW o s k (l.take 0) = [] by simp [rowW], List.append_nil]; exact Hown.out, Lib.hid (by rw [show rowW o s k (l.take 0) = [] by simp [rowW], List.append_nil]; have := HLk.out; omega), hbV, Hk2, Lib.hid (fun g e => Nat.ne_of_lt (Hne.out g e))⟩
    case round =>
      obtain ⟨j, hj, rfl, hown, HLj, hb2, Hk9, Hn9⟩ := hrel
      by_cases hlt2 : j < l.length
      case neg =>
        have ej : l.take j = l := List.take_of_length_le (by omega)
        rw [ej] at hown HLj
        have HE := Lib.hid (arcs_snoc (o := o) (l := l) Hs.out)
        rw [HR.out] at HE
        have hjk : j = l.length := by omega
        clear hc ej Hown
        go_wp2_with fail
        refine ⟨?rel, ?measure⟩
        case rel => exact ⟨k + 1, by omega, by go_num, by rw [HE.out]; exact hown, Lib.hid (by rw [HE.out]; have := HLj.out; omega), hb2⟩
        case measure => first | (simp [intOf]; done) | (simp [intOf]; omega)
      obtain ⟨t, ht⟩ := get_of_lt hlt2
      obtain ⟨b9, o9, e9, _, hcb⟩ := hc j hlt2
      cases e9
      obtain ⟨y0, y1, y2, y3, y4, y5, y6⟩ := hcb wr hb2 j t ht
      have Ht := Lib.hid ht
      obtain ⟨U1, U2, hU1, hU2, HzU2, hkU1, hkU2, hbU2, hltU2⟩ := fresh wr [.int .i64 0, .int .i64 0, .int .i64 0, .int .i64 0, .int .i64 0, .int .i64 0, .int .i64 0] [.int .i64 (t).id, .int .i64 (t).obv, .int .i64 (t).rev, .int .i64 (t).os, .int .i64 (t).rs, .int .i64 (t).ax, .int .i64 (t).wt] 27 rfl
      have hsU2 : ((((((U1.setCell ⟨wr.heap.size, 0, none⟩ (.int .i64 (t).id)).setCell ⟨wr.heap.size, 1, none⟩ (.int .i64 (t).obv)).setCell ⟨wr.heap.size, 2, none⟩ (.int .i64 (t).rev)).setCell ⟨wr.heap.size, 3, none⟩ (.int .i64 (t).os)).setCell ⟨wr.heap.size, 4, none⟩ (.int .i64 (t).rs)).setCell ⟨wr.heap.size, 5, none⟩ (.int .i64 (t).ax)).setCell ⟨wr.heap.size, 6, none⟩ (.int .i64 (t).wt) = U2 := hU2
      clear hU2
      obtain ⟨⟨z0, z1, z2, z3, z4, z5, z6⟩, f0, f1, f2, f3, f4, f5, f6⟩ := cellsS hkU1
      clear hkU1
      obtain ⟨⟨s0, s1, s2, s3, s4, s5, s6⟩, _⟩ := cellsS hkU2
      have HkU := Lib.hid (heap_below Hk9.out hbU2 (heap_lt Hk9.out))
      have hb3 := below_trans hb2 hbU2
      obtain ⟨⟨a0, a1, a2, a3, a4, a5, a6⟩, _⟩ := cellsS HkU.out
      have HB := Lib.hid (before1_ok s t o q U2 (cell_later hb3 Hq.out))
      have HE := Lib.hid (row_snoc (o := o) (s := s) (i := k) Ht.out)
      have HOw := Lib.hid (hown.below hbU2)
      obtain ⟨Q, hQ⟩ : ∃ Q, R ++ rowW o s k (l.take j) = Q := ⟨_, rfl⟩
      have HQ := Lib.hid hQ
      rw [hQ] at HOw HLj
      obtain ⟨T, hT⟩ : ∃ T, befB o s t = T := ⟨_, rfl⟩
      rw [hT] at HB HE
      have hk64 : k ≤ 64 := by omega
      have hQl : Q.length ≤ 64 * 64 + 64 := by have := HLj.out; omega
      clear hc hcb ht hown hQ hT Hown
      go_wp2_with fail
      clear y0 y1 y2 y3 y4 y5 y6 z0 z1 z2 z3 z4 z5 z6 f0 f1 f2 f3 f4 f5 f6 hsU2 hU1
      refine HB.out.mono ?_
      rintro e w5 ⟨rfl, hb5⟩
      clear s0 s1 s2 s3 s4 s5 s6 a0 a1 a2 a3 a4 a5 a6
      have hown5 := HOw.out.below hb5
      have hb6 := below_trans hb3 hb5
      have Hk6 := Lib.hid (heap_below HkU.out hb5 (heap_lt HkU.out))
      have hz6 := hb6.size
      cases T
      · have HF : Hid (R ++ rowW o s k (l.take (j + 1)) = Q) := Lib.hid (by rw [HE.out, ← HQ.out]; simp)
        go_wp2_with fail
        refine ⟨?rel, ?measure⟩
        case rel => exact ⟨j + 1, by omega, by go_num, by rw [HF.out]; exact hown5, Lib.hid (by rw [HF.out]; have := HLj.out; omega), hb6, Hk6, Hn9⟩
        case measure => first | (simp [intOf]; done) | (simp [intOf]; omega)
      · have HF : Hid (R ++ rowW o s k (l.take (j + 1)) = Q ++ [⟨(k : Int), (j : Int)⟩]) := Lib.hid (by rw [HE.out, ← HQ.out]; simp)
        go_wp2_with (at_builtin; refine wpList_append1 (enc := encP) (size := 2) (B := w.heap.size) rfl (.tmp 28) (.tmp 32) _ rfl 98 iA _ 16 Tryz.underlying94 hiA hzA hkA hbA rfl (by decide) rfl hown5 ⟨(k : Int), (j : Int)⟩ _ rfl lenP oneP _ rfl rfl (by omega) (by omega) hz6 ?_; intro v' w8 hown' hgrow hat)
        have hb8 := hb6.grown hgrow hz6 (fun i e => (hown5.lt i e).1)
        have Hk8 : Hid (w8.heap[wo.heap.size]? = some (.cells [.int .i64 s.id, .int .i64 s.obv, .int .i64 s.rev, .int .i64 s.os, .int .i64 s.rs, .int .i64 s.ax, .int .i64 s.wt].toArray 27 (0, 0))) := Lib.hid ((hgrow.block _ (heap_lt Hk6.out) (fun e => Hn9.out _ e.symm rfl)).trans Hk6.out)
        have Hn8 : Hid (∀ g, v'.ownBlock = some g → g ≠ wo.heap.size) := Lib.hid fun g e => by
          rcases hat with e2 | e2
          · exact Hn9.out g (e2.symm.trans e)
          · have h1 := Option.some.inj (e2.symm.trans e)
            have h2 := heap_lt Hk6.out
            omega
        refine ⟨?rel, ?measure⟩
        case rel => exact ⟨j + 1, by omega, by go_num, by rw [HF.out]; exact hown', Lib.hid (by rw [HF.out]; have := HLj.out; simp only [List.length_append, List.length_singleton]; omega), hb8, Hk8, Hn8⟩
        case measure => first | (simp [intOf]; done) | (simp [intOf]; omega)
set_option maxHeartbeats 4000000 in
set_option maxRecDepth 100000 in
/-- Before, of a list that is one and of a side. -/
theorem wBefore_ok (v : Value) (l : List Spec) (o : Int) (w : World) (h : Specs w v l) (hE : checkE l = 0) (ho : o = 0 ∨ o = 1) :
    Calls Tryz.prog 33 #[v, .int .i64 o] w fun e w' => ∃ u, e = .returned (.tuple #[u, .int .i64 0]) ∧ OwnAr w.heap.size w' u (arcsW o l l) ∧ Below w.heap.size w w' := by
  obtain ⟨A, c, rfl, _⟩ := id h
  obtain ⟨W, hW, Hz, hbW, hltW, hc0⟩ := boxed w #[.int .i64 o] 3
  have a0 := hc0 0 _ rfl
  have hl : l.length ≤ 64 := (checkE_zero hE).1
  have h0 := h.below hbW
  have HC := Lib.hid (SCheck_ok _ l W h0)
  rw [hE] at HC
  have Hh := Lib.hid h0
  have Ho : Hid (o = 0 ∨ o = 1) := Lib.hid ho
  clear hc0 h h0 hE ho
  go_enter Tryz.func33, Tryz.ntmps33
  go_wp2_with fail
  refine HC.out.mono ?_
  rintro e w1 ⟨rfl, hb1⟩
  have a0 := cell_later hb1 a0
  have hw1 := below_trans hbW hb1
  have HA := Lib.hid (wArcs_ok _ l o w.heap.size w1 (Hh.out.below hb1) hl a0)
  rcases Ho.out with e | e
  all_goals
    subst e
    go_wp2_with fail
    refine HA.out.mono ?_
    rintro e w2 ⟨u, rfl, hu, hb2⟩
    have Hu := Lib.hid hu
    clear hu
    go_wp2_with fail
    exact bodyPost_ret (v := .tuple #[u, .int .i64 0]) (by simp [results, Tryz.results33, go_sem]) rfl ⟨_, rfl, Hu.out.base hw1.size, below_trans hw1 hb2⟩
end Go.Proofs.YtikfffojeakjoaaGreatDoor
/- Package precedence: gather of a list without arcs and without claims. Condition: the list is one of at most 24. -/
namespace Go.Proofs.YtikfffojeakjoaaGreatDoor
open Go.RowKit Go.Maps Go.Shelf

/-- A list of which nothing is before anything. -/
def NoArcs (l : List Spec) : Prop := ∀ o, o = 0 ∨ o = 1 → arcsW o l l = []
theorem cells2' {w : World} {g : Nat} {a b : Value} {t : TypeId} (h : w.heap[g]? = some (.cells #[a, b] t (0, 0))) :
    (w.cell? ⟨g, 0, none⟩ = some a ∧ w.cell? ⟨g, 1, none⟩ = some b) ∧ w.frozen? ⟨g, 0, none⟩ = false ∧ w.frozen? ⟨g, 1, none⟩ = false :=
  ⟨⟨heap_cell h, heap_cell h⟩, heap_free h, heap_free h⟩
set_option maxHeartbeats 8000000 in
set_option maxRecDepth 100000 in
theorem gather0_ok (A : Option Addr) (c : Nat) (l : List Spec) (w : World) (h : Specs w (.slice A l.length c) l) (hE : checkE l = 0) (hl : l.length ≤ 24) (hN : NoArcs l) :
    Calls Tryz.prog 16 #[.slice A l.length c, .slice none 0 0] w fun e w' => e = .returned (.tuple #[.agg #[.slice A l.length c, .slice none 0 0], .int .i64 0]) ∧ Below w.heap.size w w' := by
  obtain ⟨W, hW, Hz, hbW, hltW, _⟩ := boxed w #[.slice none 0 0, .slice none 0 0] 57
  have hk : W.heap[w.heap.size]? = some (.cells #[.slice none 0 0, .slice none 0 0] 57 (0, 0)) := by rw [← hW]; exact heap_alloc_new _ _
  have h0 := h.below hbW
  have HC := Lib.hid (SCheck_ok _ l W h0)
  rw [hE] at HC
  have Hh := Lib.hid h0
  have HE := Lib.hid hE; have HN := Lib.hid hN
  have hl1 : decide ((24 : Int) < (l.length : Int)) = false := by simp; omega
  clear h h0 hE hN
  go_enter Tryz.func16, Tryz.ntmps16
  go_wp2_with fail
  refine HC.out.mono ?_
  rintro e w1 ⟨rfl, hb1⟩
  have hw1 := below_trans hbW hb1
  have hk1 := heap_below hk hb1 (heap_lt hk)
  obtain ⟨V1, V2, hV1, hV2, HzV2, hkV1, hkV2, hbV2, hltV2⟩ := fresh w1 [.slice none 0 0, .slice none 0 0] [.slice A l.length c, .slice none 0 0] 57 rfl
  have hsV2 : (V1.setCell ⟨w1.heap.size, 0, none⟩ (.slice A l.length c)).setCell ⟨w1.heap.size, 1, none⟩ (.slice none 0 0) = V2 := hV2
  clear hV2
  obtain ⟨⟨z0, z1⟩, f0, f1⟩ := cells2 hkV1
  have hw2 := below_trans hw1 hbV2
  have Hk := Lib.hid (heap_below hk1 hbV2 (heap_lt hk1))
  have HkV := Lib.hid hkV2
  clear hkV1 hkV2 hk hk1 hW
  go_wp2_with fail
  clear z0 z1 f0 f1 hsV2 hV1
  go_loopw [34] (fun i wr => ∃ k : Nat, k ≤ 2 ∧ i = .int .i64 k ∧ Below V2.heap.size V2 wr) (fun i _ => 2 - (intOf i).toNat)
  case atStart => exact ⟨0, by omega, rfl, Below.refl _ _⟩
  case round =>
    obtain ⟨k, hk, rfl, hb⟩ := hrel
    have hwr := below_trans hw2 hb
    by_cases hlt : k < 2
    · have hB := wBefore_ok _ l (k : Int) wr (Hh.out.below (below_trans hb1 (below_trans hbV2 hb))) HE.out (by omega)
      rw [HN.out k (by omega)] at hB
      have HB := Lib.hid hB
      have hlt2 : (k : Int) < 2 := by omega
      clear hB
      go_wp2_with fail
      refine HB.out.mono ?_
      rintro e w3 ⟨u, rfl, hu, hb3⟩
      have hb4 := below_trans hb hb3
      have hu2 : SlOf encP 2 w3 u [] := hu.slOf
      obtain ⟨Au, cu, rfl, _⟩ := hu2
      clear hu
      go_wp2_with fail
      go_loop [45] (fun i => i = .int .i64 0) (fun _ => 0)
      case atStart => rfl
      case round =>
        subst hrel
        go_wp2_with fail
        refine ⟨?rel, ?measure⟩
        case rel => exact ⟨k + 1, by omega, by go_num, hb4⟩
        case measure => simp [intOf]; omega
    · have hk2 : k = 2 := by omega
      subst hk2
      have Hkr := Lib.hid (heap_below Hk.out hb (heap_lt Hk.out))
      have HkVr := Lib.hid (heap_below HkV.out hb (heap_lt HkV.out))
      obtain ⟨⟨e0, e1⟩, _⟩ := cells2 HkVr.out
      obtain ⟨_, g0, g1⟩ := cells2' Hkr.out
      go_wp2_with fail
      go_loop [13, 64] (fun b i => b = .bool false ∧ i = .int .i64 0) (fun _ _ => 0)
      case atStart => exact ⟨rfl, rfl⟩
      case round =>
        obtain ⟨rfl, rfl⟩ := hrel
        go_wp2_with fail
        refine bodyPost_ret (results_cell_tmp_row rfl _ _ w.heap.size 57 #[.slice A l.length c, .slice none 0 0] (0, 0) _ (by simp) (heap_set2 Hkr.out) Tryz.underlying57 rfl (by kernel_rfl)) rfl ⟨rfl, hwr.grown (setCells_grown w.heap.size [.slice A l.length c, .slice none 0 0] wr 0) hwr.size (fun j e => by cases e; omega)⟩
end Go.Proofs.YtikfffojeakjoaaGreatDoor
/- Package precedence: place. Condition: the list reads as such. -/
namespace Go.Proofs.YtikfffojeakjoaaGreatDoor
open Go.RowKit Go.Maps Go.Shelf

set_option maxHeartbeats 2000000 in
theorem placeP_ok (s : Spec) (id : Int) (q : Nat) (w : World) (h : w.cell? ⟨q, 0, none⟩ = some (.int .i64 id)) : Calls Tryz.prog 35 #[valS s, .pointer (some ⟨q, 0, none⟩)] w fun e w' => e = .returned (.bool (s.id == id)) ∧ Below w.heap.size w w' := by
  obtain ⟨W, hW, Hz, hwW, hlt0, hc0⟩ := boxed w (encS s).toArray 27
  simp only [encS] at hW hc0
  have a0 := hc0 0 _ rfl
  have b0 := cell_later hwW h
  obtain ⟨T, hT⟩ : ∃ T, (s.id == id) = T := ⟨_, rfl⟩
  rw [hT]
  clear hc0 h
  go_enter Tryz.func35, Tryz.ntmps35
  go_wp2_with fail
  all_goals
    go_ret
    exact ⟨ret_bool (by first | exact hT | (simp_all)), hwW⟩
set_option maxHeartbeats 4000000 in
set_option maxRecDepth 100000 in
theorem indexSp_ok (v : Value) (l : List Spec) (id : Int) (q : Nat) (w : World) (h : Specs w v l) (hq : w.cell? ⟨q, 0, none⟩ = some (.int .i64 id)) :
    Calls Tryz.prog 34 #[v, .func (.func 35) #[] #[.pointer (some ⟨q, 0, none⟩)]] w fun e w' => e = .returned (.int .i64 (firstI (fun s : Spec => s.id == id) l)) ∧ Below w.heap.size w w' := by
  obtain ⟨A, c, rfl, _, _, hc⟩ := h.cells
  have Hq := Lib.hid hq
  clear h hq
  go_enter Tryz.func34, Tryz.ntmps34
  go_wp2
  go_loopw [8] (fun i wr => ∃ k : Nat, k ≤ l.length ∧ i = .int .i64 k ∧ Hid ((l.take k).all (fun s => !(s.id == id)) = true) ∧ Below w.heap.size w wr) (fun i _ => l.length - (intOf i).toNat)
  case atStart => exact ⟨0, Nat.zero_le _, rfl, by show _ = _; simp, Below.refl _ _⟩
  case round =>
    obtain ⟨k, hk, rfl, Hr, hb⟩ := hrel
    by_cases hlt : k < l.length
    · obtain ⟨x, hx⟩ := get_of_lt hlt
      obtain ⟨bo, o, rfl, _, hcb⟩ := hc k hlt
      obtain ⟨y0, y1, y2, y3, y4, y5, y6⟩ := hcb wr hb k x hx
      have Hx := Lib.hid hx
      have HP := Lib.hid (placeP_ok x id q wr (cell_later hb Hq.out))
      have hl1 : (k : Int) < (l.length : Int) := by omega
      have hl0 : (0 : Int) ≤ (k : Int) := by omega
      obtain ⟨T, hT⟩ : ∃ T, (x.id == id) = T := ⟨_, rfl⟩
      rw [hT] at HP
      have HT := Lib.hid hT
      clear hc hcb hx hT
      cases T
      · go_wp2_with fail
        refine HP.out.mono ?_
        rintro e w1 ⟨rfl, hb1⟩
        go_wp2_with fail
        refine ⟨?rel, ?measure⟩
        case rel => exact ⟨k + 1, by omega, by go_num, all_snoc Hx.out Hr.out (by simp [HT.out]), below_trans hb hb1⟩
        case measure => simp [intOf]; omega
      · go_wp2_with fail
        refine HP.out.mono ?_
        rintro e w1 ⟨rfl, hb1⟩
        go_wp2_with fail
        go_ret
        exact ⟨ret_i64 (firstI_hit Hx.out Hr.out HT.out).symm, below_trans hb hb1⟩
    · have Hm : Hid (firstI (fun s : Spec => s.id == id) l = -1) := firstI_miss (all_end hlt Hr.out)
      clear hc
      go_wp2_with fail
      go_ret
      exact ⟨ret_i64 Hm.out.symm, hb⟩
set_option maxHeartbeats 2000000 in
theorem placeL_ok (v : Value) (l : List Spec) (n : Int) (w : World) (h : Specs w v l) :
    Calls Tryz.prog 17 #[v, .int .i64 n] w fun e w' => e = .returned (.int .i64 (firstI (fun s : Spec => s.id == n) l)) ∧ Below w.heap.size w w' := by
  obtain ⟨A, c, rfl, _⟩ := id h
  obtain ⟨W, hW, Hz, hwW, hlt0, hc0⟩ := boxed w #[.int .i64 n] 3
  have HI := Lib.hid (indexSp_ok _ l n w.heap.size W (h.below hwW) (hc0 0 _ rfl))
  generalize firstI (fun s : Spec => s.id == n) l = F at HI ⊢
  clear hc0 h
  go_enter Tryz.func17, Tryz.ntmps17
  go_wp2_with fail
  refine HI.out.mono ?_
  rintro e w1 ⟨rfl, hb1⟩
  go_wp2_with fail
  go_ret
  exact ⟨rfl, below_trans hwW hb1⟩
end Go.Proofs.YtikfffojeakjoaaGreatDoor
/- Package poset: Valid without arcs; slices.Compact of nothing at arcs. Condition: none. -/
namespace Go.Proofs.YtikfffojeakjoaaGreatDoor
open Go.RowKit Go.Maps Go.Shelf

end Go.Proofs.YtikfffojeakjoaaGreatDoor
/- Package precedence: arcs and Build without arcs. Condition: the list is one of at most 24. -/
namespace Go.Proofs.YtikfffojeakjoaaGreatDoor
open Go.RowKit Go.Maps Go.Shelf

end Go.Proofs.YtikfffojeakjoaaGreatDoor
/- Package poset: next and home of four places without arcs. Condition: none. -/
namespace Go.Proofs.YtikfffojeakjoaaGreatDoor
open Go.RowKit Go.Maps Go.Shelf

theorem made_zero32 (n : Nat) : madeCells #[.int .u32 0] n = Array.replicate n (Value.int .u32 0) := by
  apply Array.ext_getElem?
  intro i
  simp only [madeCells, Array.getElem?_map, Array.getElem?_replicate]
  by_cases h : i < n
  · simp [h, Nat.mod_one]
  · simp [h]
end Go.Proofs.YtikfffojeakjoaaGreatDoor
/- Package poset: home of four places without arcs. Condition: none. -/
namespace Go.Proofs.YtikfffojeakjoaaGreatDoor
open Go.RowKit Go.Maps Go.Shelf

end Go.Proofs.YtikfffojeakjoaaGreatDoor
/- Package poset: Cycle of four places without arcs; explanation.Refutes. Condition: the list is one of four without arcs. -/
namespace Go.Proofs.YtikfffojeakjoaaGreatDoor
open Go.RowKit Go.Maps Go.Shelf

end Go.Proofs.YtikfffojeakjoaaGreatDoor
/- bits.Mul of 1 and 4. Condition: none. -/
namespace Go.Proofs.YtikfffojeakjoaaGreatDoor
open Go.RowKit Go.Maps Go.Shelf

set_option maxHeartbeats 4000000 in
set_option maxRecDepth 100000 in
theorem mul14_ok (w : World) : Calls Tryz.prog 71 #[.int .u64 1, .int .u64 4] w fun e w' => e = .returned (.tuple #[.int .u64 0, .int .u64 4]) ∧ w' = w := by
  have h := Any.bits_Mul64 Tryz.layMul 1 4 (by omega) (by omega) w
  have HM := Lib.hid (show Calls Tryz.prog 92 #[.int .u64 1, .int .u64 4] w fun e w' => e = .returned (.tuple #[.int .u64 0, .int .u64 4]) ∧ w' = w from h)
  clear h
  go_enter Tryz.func71, Tryz.ntmps71
  go_wp2_with fail
  refine HM.out.mono ?_
  rintro e w1 ⟨rfl, rfl⟩
  go_wp2_with fail
  exact bodyPost_ret (v := .tuple #[.int .u64 0, .int .u64 4]) (by simp [results, Tryz.results71, go_sem]) rfl ⟨rfl, rfl⟩
end Go.Proofs.YtikfffojeakjoaaGreatDoor
/- slices.Repeat of one number, up to 64 times. Condition: the number lies in its cell. -/
namespace Go.Proofs.YtikfffojeakjoaaGreatDoor
open Go.RowKit Go.Maps Go.Shelf

set_option maxHeartbeats 4000000 in
set_option maxRecDepth 100000 in
theorem mul1_ok (n : Nat) (hn : n ≤ 64) (w : World) : Calls Tryz.prog 71 #[.int .u64 1, .int .u64 n] w fun e w' => e = .returned (.tuple #[.int .u64 0, .int .u64 n]) ∧ w' = w := by
  have h := Any.bits_Mul64 Tryz.layMul 1 n (by omega) (by omega) w
  rw [Nat.one_mul, Nat.div_eq_of_lt (show n < 18446744073709551616 by omega), Nat.mod_eq_of_lt (show n < 18446744073709551616 by omega)] at h
  have HM := Lib.hid (show Calls Tryz.prog 92 #[.int .u64 1, .int .u64 n] w fun e w' => e = .returned (.tuple #[.int .u64 0, .int .u64 n]) ∧ w' = w from h)
  clear h
  go_enter Tryz.func71, Tryz.ntmps71
  go_wp2_with fail
  refine HM.out.mono ?_
  rintro e w1 ⟨rfl, rfl⟩
  go_wp2_with fail
  exact bodyPost_ret (v := .tuple #[.int .u64 0, .int .u64 n]) (by simp [results, Tryz.results71, go_sem]) rfl ⟨rfl, rfl⟩
theorem splice_ones {x : Value} {n k : Nat} {L : List Value} (hL : L.length = n) (ht : L.take k = List.replicate k x) (hk : k ≤ n) :
    (splice L k (List.replicate (min (n - k) k) x)).length = n ∧ (splice L k (List.replicate (min (n - k) k) x)).take (k + min (n - k) k) = List.replicate (k + min (n - k) k) x := by
  have hlk : (L.take k).length = k := by rw [List.length_take, hL]; omega
  refine ⟨by rw [length_splice _ _ _ (by simp [hL]; omega), hL], ?_⟩
  unfold splice
  rw [← List.append_assoc, List.take_append_of_le_length (by simp; omega), List.take_of_length_le (by simp; omega), ht, List.replicate_append_replicate]
theorem one_repl (a : Int) (m : Nat) : ∀ v ∈ List.replicate m (Value.int .i64 a), v.oneCell' = true := fun v hv => by rw [(List.mem_replicate.1 hv).2]; rfl
theorem sizeI1 : (Tryz.prog.info? 3).map (·.size) = some 1 := by
  obtain ⟨iI, hiI, hzI, hkI, hbI⟩ := info_parts infoI
  rw [hiI, Option.map_some, hkI]
set_option maxHeartbeats 8000000 in
set_option maxRecDepth 100000 in
theorem repeat_ok (q n : Nat) (h1 : 1 ≤ n) (hn : n ≤ 64) (w : World) (hq : w.cell? ⟨q, 0, none⟩ = some (.int .i64 (-1))) :
    Calls Tryz.prog 36 #[.slice (some ⟨q, 0, none⟩) 1 1, .int .i64 n] w fun e w' => e = .returned (.slice (some ⟨w.heap.size, 0, none⟩) n n) ∧ w'.heap[w.heap.size]? = some (.cells (List.replicate n (.int .i64 (-1))).toArray 3 (0, 0)) ∧ Below w.heap.size w w' := by
  have hmk := run_make_row' (P := Tryz.prog) 28 3 (.int .i64 0) 8 Tryz.underlying28 infoI rfl .i64 .i64 n (by omega) (by omega)
  have hm4 : ∀ w : World, (Instr.makeSlice 28 (.int .i64 n) (.int .i64 n)).run Tryz.prog w = .ok (.slice (some ⟨w.heap.size, 0, none⟩) n n) (w.alloc (.cells (Array.replicate n (Value.int .i64 0)) 3)) := fun w => by
    have := hmk w
    rw [made_zero] at this
    exact this
  clear hmk
  have HM := Lib.hid (mul1_ok n hn w)
  have hw1 : IntKind.u64.wrap (n : Int) = n := by simp [IntKind.wrap, go_sem]; omega
  have hw2 : IntKind.i64.wrap (n : Int) = n := by simp [IntKind.wrap, go_sem]; omega
  have hn0 : ¬ ((n : Int) < 0) := by omega
  have hn1 : ¬ ((9223372036854775807 : Int) < (n : Int)) := by omega
  obtain ⟨W, hW, Hz, hbW, hltW, hcx⟩ := boxed w (Array.replicate n (Value.int .i64 0)) 3
  have hk : W.heap[w.heap.size]? = some (.cells (List.replicate n (Value.int .i64 0)).toArray 3 (0, 0)) := by rw [← hW, List.toArray_replicate]; exact heap_alloc_new _ _
  have hqW := cell_later hbW hq
  have hcp := run_copy_row (P := Tryz.prog) W 28 28 3 3 w.heap.size 0 n n ⟨q, 0, none⟩ 1 1 (List.replicate n (Value.int .i64 0)).toArray 3 [.int .i64 (-1)] Tryz.underlying28 sizeI1 hk (by show 1 = min 1 n; omega) (fun j v hj => by
    match j, hj with
    | 0, hj => cases hj; exact hqW) (by simp; omega) (by simp [Value.oneCell'])
  obtain ⟨L0, hL0⟩ : ∃ L : List Value, (List.replicate n (Value.int .i64 0)).toArray.toList.take 0 ++ [.int .i64 (-1)] ++ (List.replicate n (Value.int .i64 0)).toArray.toList.drop (0 + [Value.int .i64 (-1)].length) = L := ⟨_, rfl⟩
  rw [hL0] at hcp
  have hL0n : L0.length = n := by rw [← hL0]; simp; omega
  have hL0t : L0.take 1 = List.replicate 1 (.int .i64 (-1)) := by rw [← hL0]; simp
  obtain ⟨W2, hW2⟩ : ∃ z, W.setRow w.heap.size L0.toArray = z := ⟨_, rfl⟩
  have hk2 : W2.heap[w.heap.size]? = some (.cells L0.toArray 3 (0, 0)) := by rw [← hW2]; exact setRow_heap W w.heap.size _ _ _ _ hk
  have hbW2 : Below w.heap.size w W2 := by rw [← hW2]; exact below_setRow hbW (Nat.le_refl _) _
  rw [hW2] at hcp
  have Hk2 := Lib.hid hk2
  clear hcx hk hq hqW hL0 hk2 hW2
  go_enter Tryz.func36, Tryz.ntmps36
  go_wp2_with fail
  refine HM.out.mono ?_
  rintro e w0 ⟨rfl, rfl⟩
  have HL0 : Hid (L0.length = n ∧ L0.take 1 = List.replicate 1 (.int .i64 (-1))) := Lib.hid ⟨hL0n, hL0t⟩
  clear hL0n hL0t
  go_wp2_with fail
  clear hcp hm4
  go_loopw [8] (fun nv wr => ∃ (k : Nat) (L : List Value), 1 ≤ k ∧ k ≤ n ∧ nv = .int .i64 k ∧ Hid (wr.heap[w0.heap.size]? = some (.cells L.toArray 3 (0, 0))) ∧ Hid (L.length = n ∧ L.take k = List.replicate k (.int .i64 (-1))) ∧ Below w0.heap.size w0 wr) (fun nv _ => n - (intOf nv).toNat)
  case atStart => exact ⟨1, L0, Nat.le_refl _, h1, rfl, Hk2, HL0, hbW2⟩
  case round =>
    obtain ⟨k, L, hk1, hkn, rfl, HR, HL, hb⟩ := hrel
    by_cases hlt : k < n
    case neg =>
      have ek : k = n := by omega
      subst ek
      have hLe : L = List.replicate k (.int .i64 (-1)) := by rw [← HL.out.2, List.take_of_length_le (by rw [HL.out.1]; exact Nat.le_refl _)]
      subst hLe
      go_wp2_with fail
      go_ret
      exact ⟨rfl, HR.out, hb⟩
    have hba : Below wr.heap.size wr wr.drew := (Below.refl _ _).drew
    have hk := heap_below HR.out hba (heap_lt HR.out)
    have hbA := below_trans hb hba
    have hcp := run_copy_row (P := Tryz.prog) wr.drew 28 28 3 3 w0.heap.size k (n - k) (n - k) ⟨w0.heap.size, 0, none⟩ k n L.toArray 3 (List.replicate (min (n - k) k) (.int .i64 (-1))) Tryz.underlying28 sizeI1 hk (by rw [List.length_replicate]; exact Nat.min_comm _ _) (fun j v hj => by
      rw [List.getElem?_replicate] at hj
      split at hj
      · cases hj
        have hjk : j < k := by omega
        have hadd : (⟨w0.heap.size, 0, none⟩ : Addr).add j = ⟨w0.heap.size, 0 + j, none⟩ := by unfold Addr.add; split <;> simp_all
        rw [hadd, Nat.zero_add, heap_cell hk, List.getElem?_toArray, ← List.getElem?_take_of_lt hjk, HL.out.2, List.getElem?_replicate, if_pos hjk]
      · cases hj) (by rw [List.length_replicate, List.size_toArray, HL.out.1]; omega) (one_repl _ _)
    have hsp := splice_ones (x := Value.int .i64 (-1)) HL.out.1 HL.out.2 hkn
    have hspl : L.toArray.toList.take k ++ List.replicate (min (n - k) k) (Value.int .i64 (-1)) ++ L.toArray.toList.drop (k + (List.replicate (min (n - k) k) (Value.int .i64 (-1))).length) = splice L k (List.replicate (min (n - k) k) (.int .i64 (-1))) := by
      rw [splice, List.append_assoc]
    rw [hspl] at hcp
    rw [List.length_replicate] at hcp
    obtain ⟨mm, hmm⟩ : ∃ m, min (n - k) k = m := ⟨_, rfl⟩
    obtain ⟨L2, hL2⟩ : ∃ L2, splice L k (List.replicate (min (n - k) k) (Value.int .i64 (-1))) = L2 := ⟨_, rfl⟩
    rw [hL2] at hcp hsp
    rw [hmm] at hcp hsp
    obtain ⟨W3, hW3⟩ : ∃ z, wr.drew.setRow w0.heap.size L2.toArray = z := ⟨_, rfl⟩
    have hk3 : W3.heap[w0.heap.size]? = some (.cells L2.toArray 3 (0, 0)) := by rw [← hW3]; exact setRow_heap wr.drew w0.heap.size _ _ _ _ hk
    have hb3 : Below w0.heap.size w0 W3 := by rw [← hW3]; exact below_setRow hbA (Nat.le_refl _) _
    rw [hW3] at hcp
    have m1 : 1 ≤ mm := by omega
    have m2 : k + mm ≤ n := by omega
    have HR3 := Lib.hid hk3; have HL3 : Hid (L2.length = n ∧ L2.take (k + mm) = List.replicate (k + mm) (.int .i64 (-1))) := Lib.hid hsp
    have hlt1 : (k : Int) < (n : Int) := by omega
    clear hk3 hsp hspl hL2 hW3 hk hbA hba hmm hlt
    go_wp2_with fail
    go_region
    go_wp2_with fail
    refine ⟨?rel, ?measure⟩
    case rel => exact ⟨k + mm, L2, by omega, by omega, by go_num, HR3, HL3, hb3⟩
    case measure => first | (simp [intOf]; done) | (simp [intOf]; omega)
end Go.Proofs.YtikfffojeakjoaaGreatDoor
/- Package precedence: steps and Why of a list without arcs and without claims; explanation.Before. Condition: the list is one of at most 24. -/
namespace Go.Proofs.YtikfffojeakjoaaGreatDoor
open Go.RowKit Go.Maps Go.Shelf

def slN : Value → Nat
  | .slice _ n _ => n
  | _ => 0
set_option maxHeartbeats 8000000 in
set_option maxRecDepth 100000 in
theorem steps0_ok (A : Option Addr) (c n t : Nat) (ht : t < n) (hn : n ≤ 24) (w : World) :
    Calls Tryz.prog 18 #[.agg #[.slice A n c, .slice none 0 0], .int .i64 t] w fun e w' => ∃ g, e = .returned (.slice (some ⟨g, 0, none⟩) n n) ∧ Below w.heap.size w w' := by
  obtain ⟨W, hW, Hz, hbW, hltW, hcx⟩ := boxed w #[.slice A n c, .slice none 0 0] 57
  have a0 := hcx 0 _ rfl; have a1 := hcx 1 _ rfl
  obtain ⟨W1, hW1, HzW1, hbW1, hltW1, hcy⟩ := boxed W #[.int .i64 (-1)] 3
  have hb1 := below_trans hbW hbW1
  have a0' := cell_later hbW1 a0; have a1' := cell_later hbW1 a1
  have HR := Lib.hid (repeat_ok W.heap.size n (by omega) (by omega) W1 (hcy 0 _ rfl))
  have h1 : (t : Int) < (n : Int) := by omega
  have h0 : (0 : Int) ≤ (t : Int) := by omega
  clear hcx hcy
  go_enter Tryz.func18, Tryz.ntmps18
  go_wp2_with fail
  refine HR.out.mono ?_
  rintro e w3 ⟨rfl, hk3, hb3⟩
  have p0 : w3.cell? ⟨W1.heap.size, t, none⟩ = some (.int .i64 (-1)) := by rw [heap_cell hk3]; simp [ht]
  have p1 := heap_free (i := t) hk3
  obtain ⟨W4, hW4⟩ : ∃ z, w3.setCell ⟨W1.heap.size, t, none⟩ (.int .i64 0) = z := ⟨_, rfl⟩
  have hb4 : Below W1.heap.size W1 W4 := by rw [← hW4]; exact hb3.grown (setCells_grown W1.heap.size [.int .i64 0] w3 t) hb3.size fun j e => by cases e; exact Nat.le_refl _
  obtain ⟨W5, hW5, HzW5, hbW5, hltW5, hcq⟩ := boxed W4 #[.int .i64 t] 3
  have hb5 := below_trans hb4 hbW5
  have a1 := cell_later hb5 a1'
  have hw5 := below_trans hb1 hb5
  have Hq := Lib.hid (hcq 0 _ rfl)
  have HQ := Lib.hid hltW5
  clear hk3 hcq a0 a0' a1' HR hW1 hW hb3 hb4
  go_wp2_with fail
  clear p0 p1 hW4 hW5 h1 h0
  go_loopw [6] (fun q wr => (q = .slice (some ⟨W4.heap.size, 0, none⟩) 1 1 ∨ ∃ p c, q = .slice p 0 c) ∧ Below W5.heap.size W5 wr) (fun q _ => slN q)
  case atStart => exact ⟨.inl rfl, Below.refl _ _⟩
  case round =>
    obtain ⟨hq, hbr⟩ := hrel
    have hwr := below_trans hw5 hbr
    rcases hq with rfl | ⟨p, c', rfl⟩
    case inr =>
      go_wp2_with fail
      go_ret
      exact ⟨_, rfl, hwr⟩
    have a1 := cell_later hbr a1
    go_wp2_with fail
    go_loop [6, 27] (fun q i => q = .slice (some ⟨W4.heap.size, 0, none⟩) 1 1 ∧ i = .int .i64 0) (fun _ _ => 0)
    case atStart => exact ⟨rfl, rfl⟩
    case round =>
      obtain ⟨rfl, rfl⟩ := hrel
      go_wp2_with fail
      all_goals
        refine ⟨?rel, ?measure⟩
        case rel => exact ⟨.inr ⟨_, _, rfl⟩, hbr⟩
        case measure => simp [slN]
set_option maxHeartbeats 8000000 in
set_option maxRecDepth 100000 in
theorem why0_ok (A : Option Addr) (c : Nat) (l : List Spec) (a b : Int) (ia ib : Nat) (w : World) (h : Specs w (.slice A l.length c) l) (hE : checkE l = 0) (hl : l.length ≤ 24) (hN : NoArcs l) (hia : firstI (fun s : Spec => s.id == a) l = ia) (hib : firstI (fun s : Spec => s.id == b) l = ib) (hib' : ib < l.length) :
    Calls Tryz.prog 7 #[.slice A l.length c, .slice none 0 0, .int .i64 a, .int .i64 b] w fun e w' => e = .returned (.tuple #[.slice none 0 0, .int .i64 7]) ∧ Below w.heap.size w w' := by
  have HG := Lib.hid (gather0_ok A c l w h hE hl hN)
  have Hh := Lib.hid h
  have HA := Lib.hid fun w9 (hh : Specs w9 (.slice A l.length c) l) => placeL_ok _ l a w9 hh
  have HB := Lib.hid fun w9 (hh : Specs w9 (.slice A l.length c) l) => placeL_ok _ l b w9 hh
  rw [hia] at HA
  rw [hib] at HB
  have HS := Lib.hid fun w9 => steps0_ok A c l.length ib hib' hl w9
  have h0 : (0 : Int) ≤ (ia : Int) := by omega
  have h1 : (0 : Int) ≤ (ib : Int) := by omega
  clear h hE hN hia hib
  go_enter Tryz.func7, Tryz.ntmps7
  go_wp2_with fail
  refine HG.out.mono ?_
  rintro e w1 ⟨rfl, hb1⟩
  obtain ⟨V1, V2, hV1, hV2, HzV2, hkV1, hkV2, hbV2, hltV2⟩ := fresh w1 [.slice none 0 0, .slice none 0 0] [.slice A l.length c, .slice none 0 0] 57 rfl
  have hsV2 : (V1.setCell ⟨w1.heap.size, 0, none⟩ (.slice A l.length c)).setCell ⟨w1.heap.size, 1, none⟩ (.slice none 0 0) = V2 := hV2
  clear hV2
  obtain ⟨⟨z0, z1⟩, f0, f1⟩ := cells2 hkV1
  obtain ⟨⟨s0, s1⟩, _⟩ := cells2 hkV2
  have hw2 := below_trans hb1 hbV2
  clear hkV1 hkV2
  go_wp2_with fail
  clear z0 z1 f0 f1 hV1
  refine (HA.out _ (Hh.out.below hw2)).mono ?_
  rintro e w3 ⟨rfl, hb3⟩
  go_wp2_with fail
  refine (HB.out _ (Hh.out.below (below_trans hw2 hb3))).mono ?_
  rintro e w4 ⟨rfl, hb4⟩
  have hb34 := below_trans hb3 hb4
  have s0 := cell_later hb34 s0; have s1 := cell_later hb34 s1
  clear hsV2
  go_wp2_with fail
  refine (HS.out _).mono ?_
  rintro e w5 ⟨g, rfl, hb5⟩
  have s1 := cell_later hb5 s1
  have hw5 := below_trans hw2 (below_trans hb34 hb5)
  clear s0
  go_wp2_with fail
  go_loopw [12, 15] (fun x o wr => x = .int .i64 ia ∧ o = .slice none 0 0 ∧ Below w5.heap.size w5 wr) (fun _ _ _ => 0)
  case atStart => exact ⟨rfl, rfl, Below.refl _ _⟩
  case round =>
    obtain ⟨rfl, rfl, hbr⟩ := hrel
    obtain ⟨B1, B2, hB1, hB2, HzB2, hkB1, hkB2, hbB2, hltB2⟩ := fresh wr [.int .i64 0, .int .i64 0, .int .i64 0] [.int .i64 (-1), .int .i64 0, .int .i64 0] 63 rfl
    have hsB2 : ((B1.setCell ⟨wr.heap.size, 0, none⟩ (.int .i64 (-1))).setCell ⟨wr.heap.size, 1, none⟩ (.int .i64 0)).setCell ⟨wr.heap.size, 2, none⟩ (.int .i64 0) = B2 := hB2
    clear hB2
    obtain ⟨⟨z0, z1, z2⟩, f0, f1, f2⟩ := cells3 hkB1
    obtain ⟨⟨q0, q1, q2⟩, _⟩ := cells3 hkB2
    have s1 := cell_later (below_trans hbr hbB2) s1
    have hw6 := below_trans hw5 (below_trans hbr hbB2)
    go_wp2_with fail
    clear z0 z1 z2 f0 f1 f2 hsB2 hB1
    go_loop [56] (fun i => i = .int .i64 0) (fun _ => 0)
    case atStart => rfl
    case round =>
      subst hrel
      go_wp2_with fail
      exact bodyPost_ret (v := .tuple #[.slice none 0 0, .int .i64 7]) (by simp [results, Tryz.results7, go_sem]) rfl ⟨rfl, hw6⟩
set_option maxHeartbeats 4000000 in
set_option maxRecDepth 100000 in
theorem before0_ok (A : Option Addr) (c : Nat) (l : List Spec) (a b : Int) (ia ib : Nat) (w : World) (h : Specs w (.slice A l.length c) l) (hE : checkE l = 0) (hl : l.length ≤ 24) (hN : NoArcs l) (hia : firstI (fun s : Spec => s.id == a) l = ia) (hib : firstI (fun s : Spec => s.id == b) l = ib) (hib' : ib < l.length) :
    Calls Tryz.prog 5 #[.slice A l.length c, .slice none 0 0, .int .i64 a, .int .i64 b] w fun e w' => e = .returned (.tuple #[.slice none 0 0, .int .i64 7]) ∧ Below w.heap.size w w' := by
  have HW := Lib.hid (why0_ok A c l a b ia ib w h hE hl hN hia hib hib')
  clear h hE hN hia hib
  go_enter Tryz.func5, Tryz.ntmps5
  go_wp2_with fail
  refine HW.out.mono ?_
  rintro e w1 ⟨rfl, hb1⟩
  go_wp2_with fail
  exact bodyPost_ret (v := .tuple #[.slice none 0 0, .int .i64 7]) (by simp [results, Tryz.results5, go_sem]) rfl ⟨rfl, hb1⟩
end Go.Proofs.YtikfffojeakjoaaGreatDoor
