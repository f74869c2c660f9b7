/- Package wear: side, before, Before's func. Condition: the arguments read as such. -/
import Derived.Test.YthnckicnnhkkaaaGreatGroD
import Derived.Test.YthnckicnnhkkaaaGreatSpecA
import Derived.Test.YthnckicnnhkkaaaGreatShelfX
import Derived.Shelf.SlSortCmp.NoneTotal
import Derived.Test.YthnckicnnhkkaaaGreatLinkE
import Derived.Shelf.Bits.Mul64
import Derived.Laws.CopyOwn
namespace Go.Proofs.YthnckicnnhkkaaaGreat
open Go.RowKit Go.Maps Go.Shelf

def numO (s : Spec) (o : Int) : Int := if o = 0 then s.obv else s.rev
def stO (s : Spec) (o : Int) : Int := if o = 0 then s.os else s.rs
/-- Whether a specimen is before another one by a side. -/
def befB (o : Int) (s t : Spec) : Bool := (numO s o == numO t o) && decide (stO s o < stO t o)
set_option maxHeartbeats 2000000 in
theorem side_ok (s : Spec) (o : Int) (w : World) : Calls Tryz.prog 265 #[valS s, .int .i64 o] w fun e w' => e = .returned (.tuple #[.int .i64 (numO s o), .int .i64 (stO s o)]) ∧ Below w.heap.size w w' := by
  obtain ⟨W, hW, Hz, hwW, hlt0, hc0⟩ := boxed w (encS s).toArray 31
  simp only [encS] at hW hc0
  have a1 := hc0 1 _ rfl; have a2 := hc0 2 _ rfl; have a3 := hc0 3 _ rfl; have a4 := hc0 4 _ rfl
  have A1 := Later.cell_all a1; have A2 := Later.cell_all a2; have A3 := Later.cell_all a3; have A4 := Later.cell_all a4
  clear hc0
  by_cases ho : o = 0
  · rw [numO, stO, if_pos ho, if_pos ho]
    have d1 : (o == 0) = true := by simpa using ho
    clear ho
    go_enter Tryz.func265, Tryz.ntmps265
    go_wp2_with fail
    refine wp_region_later (by kernel_rfl) (by kernel_rfl) ?_
    repeat (go_big_quiet_step (first | fail))
    refine wpQuiet_nil ?_
    intro _ hw'
    obtain ⟨xq, hw''⟩ := hw'
    subst hw''
    have hbz := xq.h
    generalize xq.to = wz at hbz ⊢
    go_wp2_with fail
    exact bodyPost_ret (v := .tuple #[.int .i64 s.obv, .int .i64 s.os]) (by simp [results, Tryz.results265, go_sem]) rfl ⟨rfl, below_trans hwW hbz⟩
  · rw [numO, stO, if_neg ho, if_neg ho]
    have d1 : (o == 0) = false := by simpa using ho
    clear ho
    go_enter Tryz.func265, Tryz.ntmps265
    go_wp2_with fail
    refine wp_region_later (by kernel_rfl) (by kernel_rfl) ?_
    repeat (go_big_quiet_step (first | fail))
    refine wpQuiet_nil ?_
    intro _ hw'
    obtain ⟨xq, hw''⟩ := hw'
    subst hw''
    have hbz := xq.h
    generalize xq.to = wz at hbz ⊢
    go_wp2_with fail
    exact bodyPost_ret (v := .tuple #[.int .i64 s.rev, .int .i64 s.rs]) (by simp [results, Tryz.results265, go_sem]) rfl ⟨rfl, below_trans hwW hbz⟩
set_option maxHeartbeats 4000000 in
theorem before_ok (s t : Spec) (o : Int) (w : World) : Calls Tryz.prog 252 #[valS s, valS t, .int .i64 o] w fun e w' => e = .returned (.bool (befB o s t)) ∧ Below w.heap.size w w' := by
  obtain ⟨W, hW, Hz, hwW, hlt0, hc0⟩ := boxed w (encS s).toArray 31
  simp only [encS] at hW hc0
  obtain ⟨V, hV, HzV, hwV, hltV, hcV⟩ := boxed W (encS t).toArray 31
  simp only [encS] at hV hcV
  have a0 := cell_later hwV (hc0 0 _ rfl); have a1 := cell_later hwV (hc0 1 _ rfl); have a2 := cell_later hwV (hc0 2 _ rfl); have a3 := cell_later hwV (hc0 3 _ rfl); have a4 := cell_later hwV (hc0 4 _ rfl); have a5 := cell_later hwV (hc0 5 _ rfl); have a6 := cell_later hwV (hc0 6 _ rfl)
  have b0 := hcV 0 _ rfl; have b1 := hcV 1 _ rfl; have b2 := hcV 2 _ rfl; have b3 := hcV 3 _ rfl; have b4 := hcV 4 _ rfl; have b5 := hcV 5 _ rfl; have b6 := hcV 6 _ rfl
  have hw2 := below_trans hwW hwV
  have HA := Lib.hid (side_ok s o V)
  have HB := Lib.hid (fun W' => side_ok t o W')
  have HR : Hid (befB o s t = ((numO s o == numO t o) && decide (stO s o < stO t o))) := Lib.hid rfl
  generalize befB o s t = R at HR ⊢
  generalize numO s o = n1 at HA HR
  generalize stO s o = x1 at HA HR
  generalize numO t o = n2 at HB HR
  generalize stO t o = x2 at HB HR
  clear hc0 hcV
  go_enter Tryz.func252, Tryz.ntmps252
  go_wp2_with fail
  refine HA.out.mono ?_
  rintro e w3 ⟨rfl, hb3⟩
  have b0 := cell_later hb3 b0; have b1 := cell_later hb3 b1; have b2 := cell_later hb3 b2; have b3 := cell_later hb3 b3; have b4 := cell_later hb3 b4; have b5 := cell_later hb3 b5; have b6 := cell_later hb3 b6
  clear a0 a1 a2 a3 a4 a5 a6
  go_wp2_with fail
  refine (HB.out _).mono ?_
  rintro e w4 ⟨rfl, hb4⟩
  clear b0 b1 b2 b3 b4 b5 b6
  have hw4 := below_trans hw2 (below_trans hb3 hb4)
  cases hn : (n1 == n2)
  · go_wp2_with fail
    go_ret
    exact ⟨ret_bool (by rw [HR.out, hn]; rfl), hw4⟩
  · go_wp2_with fail
    go_ret
    exact ⟨ret_bool (by rw [HR.out, hn]; rfl), hw4⟩
set_option maxHeartbeats 4000000 in
theorem before1_ok (s t : Spec) (o : Int) (q : Nat) (w : World) (h : w.cell? ⟨q, 0, none⟩ = some (.int .i64 o)) : Calls Tryz.prog 251 #[valS s, valS t, .pointer (some ⟨q, 0, none⟩)] w fun e w' => e = .returned (.bool (befB o s t)) ∧ Below w.heap.size w w' := by
  obtain ⟨W, hW, Hz, hwW, hlt0, hc0⟩ := boxed w (encS s).toArray 31
  simp only [encS] at hW hc0
  obtain ⟨V, hV, HzV, hwV, hltV, hcV⟩ := boxed W (encS t).toArray 31
  simp only [encS] at hV hcV
  have a0 := cell_later hwV (hc0 0 _ rfl); have a1 := cell_later hwV (hc0 1 _ rfl); have a2 := cell_later hwV (hc0 2 _ rfl); have a3 := cell_later hwV (hc0 3 _ rfl); have a4 := cell_later hwV (hc0 4 _ rfl); have a5 := cell_later hwV (hc0 5 _ rfl); have a6 := cell_later hwV (hc0 6 _ rfl)
  have b0 := hcV 0 _ rfl; have b1 := hcV 1 _ rfl; have b2 := hcV 2 _ rfl; have b3 := hcV 3 _ rfl; have b4 := hcV 4 _ rfl; have b5 := hcV 5 _ rfl; have b6 := hcV 6 _ rfl
  have hw2 := below_trans hwW hwV
  have h2 := cell_later hw2 h
  have HB := Lib.hid (before_ok s t o V)
  generalize befB o s t = R at HB ⊢
  clear hc0 hcV h
  go_enter Tryz.func251, Tryz.ntmps251
  go_wp2_with fail
  refine HB.out.mono ?_
  rintro e w3 ⟨rfl, hb3⟩
  go_wp2_with fail
  go_ret
  exact ⟨rfl, below_trans hw2 hb3⟩
end Go.Proofs.YthnckicnnhkkaaaGreat
/- Package wear: arcs, Before. Condition: the arguments read as such. -/
namespace Go.Proofs.YthnckicnnhkkaaaGreat
open Go.RowKit Go.Maps Go.Shelf

theorem infoAr : (Tryz.prog.info? 177).map (fun i => (i.zero, i.size, i.bytes)) = some (some (.agg #[.int .i64 0, .int .i64 0]), 2, 16) := by kernel_rfl
abbrev OwnAr (B : Nat) (w : World) (v : Value) (xs : List Pair) : Prop := Own encP 2 177 B w v xs
def rowW (o : Int) (s : Spec) (i : Nat) (l : List Spec) : List Pair := l.zipIdx.filterMap fun p => if befB o s p.1 = true then some ⟨i, p.2⟩ else none
/-- What is before what by a side, by places. -/
def arcsW (o : Int) (l : List Spec) : List Spec → List Pair := fun xs => xs.zipIdx.flatMap fun p => rowW o p.1 p.2 l
theorem zip_snoc {l : List Spec} {k : Nat} {x : Spec} (h : l[k]? = some x) : (l.take (k + 1)).zipIdx = (l.take k).zipIdx ++ [(x, k)] := by
  have hk := lt_of_get h
  rw [take_snoc' h, List.zipIdx_append, List.length_take, Nat.min_eq_left (by omega)]
  simp
theorem row_snoc {o : Int} {s : Spec} {i : Nat} {l : List Spec} {k : Nat} {x : Spec} (h : l[k]? = some x) : rowW o s i (l.take (k + 1)) = rowW o s i (l.take k) ++ (if befB o s x = true then [⟨i, k⟩] else []) := by
  rw [rowW, zip_snoc h, List.filterMap_append]
  cases hb : befB o s x <;> simp [rowW, hb]
theorem arcs_snoc {o : Int} {l m : List Spec} {k : Nat} {x : Spec} (h : m[k]? = some x) : arcsW o l (m.take (k + 1)) = arcsW o l (m.take k) ++ rowW o x k l := by
  simp only [arcsW]
  rw [zip_snoc h, List.flatMap_append]
  simp
set_option maxHeartbeats 8000000 in
set_option maxRecDepth 100000 in
theorem wArcs_ok (v : Value) (l : List Spec) (o : Int) (q : Nat) (w : World) (h : Specs w v l) (hl : l.length ≤ 64) (hq : w.cell? ⟨q, 0, none⟩ = some (.int .i64 o)) :
    Calls Tryz.prog 250 #[v, .func (.func 251) #[] #[.pointer (some ⟨q, 0, none⟩)]] w fun e w' => ∃ u, e = .returned u ∧ OwnAr w.heap.size w' u (arcsW o l l) ∧ Below w.heap.size w w' := by
  obtain ⟨A, c, rfl, _, _, hc⟩ := h.cells
  obtain ⟨iA, hiA, hzA, hkA, hbA⟩ := info_parts infoAr
  have Hq := Lib.hid hq
  clear h hq
  go_enter Tryz.func250, Tryz.ntmps250
  go_wp2_with fail
  go_loopw [5, 12] (fun u i wr => ∃ k : Nat, k ≤ l.length ∧ i = .int .i64 k ∧ OwnAr w.heap.size wr u (arcsW o l (l.take k)) ∧ Hid ((arcsW o l (l.take k)).length ≤ 64 * k) ∧ Below w.heap.size w wr) (fun _ i _ => l.length - (intOf i).toNat)
  case atStart => exact ⟨0, Nat.zero_le _, rfl, own_nil _ _ _ _ _, Lib.hid (by simp [arcsW]), Below.refl _ _⟩
  case round =>
    obtain ⟨k, hk, rfl, hown, HLk, hb⟩ := hrel
    by_cases hlt : k < l.length
    case neg =>
      rw [List.take_of_length_le (by omega)] at hown
      clear hc
      go_wp2_with fail
      go_ret
      exact ⟨_, rfl, hown, hb⟩
    obtain ⟨s, hs⟩ := get_of_lt hlt
    obtain ⟨bo, oo, rfl, _, hcb⟩ := hc k hlt
    obtain ⟨y0, y1, y2, y3, y4, y5, y6⟩ := hcb wr hb k s hs
    have Hs := Lib.hid hs
    obtain ⟨V1, V2, hV1, hV2, HzV2, hkV1, hkV2, hbV2, hltV2⟩ := fresh wr [.int .i64 0, .int .i64 0, .int .i64 0, .int .i64 0, .int .i64 0, .int .i64 0, .int .i64 0] [.int .i64 (s).id, .int .i64 (s).obv, .int .i64 (s).rev, .int .i64 (s).os, .int .i64 (s).rs, .int .i64 (s).ax, .int .i64 (s).wt] 31 rfl
    have hsV2 : ((((((V1.setCell ⟨wr.heap.size, 0, none⟩ (.int .i64 (s).id)).setCell ⟨wr.heap.size, 1, none⟩ (.int .i64 (s).obv)).setCell ⟨wr.heap.size, 2, none⟩ (.int .i64 (s).rev)).setCell ⟨wr.heap.size, 3, none⟩ (.int .i64 (s).os)).setCell ⟨wr.heap.size, 4, none⟩ (.int .i64 (s).rs)).setCell ⟨wr.heap.size, 5, none⟩ (.int .i64 (s).ax)).setCell ⟨wr.heap.size, 6, none⟩ (.int .i64 (s).wt) = V2 := hV2
    clear hV2
    obtain ⟨⟨z0, z1, z2, z3, z4, z5, z6⟩, f0, f1, f2, f3, f4, f5, f6⟩ := cellsS hkV1
    clear hkV1
    obtain ⟨⟨s0, s1, s2, s3, s4, s5, s6⟩, _⟩ := cellsS hkV2
    have hownV := hown.below hbV2
    have hbV := below_trans hb hbV2
    have Hown := Lib.hid hownV
    have Hk2 : Hid (V2.heap[wr.heap.size]? = some (.cells [.int .i64 s.id, .int .i64 s.obv, .int .i64 s.rev, .int .i64 s.os, .int .i64 s.rs, .int .i64 s.ax, .int .i64 s.wt].toArray 31 (0, 0))) := Lib.hid hkV2
    have Hne : Hid (∀ g, (u5 : Value).ownBlock = some g → g < wr.heap.size) := Lib.hid fun g e => (hown.lt g e).2
    have hV2z := hbV2.size
    have hV2l := hltV2
    clear hcb hs hown hownV hkV2
    obtain ⟨R, hR⟩ : ∃ R, arcsW o l (l.take k) = R := ⟨_, rfl⟩
    rw [hR] at Hown HLk
    have HR := Lib.hid hR
    clear hR
    go_wp2_with fail
    clear y0 y1 y2 y3 y4 y5 y6 z0 z1 z2 z3 z4 z5 z6 f0 f1 f2 f3 f4 f5 f6 s0 s1 s2 s3 s4 s5 s6 hsV2 hV1
    obtain ⟨wo, hwo⟩ : ∃ z, z = wr := ⟨_, rfl⟩
    subst hwo
    go_loopw [5, 19] (fun u i wr => ∃ j : Nat, j ≤ l.length ∧ i = .int .i64 j ∧ OwnAr w.heap.size wr u (R ++ rowW o s k (l.take j)) ∧ Hid ((R ++ rowW o s k (l.take j)).length ≤ 64 * k + j) ∧ Below w.heap.size w wr ∧ Hid (wr.heap[wo.heap.size]? = some (.cells [.int .i64 s.id, .int .i64 s.obv, .int .i64 s.rev, .int .i64 s.os, .int .i64 s.rs, .int .i64 s.ax, .int .i64 s.wt].toArray 31 (0, 0))) ∧ Hid (∀ g, u.ownBlock = some g → g ≠ wo.heap.size)) (fun _ i _ => l.length - (intOf i).toNat)
    case atStart => exact ⟨0, Nat.zero_le _, rfl, by rw [show rowW o s k (l.take 0) = [] by simp [rowW], List.append_nil]; exact Hown.out, Lib.hid (by rw [show rowW o s k (l.take 0) = [] by simp [rowW], List.append_nil]; have := HLk.out; omega), hbV, Hk2, Lib.hid (fun g e => Nat.ne_of_lt (Hne.out g e))⟩
    case round =>
      obtain ⟨j, hj, rfl, hown, HLj, hb2, Hk9, Hn9⟩ := hrel
      by_cases hlt2 : j < l.length
      case neg =>
        have ej : l.take j = l := List.take_of_length_le (by omega)
        rw [ej] at hown HLj
        have HE := Lib.hid (arcs_snoc (o := o) (l := l) Hs.out)
        rw [HR.out] at HE
        have hjk : j = l.length := by omega
        clear hc ej Hown
        go_wp2_with fail
        refine ⟨?rel, ?measure⟩
        case rel => exact ⟨k + 1, by omega, by go_num, by rw [HE.out]; exact hown, Lib.hid (by rw [HE.out]; have := HLj.out; omega), hb2⟩
        case measure => first | (simp [intOf]; done) | (simp [intOf]; omega)
      obtain ⟨t, ht⟩ := get_of_lt hlt2
      obtain ⟨b9, o9, e9, _, hcb⟩ := hc j hlt2
      cases e9
      obtain ⟨y0, y1, y2, y3, y4, y5, y6⟩ := hcb wr hb2 j t ht
      have Ht := Lib.hid ht
      obtain ⟨U1, U2, hU1, hU2, HzU2, hkU1, hkU2, hbU2, hltU2⟩ := fresh wr [.int .i64 0, .int .i64 0, .int .i64 0, .int .i64 0, .int .i64 0, .int .i64 0, .int .i64 0] [.int .i64 (t).id, .int .i64 (t).obv, .int .i64 (t).rev, .int .i64 (t).os, .int .i64 (t).rs, .int .i64 (t).ax, .int .i64 (t).wt] 31 rfl
      have hsU2 : ((((((U1.setCell ⟨wr.heap.size, 0, none⟩ (.int .i64 (t).id)).setCell ⟨wr.heap.size, 1, none⟩ (.int .i64 (t).obv)).setCell ⟨wr.heap.size, 2, none⟩ (.int .i64 (t).rev)).setCell ⟨wr.heap.size, 3, none⟩ (.int .i64 (t).os)).setCell ⟨wr.heap.size, 4, none⟩ (.int .i64 (t).rs)).setCell ⟨wr.heap.size, 5, none⟩ (.int .i64 (t).ax)).setCell ⟨wr.heap.size, 6, none⟩ (.int .i64 (t).wt) = U2 := hU2
      clear hU2
      obtain ⟨⟨z0, z1, z2, z3, z4, z5, z6⟩, f0, f1, f2, f3, f4, f5, f6⟩ := cellsS hkU1
      clear hkU1
      obtain ⟨⟨s0, s1, s2, s3, s4, s5, s6⟩, _⟩ := cellsS hkU2
      have HkU := Lib.hid (heap_below Hk9.out hbU2 (heap_lt Hk9.out))
      have hb3 := below_trans hb2 hbU2
      obtain ⟨⟨a0, a1, a2, a3, a4, a5, a6⟩, _⟩ := cellsS HkU.out
      have HB := Lib.hid (before1_ok s t o q U2 (cell_later hb3 Hq.out))
      have HE := Lib.hid (row_snoc (o := o) (s := s) (i := k) Ht.out)
      have HOw := Lib.hid (hown.below hbU2)
      obtain ⟨Q, hQ⟩ : ∃ Q, R ++ rowW o s k (l.take j) = Q := ⟨_, rfl⟩
      have HQ := Lib.hid hQ
      rw [hQ] at HOw HLj
      obtain ⟨T, hT⟩ : ∃ T, befB o s t = T := ⟨_, rfl⟩
      rw [hT] at HB HE
      have hk64 : k ≤ 64 := by omega
      have hQl : Q.length ≤ 64 * 64 + 64 := by have := HLj.out; omega
      clear hc hcb ht hown hQ hT Hown
      go_wp2_with fail
      clear y0 y1 y2 y3 y4 y5 y6 z0 z1 z2 z3 z4 z5 z6 f0 f1 f2 f3 f4 f5 f6 hsU2 hU1
      refine HB.out.mono ?_
      rintro e w5 ⟨rfl, hb5⟩
      clear s0 s1 s2 s3 s4 s5 s6 a0 a1 a2 a3 a4 a5 a6
      have hown5 := HOw.out.below hb5
      have hb6 := below_trans hb3 hb5
      have Hk6 := Lib.hid (heap_below HkU.out hb5 (heap_lt HkU.out))
      have hz6 := hb6.size
      cases T
      · have HF : Hid (R ++ rowW o s k (l.take (j + 1)) = Q) := Lib.hid (by rw [HE.out, ← HQ.out]; simp)
        go_wp2_with fail
        refine ⟨?rel, ?measure⟩
        case rel => exact ⟨j + 1, by omega, by go_num, by rw [HF.out]; exact hown5, Lib.hid (by rw [HF.out]; have := HLj.out; omega), hb6, Hk6, Hn9⟩
        case measure => first | (simp [intOf]; done) | (simp [intOf]; omega)
      · have HF : Hid (R ++ rowW o s k (l.take (j + 1)) = Q ++ [⟨(k : Int), (j : Int)⟩]) := Lib.hid (by rw [HE.out, ← HQ.out]; simp)
        go_wp2_with (at_builtin; refine wpList_append1 (enc := encP) (size := 2) (B := w.heap.size) rfl (.tmp 28) (.tmp 32) _ rfl 177 iA _ 16 Tryz.underlying129 hiA hzA hkA hbA rfl (by decide) rfl hown5 ⟨(k : Int), (j : Int)⟩ _ rfl lenP oneP _ rfl rfl (by omega) (by omega) hz6 ?_; intro v' w8 hown' hgrow hat)
        have hb8 := hb6.grown hgrow hz6 (fun i e => (hown5.lt i e).1)
        have Hk8 : Hid (w8.heap[wo.heap.size]? = some (.cells [.int .i64 s.id, .int .i64 s.obv, .int .i64 s.rev, .int .i64 s.os, .int .i64 s.rs, .int .i64 s.ax, .int .i64 s.wt].toArray 31 (0, 0))) := Lib.hid ((hgrow.block _ (heap_lt Hk6.out) (fun e => Hn9.out _ e.symm rfl)).trans Hk6.out)
        have Hn8 : Hid (∀ g, v'.ownBlock = some g → g ≠ wo.heap.size) := Lib.hid fun g e => by
          rcases hat with e2 | e2
          · exact Hn9.out g (e2.symm.trans e)
          · have h1 := Option.some.inj (e2.symm.trans e)
            have h2 := heap_lt Hk6.out
            omega
        refine ⟨?rel, ?measure⟩
        case rel => exact ⟨j + 1, by omega, by go_num, by rw [HF.out]; exact hown', Lib.hid (by rw [HF.out]; have := HLj.out; simp only [List.length_append, List.length_singleton]; omega), hb8, Hk8, Hn8⟩
        case measure => first | (simp [intOf]; done) | (simp [intOf]; omega)
set_option maxHeartbeats 4000000 in
set_option maxRecDepth 100000 in
/-- Before, of a list that is one and of a side. -/
theorem wBefore_ok (v : Value) (l : List Spec) (o : Int) (w : World) (h : Specs w v l) (hE : checkE l = 0) (ho : o = 0 ∨ o = 1) :
    Calls Tryz.prog 220 #[v, .int .i64 o] w fun e w' => ∃ u, e = .returned (.tuple #[u, .int .i64 0]) ∧ OwnAr w.heap.size w' u (arcsW o l l) ∧ Below w.heap.size w w' := by
  obtain ⟨A, c, rfl, _⟩ := id h
  obtain ⟨W, hW, Hz, hbW, hltW, hc0⟩ := boxed w #[.int .i64 o] 3
  have a0 := hc0 0 _ rfl
  have hl : l.length ≤ 64 := (checkE_zero hE).1
  have h0 := h.below hbW
  have HC := Lib.hid (SCheck_ok _ l W h0)
  rw [hE] at HC
  have Hh := Lib.hid h0
  have Ho : Hid (o = 0 ∨ o = 1) := Lib.hid ho
  clear hc0 h h0 hE ho
  go_enter Tryz.func220, Tryz.ntmps220
  go_wp2_with fail
  refine HC.out.mono ?_
  rintro e w1 ⟨rfl, hb1⟩
  have a0 := cell_later hb1 a0
  have hw1 := below_trans hbW hb1
  have HA := Lib.hid (wArcs_ok _ l o w.heap.size w1 (Hh.out.below hb1) hl a0)
  rcases Ho.out with e | e
  all_goals
    subst e
    go_wp2_with fail
    refine HA.out.mono ?_
    rintro e w2 ⟨u, rfl, hu, hb2⟩
    have Hu := Lib.hid hu
    clear hu
    go_wp2_with fail
    exact bodyPost_ret (v := .tuple #[u, .int .i64 0]) (by simp [results, Tryz.results220, go_sem]) rfl ⟨_, rfl, Hu.out.base hw1.size, below_trans hw1 hb2⟩
end Go.Proofs.YthnckicnnhkkaaaGreat
/- Package precedence: gather of a list without arcs and without claims. Condition: the list is one of at most 24. -/
namespace Go.Proofs.YthnckicnnhkkaaaGreat
open Go.RowKit Go.Maps Go.Shelf

theorem cells2' {w : World} {g : Nat} {a b : Value} {t : TypeId} (h : w.heap[g]? = some (.cells #[a, b] t (0, 0))) :
    (w.cell? ⟨g, 0, none⟩ = some a ∧ w.cell? ⟨g, 1, none⟩ = some b) ∧ w.frozen? ⟨g, 0, none⟩ = false ∧ w.frozen? ⟨g, 1, none⟩ = false :=
  ⟨⟨heap_cell h, heap_cell h⟩, heap_free h, heap_free h⟩
end Go.Proofs.YthnckicnnhkkaaaGreat
/- Package precedence: place. Condition: the list reads as such. -/
namespace Go.Proofs.YthnckicnnhkkaaaGreat
open Go.RowKit Go.Maps Go.Shelf

set_option maxHeartbeats 2000000 in
theorem placeP_ok (s : Spec) (id : Int) (q : Nat) (w : World) (h : w.cell? ⟨q, 0, none⟩ = some (.int .i64 id)) : Calls Tryz.prog 254 #[valS s, .pointer (some ⟨q, 0, none⟩)] w fun e w' => e = .returned (.bool (s.id == id)) ∧ Below w.heap.size w w' := by
  obtain ⟨W, hW, Hz, hwW, hlt0, hc0⟩ := boxed w (encS s).toArray 31
  simp only [encS] at hW hc0
  have a0 := hc0 0 _ rfl
  have b0 := cell_later hwW h
  obtain ⟨T, hT⟩ : ∃ T, (s.id == id) = T := ⟨_, rfl⟩
  rw [hT]
  clear hc0 h
  go_enter Tryz.func254, Tryz.ntmps254
  go_wp2_with fail
  all_goals
    go_ret
    exact ⟨ret_bool (by first | exact hT | (simp_all)), hwW⟩
set_option maxHeartbeats 4000000 in
set_option maxRecDepth 100000 in
theorem indexSp_ok (v : Value) (l : List Spec) (id : Int) (q : Nat) (w : World) (h : Specs w v l) (hq : w.cell? ⟨q, 0, none⟩ = some (.int .i64 id)) :
    Calls Tryz.prog 253 #[v, .func (.func 254) #[] #[.pointer (some ⟨q, 0, none⟩)]] w fun e w' => e = .returned (.int .i64 (firstI (fun s : Spec => s.id == id) l)) ∧ Below w.heap.size w w' := by
  obtain ⟨A, c, rfl, _, _, hc⟩ := h.cells
  have Hq := Lib.hid hq
  clear h hq
  go_enter Tryz.func253, Tryz.ntmps253
  go_wp2
  go_loopw [8] (fun i wr => ∃ k : Nat, k ≤ l.length ∧ i = .int .i64 k ∧ Hid ((l.take k).all (fun s => !(s.id == id)) = true) ∧ Below w.heap.size w wr) (fun i _ => l.length - (intOf i).toNat)
  case atStart => exact ⟨0, Nat.zero_le _, rfl, by show _ = _; simp, Below.refl _ _⟩
  case round =>
    obtain ⟨k, hk, rfl, Hr, hb⟩ := hrel
    by_cases hlt : k < l.length
    · obtain ⟨x, hx⟩ := get_of_lt hlt
      obtain ⟨bo, o, rfl, _, hcb⟩ := hc k hlt
      obtain ⟨y0, y1, y2, y3, y4, y5, y6⟩ := hcb wr hb k x hx
      have Hx := Lib.hid hx
      have HP := Lib.hid (placeP_ok x id q wr (cell_later hb Hq.out))
      have hl1 : (k : Int) < (l.length : Int) := by omega
      have hl0 : (0 : Int) ≤ (k : Int) := by omega
      obtain ⟨T, hT⟩ : ∃ T, (x.id == id) = T := ⟨_, rfl⟩
      rw [hT] at HP
      have HT := Lib.hid hT
      clear hc hcb hx hT
      cases T
      · go_wp2_with fail
        refine HP.out.mono ?_
        rintro e w1 ⟨rfl, hb1⟩
        go_wp2_with fail
        refine ⟨?rel, ?measure⟩
        case rel => exact ⟨k + 1, by omega, by go_num, all_snoc Hx.out Hr.out (by simp [HT.out]), below_trans hb hb1⟩
        case measure => simp [intOf]; omega
      · go_wp2_with fail
        refine HP.out.mono ?_
        rintro e w1 ⟨rfl, hb1⟩
        go_wp2_with fail
        go_ret
        exact ⟨ret_i64 (firstI_hit Hx.out Hr.out HT.out).symm, below_trans hb hb1⟩
    · have Hm : Hid (firstI (fun s : Spec => s.id == id) l = -1) := firstI_miss (all_end hlt Hr.out)
      clear hc
      go_wp2_with fail
      go_ret
      exact ⟨ret_i64 Hm.out.symm, hb⟩
set_option maxHeartbeats 2000000 in
theorem placeL_ok (v : Value) (l : List Spec) (n : Int) (w : World) (h : Specs w v l) :
    Calls Tryz.prog 221 #[v, .int .i64 n] w fun e w' => e = .returned (.int .i64 (firstI (fun s : Spec => s.id == n) l)) ∧ Below w.heap.size w w' := by
  obtain ⟨A, c, rfl, _⟩ := id h
  obtain ⟨W, hW, Hz, hwW, hlt0, hc0⟩ := boxed w #[.int .i64 n] 3
  have HI := Lib.hid (indexSp_ok _ l n w.heap.size W (h.below hwW) (hc0 0 _ rfl))
  generalize firstI (fun s : Spec => s.id == n) l = F at HI ⊢
  clear hc0 h
  go_enter Tryz.func221, Tryz.ntmps221
  go_wp2_with fail
  refine HI.out.mono ?_
  rintro e w1 ⟨rfl, hb1⟩
  go_wp2_with fail
  go_ret
  exact ⟨rfl, below_trans hwW hb1⟩
end Go.Proofs.YthnckicnnhkkaaaGreat
/- Package poset: Valid without arcs; slices.Compact of nothing at arcs. Condition: none. -/
namespace Go.Proofs.YthnckicnnhkkaaaGreat
open Go.RowKit Go.Maps Go.Shelf

end Go.Proofs.YthnckicnnhkkaaaGreat
/- Package precedence: arcs and Build without arcs. Condition: the list is one of at most 24. -/
namespace Go.Proofs.YthnckicnnhkkaaaGreat
open Go.RowKit Go.Maps Go.Shelf

end Go.Proofs.YthnckicnnhkkaaaGreat
/- Package poset: next and home of four places without arcs. Condition: none. -/
namespace Go.Proofs.YthnckicnnhkkaaaGreat
open Go.RowKit Go.Maps Go.Shelf

theorem infoSe : (Tryz.prog.info? 258).map (fun i => (i.zero, i.size, i.bytes)) = some (some (.int .u32 0), 1, 4) := by kernel_rfl
theorem made_zero32 (n : Nat) : madeCells #[.int .u32 0] n = Array.replicate n (Value.int .u32 0) := by
  apply Array.ext_getElem?
  intro i
  simp only [madeCells, Array.getElem?_map, Array.getElem?_replicate]
  by_cases h : i < n
  · simp [h, Nat.mod_one]
  · simp [h]
end Go.Proofs.YthnckicnnhkkaaaGreat
/- Package poset: home of four places without arcs. Condition: none. -/
namespace Go.Proofs.YthnckicnnhkkaaaGreat
open Go.RowKit Go.Maps Go.Shelf

end Go.Proofs.YthnckicnnhkkaaaGreat
/- Package poset: Cycle of four places without arcs; explanation.Refutes. Condition: the list is one of four without arcs. -/
namespace Go.Proofs.YthnckicnnhkkaaaGreat
open Go.RowKit Go.Maps Go.Shelf

end Go.Proofs.YthnckicnnhkkaaaGreat
/- bits.Mul of 1 and 4. Condition: none. -/
namespace Go.Proofs.YthnckicnnhkkaaaGreat
open Go.RowKit Go.Maps Go.Shelf

end Go.Proofs.YthnckicnnhkkaaaGreat
/- slices.Repeat of one number, up to 64 times. Condition: the number lies in its cell. -/
namespace Go.Proofs.YthnckicnnhkkaaaGreat
open Go.RowKit Go.Maps Go.Shelf

end Go.Proofs.YthnckicnnhkkaaaGreat
/- Package precedence: steps and Why of a list without arcs and without claims; explanation.Before. Condition: the list is one of at most 24. -/
namespace Go.Proofs.YthnckicnnhkkaaaGreat
open Go.RowKit Go.Maps Go.Shelf

end Go.Proofs.YthnckicnnhkkaaaGreat
