/- Package query: Select at one term; the top's supportAwake. No condition. -/
import Derived.Test.YtikfffojeakjoaaGreatDoorQryA
import Derived.Test.YtikfffojeakjoaaGreatDoorAwkX
import Derived.Test.YtikfffojeakjoaaGreatDoorExpM
namespace Go.Proofs.YtikfffojeakjoaaGreatDoor
open Go.RowKit Go.Maps

set_option maxHeartbeats 2000000 in
set_option maxRecDepth 100000 in
theorem qvalue_ok (s : Spec) (w : World) : Calls Tryz.prog 56 #[.agg #[.int .i64 s.id, .int .i64 s.obv, .int .i64 s.rev, .int .i64 s.os, .int .i64 s.rs, .int .i64 s.ax, .int .i64 s.wt], .int .i64 2] w fun e w' => e = .returned (.int .i64 s.obv) ∧ Below w.heap.size w w' := by
  obtain ⟨W, hW, Hz, hwW, hlt0, hc0⟩ := boxed w (encS s).toArray 27
  simp only [encS] at hW hc0
  have a0 := hc0 0 _ rfl; have a1 := hc0 1 _ rfl; have a2 := hc0 2 _ rfl; have a3 := hc0 3 _ rfl; have a4 := hc0 4 _ rfl; have a5 := hc0 5 _ rfl; have a6 := hc0 6 _ rfl
  have hix : ∀ w', (Instr.index 150 (.agg #[.int .i64 0, .int .i64 s.id, .int .i64 s.obv, .int .i64 s.rev, .int .i64 s.os, .int .i64 s.rs, .int .i64 s.ax, .int .i64 s.wt]) (.int .i64 2)).run Tryz.prog w' = .ok (.int .i64 s.obv) w' := fun w' => by kernel_rfl
  clear hc0
  go_enter Tryz.func56, Tryz.ntmps56
  go_wp2_with fail
  go_ret
  exact ⟨rfl, hwW⟩
def holdB (s : Spec) : Bool := s.obv == 3
set_option maxHeartbeats 4000000 in
set_option maxRecDepth 100000 in
theorem qholds_ok (s : Spec) (ho : s.obv = 1 ∨ s.obv = 3) (w : World) : Calls Tryz.prog 30 #[.agg #[.int .i64 s.id, .int .i64 s.obv, .int .i64 s.rev, .int .i64 s.os, .int .i64 s.rs, .int .i64 s.ax, .int .i64 s.wt], termV] w fun e w' => e = .returned (.bool (holdB s)) ∧ Below w.heap.size w w' := by
  obtain ⟨si, so, sr, sos, srs, sax, swt⟩ := s
  simp only at ho
  obtain ⟨W, hW, Hz, hwW, hlt0, _⟩ := boxed w #[.int .i64 si, .int .i64 so, .int .i64 sr, .int .i64 sos, .int .i64 srs, .int .i64 sax, .int .i64 swt] 27
  have hk0 : W.heap[w.heap.size]? = some (.cells [.int .i64 si, .int .i64 so, .int .i64 sr, .int .i64 sos, .int .i64 srs, .int .i64 sax, .int .i64 swt].toArray 27 (0, 0)) := by rw [← hW]; exact heap_alloc_new _ _
  obtain ⟨X, hX, HzX, hbX, hltX, _⟩ := boxed W #[.int .i64 1, .int .i64 2, .int .i64 1, .int .i64 3, .slice none 0 0] 46
  have hk : X.heap[W.heap.size]? = some (.cells [.int .i64 1, .int .i64 2, .int .i64 1, .int .i64 3, .slice none 0 0].toArray 46 (0, 0)) := by rw [← hX]; exact heap_alloc_new _ _
  obtain ⟨⟨a0, a1, a2, a3, a4, a5, a6⟩, _⟩ := cellsS (heap_below hk0 hbX (heap_lt hk0))
  obtain ⟨⟨c0, c1, c2, c3, c4⟩, _⟩ := cells5 hk
  have A0 := Later.cell_all a0; have A1 := Later.cell_all a1; have A2 := Later.cell_all a2; have A3 := Later.cell_all a3; have A4 := Later.cell_all a4; have A5 := Later.cell_all a5; have A6 := Later.cell_all a6
  have C1 := Later.cell_all c1; have C3 := Later.cell_all c3
  have HV := Lib.hid fun y : Later X => qvalue_ok ⟨si, so, sr, sos, srs, sax, swt⟩ y.to
  have hw := below_trans hwW hbX
  have Hk := Lib.hid hk
  clear hk hk0
  unfold termV
  rcases ho with rfl | rfl
  all_goals
    go_enter Tryz.func30, Tryz.ntmps30
    go_wp2_with fail
    refine wp_region_later (by kernel_rfl) (by kernel_rfl) ?_
    repeat (go_big_quiet_step (first | (go_at_call 56; with_reducible exact calls_later (HV.out _))))
    refine wpQuiet_nil ?_
    intro _ hw'
    obtain ⟨xq, hw''⟩ := hw'
    subst hw''
    have hbq := xq.h
    generalize xq.to = wq at hbq ⊢
    obtain ⟨⟨c0, c1, c2, c3, c4⟩, _⟩ := cells5 (heap_below Hk.out hbq (heap_lt Hk.out))
    go_wp2_with fail
    go_ret
    exact ⟨rfl, below_trans hw hbq⟩
def selL (l : List Spec) : List Int := (l.filter holdB).map Spec.id
theorem selL_snoc {l : List Spec} {k : Nat} {s : Spec} (h : l[k]? = some s) : selL (l.take (k + 1)) = selL (l.take k) ++ (if holdB s = true then [s.id] else []) := by
  unfold selL
  rw [take_snoc' h, List.filter_append, List.map_append]
  congr 1
  by_cases e : holdB s = true <;> simp [e]
set_option maxHeartbeats 8000000 in
set_option maxRecDepth 100000 in
theorem qselect_ok (v : Value) (l : List Spec) (w : World) (h : Specs w v l) (hE : checkE l = 0) (ho : ∀ s ∈ l, s.obv = 1 ∨ s.obv = 3) :
    Calls Tryz.prog 12 #[v, termV] w fun e w' => ∃ u, e = .returned (.tuple #[u, .int .i64 0]) ∧ Ints w' u (sortI (selL l)) ∧ Below w.heap.size w w' := by
  obtain ⟨A, c, rfl, _⟩ := id h
  have hll : l.length ≤ 64 := (checkE_zero hE).1
  obtain ⟨W, hW, Hz, hbW, hltW, _⟩ := boxed w #[.int .i64 1, .int .i64 2, .int .i64 1, .int .i64 3, .slice none 0 0] 46
  have hk : W.heap[w.heap.size]? = some (.cells [.int .i64 1, .int .i64 2, .int .i64 1, .int .i64 3, .slice none 0 0].toArray 46 (0, 0)) := by rw [← hW]; exact heap_alloc_new _ _
  have hC := SCheck_ok _ l W (h.below hbW)
  rw [hE] at hC
  have HC := Lib.hid hC; have Hk := Lib.hid hk; have Hh := Lib.hid h; have Ho := Lib.hid ho
  obtain ⟨iI, hiI, hzI, hkI, hbI⟩ := info_parts infoI
  clear hC hk h ho hE
  unfold termV
  go_enter Tryz.func12, Tryz.ntmps12
  go_wp2_with fail
  refine HC.out.mono ?_
  rintro e w1 ⟨rfl, hb1⟩
  have hk1 := heap_below Hk.out hb1 (heap_lt Hk.out)
  obtain ⟨⟨c0, c1, c2, c3, c4⟩, _⟩ := cells5 hk1
  have Hk1 := Lib.hid hk1
  have hw1 := below_trans hbW hb1
  clear hk1 HC
  go_wp2_with fail
  refine (qvalid_ok w1).mono ?_
  rintro e w2 ⟨rfl, hb2⟩
  have Hk2 := Lib.hid (heap_below Hk1.out hb2 (heap_lt Hk1.out))
  have hw2 := below_trans hw1 hb2
  clear c0 c1 c2 c3 c4
  go_wp2_with fail
  go_loopw [7, 20] (fun ov iv wr => ∃ (k : Nat) (R : List Int), k ≤ l.length ∧ iv = .int .i64 k ∧ OwnI w2.heap.size wr ov R ∧ Below w2.heap.size w2 wr ∧ Hid (R = selL (l.take k))) (fun _ iv _ => l.length - (intOf iv).toNat)
  case atStart => exact ⟨0, [], Nat.zero_le _, rfl, own_nil _ _ _ _ _, Below.refl _ _, Lib.hid rfl⟩
  case round =>
    obtain ⟨k, R, hk, rfl, hown, hbr, HR⟩ := hrel
    have hRl : R.length ≤ 64 := by
      rw [HR.out, selL, List.length_map]
      exact Nat.le_trans (List.length_filter_le _ _) (by rw [List.length_take]; omega)
    obtain ⟨Ao, co, rfl, _⟩ := id hown.slOf
    have hwr := below_trans hw2 hbr
    have hzr := hbr.size
    have HO := Lib.hid hown
    by_cases hlt : k < l.length
    case neg =>
      have HRa : Hid (R = selL l) := Lib.hid (by have := HR.out; rwa [List.take_of_length_le (by omega)] at this)
      have HS := Lib.hid (sortI_ok _ _ _ wr hown (by omega))
      obtain ⟨R2, hR2⟩ : ∃ z, sortI R = z := ⟨_, rfl⟩
      rw [hR2] at HS
      have HR2 := Lib.hid hR2
      clear hown hR2
      go_wp2_with fail
      refine HS.out.mono ?_
      rintro e w3 ⟨rfl, ho3, hg3⟩
      have hb3 := hbr.grown hg3 hzr (fun j e => (HO.out.lt j e).1)
      have HI : Hid (Ints w3 (.slice Ao R.length co) (sortI (selL l))) := Lib.hid (by rw [← HRa.out, HR2.out]; exact ho3.slOf)
      clear ho3
      go_wp2_with fail
      exact bodyPost_ret (v := .tuple #[.slice Ao R.length co, .int .i64 0]) (by simp [results, Tryz.results12, go_sem]) rfl ⟨_, rfl, HI.out, below_trans hw2 hb3⟩
    obtain ⟨x, hx⟩ := get_of_lt hlt
    obtain ⟨_, _, ex, _, _, hlc⟩ := Hh.out.cells
    cases ex
    obtain ⟨bl, ol, rfl, _, hlb⟩ := hlc k hlt
    obtain ⟨y0, y1, y2, y3, y4, y5, y6⟩ := hlb wr hwr k x hx
    obtain ⟨Z1, Z2, hZ1, hZ2, HzZ2, hkZ1, hkZ2, hbZ2, hltZ2⟩ := fresh wr [.int .i64 0, .int .i64 0, .int .i64 0, .int .i64 0, .int .i64 0, .int .i64 0, .int .i64 0] [.int .i64 (x).id, .int .i64 (x).obv, .int .i64 (x).rev, .int .i64 (x).os, .int .i64 (x).rs, .int .i64 (x).ax, .int .i64 (x).wt] 27 rfl
    have hsZ2 : ((((((Z1.setCell ⟨wr.heap.size, 0, none⟩ (.int .i64 (x).id)).setCell ⟨wr.heap.size, 1, none⟩ (.int .i64 (x).obv)).setCell ⟨wr.heap.size, 2, none⟩ (.int .i64 (x).rev)).setCell ⟨wr.heap.size, 3, none⟩ (.int .i64 (x).os)).setCell ⟨wr.heap.size, 4, none⟩ (.int .i64 (x).rs)).setCell ⟨wr.heap.size, 5, none⟩ (.int .i64 (x).ax)).setCell ⟨wr.heap.size, 6, none⟩ (.int .i64 (x).wt) = Z2 := hZ2
    clear hZ2
    obtain ⟨⟨z0, z1, z2, z3, z4, z5, z6⟩, f0, f1, f2, f3, f4, f5, f6⟩ := cellsS hkZ1
    clear hkZ1
    obtain ⟨⟨s0, s1, s2, s3, s4, s5, s6⟩, _⟩ := cellsS hkZ2
    have hkZ := hkZ2
    have hbZ := below_trans hbr hbZ2
    obtain ⟨⟨c0, c1, c2, c3, c4⟩, _⟩ := cells5 (heap_below Hk2.out hbZ (heap_lt Hk2.out))
    have HH := Lib.hid (qholds_ok x (Ho.out x (List.mem_of_getElem? hx)) Z2)
    have Hsn := Lib.hid (selL_snoc hx)
    have HkZ := Lib.hid hkZ
    have hk1' : (k : Int) < (l.length : Int) := by omega
    have hk0' : (0 : Int) ≤ (k : Int) := by omega
    have HO2 := Lib.hid (HO.out.below hbZ2)
    unfold termV at HH
    obtain ⟨T, hT⟩ : ∃ T, holdB x = T := ⟨_, rfl⟩
    rw [hT] at HH Hsn
    clear hkZ2 hkZ hlc hlb hx hown hT
    cases T
    · have HN : Hid (selL (l.take (k + 1)) = R) := Lib.hid (by rw [Hsn.out, ← HR.out]; simp)
      go_wp2_with fail
      refine HH.out.mono ?_
      rintro e w3 ⟨rfl, hb3⟩
      have hb3' := below_trans hbZ hb3
      have HO3 := Lib.hid (HO2.out.below hb3)
      go_wp2_with fail
      refine ⟨?rel, ?measure⟩
      case rel => exact ⟨k + 1, R, by omega, by go_num, HO3.out, hb3', Lib.hid HN.out.symm⟩
      case measure => first | (simp [intOf]; done) | (simp [intOf]; omega)
    · have HN : Hid (selL (l.take (k + 1)) = R ++ [x.id]) := Lib.hid (by rw [Hsn.out, ← HR.out]; simp)
      go_wp2_with fail
      refine HH.out.mono ?_
      rintro e w3 ⟨rfl, hb3⟩
      have hb3' := below_trans hbZ hb3
      have hown3 := HO2.out.below hb3
      have HO3 := Lib.hid hown3
      have hz3 := hb3'.size
      obtain ⟨⟨q0, _, _, _, _, _, _⟩, _⟩ := cellsS (heap_below HkZ.out hb3 (heap_lt HkZ.out))
      go_wp2_with (at_builtin; refine wpList_append1 (enc := encI) (size := 1) (B := w2.heap.size) rfl (.tmp 27) (.tmp 30) _ rfl 3 iI _ 8 Tryz.underlying28 hiI hzI hkI hbI rfl (by decide) rfl hown3 (x.id : Int) _ rfl lenI oneI _ rfl rfl (by omega) (by omega) hz3 ?_; intro v' w7 hown' hgrow hat; obtain ⟨Av, cv9, rfl, _⟩ := id hown'.slOf; obtain ⟨Rn, hRn⟩ : ∃ z, R ++ [(x.id : Int)] = z := ⟨_, rfl⟩; rw [hRn] at hown' hat ⊢; have HRn := Lib.hid hRn; have HO7 := Lib.hid hown'; have Hb7 := Lib.hid (hb3'.grown hgrow hz3 (fun j e => (HO3.out.lt j e).1)); clear hRn hown' hgrow hat)
      refine ⟨?rel, ?measure⟩
      case rel => exact ⟨k + 1, Rn, by omega, by go_num, HO7.out, Hb7.out, Lib.hid (by rw [HN.out]; exact HRn.out.symm)⟩
      case measure => first | (simp [intOf]; done) | (simp [intOf]; omega)
end Go.Proofs.YtikfffojeakjoaaGreatDoor
/- The top's supportAwake. No condition. -/
namespace Go.Proofs.YtikfffojeakjoaaGreatDoor
open Go.RowKit Go.Maps

def coinT (i o r : Int) : Spec := ⟨i, o, r, 1, 1, 0, 1⟩
set_option maxHeartbeats 1000000 in
theorem coinT_ok (i o r : Int) (w : World) : Calls Tryz.prog 9 #[.int .i64 i, .int .i64 o, .int .i64 r] w fun e w' => e = .returned (.agg #[.int .i64 i, .int .i64 o, .int .i64 r, .int .i64 1, .int .i64 1, .int .i64 0, .int .i64 1]) ∧ Below w.heap.size w w' := by
  obtain ⟨W, hW, Hz, hbW, hltW, _⟩ := boxed w #[.int .i64 0, .int .i64 0, .int .i64 0, .int .i64 0, .int .i64 0, .int .i64 0, .int .i64 0] 27
  have hk : W.heap[w.heap.size]? = some (.cells [.int .i64 0, .int .i64 0, .int .i64 0, .int .i64 0, .int .i64 0, .int .i64 0, .int .i64 0].toArray 27 (0, 0)) := by rw [← hW]; exact heap_alloc_new _ _
  obtain ⟨⟨r0, r1, r2, r3, r4, r5, r6⟩, g0, g1, g2, g3, g4, g5, g6⟩ := cellsS hk
  have Hk := Lib.hid hk; clear hk
  go_enter Tryz.func9, Tryz.ntmps9
  go_wp2_with fail
  exact bodyPost_ret (results_cell_row rfl _ _ w.heap.size 27 #[.int .i64 i, .int .i64 o, .int .i64 r, .int .i64 1, .int .i64 1, .int .i64 0, .int .i64 1] (0, 0) _ (by simp) (heap_set7 Hk.out) Tryz.underlying27 rfl (by kernel_rfl)) rfl ⟨rfl, below_set7 hbW (Nat.le_refl _) hbW.size⟩
def supL : List Spec := [⟨4, 1, 1, 1, 1, 0, 1⟩, ⟨2, 3, 2, 1, 1, 0, 1⟩, ⟨7, 3, 1, 1, 1, 0, 1⟩]
def supA : Die := ⟨0, 1⟩
def supB : Die := ⟨1, 2⟩
theorem sup_check : checkE supL = 0 := by decide +kernel
theorem sup_of : ofE supL = 0 := by decide +kernel
theorem sup_jn : jnL supL supA supB = true :=
  way_joins sup_of (.cons (x := (⟨4, 1, 1⟩ : Link)) (by decide +kernel) (show acrO ⟨4, 1, 1⟩ supA = some ⟨1, 1⟩ by decide +kernel) (.cons (x := (⟨7, 3, 1⟩ : Link)) (by decide +kernel) (show acrO ⟨7, 3, 1⟩ ⟨1, 1⟩ = some ⟨0, 3⟩ by decide +kernel) (.cons (x := (⟨2, 3, 2⟩ : Link)) (by decide +kernel) (show acrO ⟨2, 3, 2⟩ ⟨0, 3⟩ = some supB by decide +kernel) (.nil _)))) (by simp)
theorem sup_e : leastE supL supA supB = 0 := by rw [leastE, if_pos sup_of, if_pos sup_jn]
theorem sup_least : LeastS supL supA supB [2, 4, 7] := least_calc sup_of (by decide +kernel) (by decide +kernel) (by decide) sup_jn (by decide +kernel)
theorem sup_obv : ∀ s ∈ supL, s.obv = 1 ∨ s.obv = 3 := by decide
theorem sup_sel : sortI (selL supL) = [2, 7] := by
  rw [show selL supL = [2, 7] by decide]
  exact List.mergeSort_of_pairwise (by simp)
theorem supA_wf : wfD supA := by decide
theorem supB_wf : wfD supB := by decide
set_option maxHeartbeats 8000000 in
set_option maxRecDepth 100000 in
theorem supAwake_ok (w : World) : Calls Tryz.prog 4 #[] w fun e w' => e = .returned (.bool true) ∧ Below w.heap.size w w' := by
  go_enter Tryz.func4, Tryz.ntmps4
  go_wp2_with fail
  refine (coinT_ok 4 1 1 _).mono ?_
  rintro e w1 ⟨rfl, hb1⟩
  go_wp2_with fail
  refine (coinT_ok 2 3 2 _).mono ?_
  rintro e w2 ⟨rfl, hb2⟩
  go_wp2_with fail
  refine (coinT_ok 7 3 1 _).mono ?_
  rintro e w3 ⟨rfl, hb3⟩
  have hw3 := below_trans hb1 (below_trans hb2 hb3)
  obtain ⟨W, hW, Hz, hbW, hltW, _⟩ := boxed w3 #[.int .i64 4, .int .i64 1, .int .i64 1, .int .i64 1, .int .i64 1, .int .i64 0, .int .i64 1, .int .i64 2, .int .i64 3, .int .i64 2, .int .i64 1, .int .i64 1, .int .i64 0, .int .i64 1, .int .i64 7, .int .i64 3, .int .i64 1, .int .i64 1, .int .i64 1, .int .i64 0, .int .i64 1] 27
  have hk : W.heap[w3.heap.size]? = some (.cells (supL.flatMap encS).toArray 27 (0, 0)) := by rw [← hW]; exact heap_alloc_new _ _
  have hS : Specs W (.slice (some ⟨w3.heap.size, 0, none⟩) 3 3) supL := slOf_blk lenS hk rfl (by decide) (by decide)
  have HS := Lib.hid hS
  have hwW := below_trans hw3 hbW
  have hL := LeastX_ok _ supL supA supB W hS supA_wf supB_wf
  rw [sup_e] at hL
  have HL := Lib.hid hL
  clear hk hS hL
  go_wp2_with fail
  clear hW
  refine HL.out.mono ?_
  rintro e w4 ⟨u, L, rfl, hi, hLs, hb4⟩
  obtain rfl := hLs.uniq sup_least
  have hw4 := below_trans hwW hb4
  have Hi := Lib.hid hi
  obtain ⟨Ai, ci, rfl, _⟩ := id hi
  clear hi hLs HL
  go_wp2_with fail
  refine (qparse_ok w4).mono ?_
  rintro e w5 ⟨rfl, hb5⟩
  obtain ⟨Y1, Y2, hY1, hY2, HzY2, hkY1, hkY2, hbY2, hltY2⟩ := fresh w5 zeroT [.int .i64 1, .int .i64 2, .int .i64 1, .int .i64 3, .slice none 0 0] 46 rfl
  have hsY2 : ((((Y1.setCell ⟨w5.heap.size, 0, none⟩ (.int .i64 1)).setCell ⟨w5.heap.size, 1, none⟩ (.int .i64 2)).setCell ⟨w5.heap.size, 2, none⟩ (.int .i64 1)).setCell ⟨w5.heap.size, 3, none⟩ (.int .i64 3)).setCell ⟨w5.heap.size, 4, none⟩ (.slice none 0 0) = Y2 := hY2
  simp only [zeroT] at hY1
  clear hY2
  obtain ⟨⟨z0, z1, z2, z3, z4⟩, f0, f1, f2, f3, f4⟩ := cells5 hkY1
  obtain ⟨⟨s0, s1, s2, s3, s4⟩, _⟩ := cells5 hkY2
  have hw5 := below_trans hw4 (below_trans hb5 hbY2)
  have hb45 := below_trans hb5 hbY2
  have hSel := qselect_ok _ supL Y2 (HS.out.below (below_trans hb4 hb45)) sup_check sup_obv
  rw [sup_sel] at hSel
  have HSel := Lib.hid hSel
  clear hkY1 hkY2 hSel
  unfold termV at HSel ⊢
  go_wp2_with fail
  clear z0 z1 z2 z3 z4 f0 f1 f2 f3 f4 s0 s1 s2 s3 s4 hsY2 hY1
  refine HSel.out.mono ?_
  rintro e w6 ⟨u2, rfl, hi2, hb6⟩
  have hw6 := below_trans hw5 hb6
  have Hi2 := Lib.hid hi2
  obtain ⟨A2, c2, rfl, _⟩ := id hi2
  obtain ⟨M1, hM1, HzM1, hbM1, hltM1, _⟩ := boxed w6 #[.int .i64 2, .int .i64 4, .int .i64 7] 3
  have hkM : M1.heap[w6.heap.size]? = some (.cells (([2, 4, 7] : List Int).flatMap encI).toArray 3 (0, 0)) := by rw [← hM1]; exact heap_alloc_new _ _
  have hiM : Ints M1 (.slice (some ⟨w6.heap.size, 0, none⟩) 3 3) [2, 4, 7] := slOf_blk lenI hkM rfl (by decide) (by decide)
  have HB1 := Lib.hid (baseInts_ok _ _ _ _ M1 (Hi.out.below (below_trans hb45 (below_trans hb6 hbM1))) hiM)
  clear hi2 hkM hiM HSel
  go_wp2_with fail
  clear hM1
  refine HB1.out.mono ?_
  rintro e w7 ⟨rfl, hb7⟩
  obtain ⟨M2, hM2, HzM2, hbM2, hltM2, _⟩ := boxed w7 #[.int .i64 2, .int .i64 7] 3
  have hkM : M2.heap[w7.heap.size]? = some (.cells (([2, 7] : List Int).flatMap encI).toArray 3 (0, 0)) := by rw [← hM2]; exact heap_alloc_new _ _
  have hiM : Ints M2 (.slice (some ⟨w7.heap.size, 0, none⟩) 2 2) [2, 7] := slOf_blk lenI hkM rfl (by decide) (by decide)
  have HB2 := Lib.hid (baseInts_ok _ _ _ _ M2 (Hi2.out.below (below_trans hbM1 (below_trans hb7 hbM2))) hiM)
  have hw7 := below_trans hw6 (below_trans hbM1 (below_trans hb7 hbM2))
  have d1 : decide (([2, 4, 7] : List Int) = [2, 4, 7]) = true := by decide
  clear hkM hiM HB1
  go_wp2_with fail
  clear hM2
  refine HB2.out.mono ?_
  rintro e w8 ⟨rfl, hb8⟩
  go_wp2_with fail
  go_ret
  exact ⟨rfl, below_trans hw7 hb8⟩
end Go.Proofs.YtikfffojeakjoaaGreatDoor
