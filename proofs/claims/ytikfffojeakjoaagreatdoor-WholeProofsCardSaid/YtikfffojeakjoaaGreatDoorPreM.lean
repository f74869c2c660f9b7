/- Package precedence: gather in general. Condition: the arguments read as such. -/
import Derived.Test.YtikfffojeakjoaaGreatDoorPreA
import Derived.Deep.DeepCutAuto
import Derived.Test.YtikfffojeakjoaaGreatDoorQueD
import Derived.Test.YtikfffojeakjoaaGreatDoorRowR
import Derived.Test.YtikfffojeakjoaaGreatDoorCompB
import Derived.BigRegion
namespace Go.Proofs.YtikfffojeakjoaaGreatDoor
open Go.RowKit Go.Maps Go.Shelf

theorem infoPc : (Tryz.prog.info? 63).map (fun i => (i.zero, i.size, i.bytes)) = some (some (.agg #[.int .i64 0, .int .i64 0, .int .i64 0]), 3, 24) := by kernel_rfl
abbrev OwnPc (B : Nat) (w : World) (v : Value) (xs : List Link) : Prop := Own encL 3 63 B w v xs
/-- The place of an Id. -/
def plS (l : List Spec) (n : Int) : Int := firstI (fun s => s.id == n) l
def arcP (k : Int) (p : Pair) : Link := ⟨k, p.a, p.b⟩
def claP (l : List Spec) (c : Pair) : Link := ⟨2, plS l c.a, plS l c.b⟩
/-- The pieces of evidence: kind, from, to. -/
def sidesS (l : List Spec) : List Link := (arcsW 0 l l).map (arcP 0) ++ (arcsW 1 l l).map (arcP 1)
def piecesS (l : List Spec) (C : List Pair) : List Link := sidesS l ++ C.map (claP l)
def missB (l : List Spec) (c : Pair) : Bool := decide (plS l c.a < 0) || decide (plS l c.b < 0)
def sameB (l : List Spec) (c : Pair) : Bool := decide (plS l c.a = plS l c.b)
def gatherE (l : List Spec) (C : List Pair) : Int :=
  if checkE l = 0 then (if l.length ≤ 24 ∧ C.length ≤ 64 then (if C.any (missB l) = true then 7 else if C.any (sameB l) = true then 1 else 0) else 6) else checkE l
def sidesK (l : List Spec) (k : Nat) : List Link := (List.range k).flatMap fun (o : Nat) => (arcsW (o : Int) l l).map (arcP (o : Int))
theorem sidesK_succ (l : List Spec) (k : Nat) : sidesK l (k + 1) = sidesK l k ++ (arcsW (k : Int) l l).map (arcP (k : Int)) := by
  rw [sidesK, List.range_succ, List.flatMap_append]; simp [sidesK]
theorem sidesK_two (l : List Spec) : sidesK l 2 = sidesS l := by simp [sidesK, sidesS, List.range_succ]
def claK (l : List Spec) (C : List Pair) (j : Nat) : List Link := (C.take j).map (claP l)
def sameK (l : List Spec) (C : List Pair) (j : Nat) : Bool := (C.take j).any (sameB l)
def missK (l : List Spec) (C : List Pair) (j : Nat) : Prop := (C.take j).any (missB l) = false
structure EvS (V w : World) (g : Nat) (a pv : Value) (P : List Link) : Prop where
  row : w.heap[g]? = some (.cells [a, pv].toArray 57 (0, 0))
  own : OwnPc V.heap.size w pv P
  touch : Touch V w [g]
  lt : g < V.heap.size
section
variable {V w w' : World} {g : Nat} {a pv v' : Value} {P P' : List Link}
theorem EvS.below (h : EvS V w g a pv P) (hb : Below w.heap.size w w') : EvS V w' g a pv P :=
  ⟨heap_below h.row hb (heap_lt h.row), h.own.below hb, h.touch.trans (touch_below hb [g]), h.lt⟩
theorem EvS.grow (h : EvS V w g a pv P) (hg : w.grownBy w' pv.ownBlock) : w'.heap[g]? = some (.cells [a, pv].toArray 57 (0, 0)) ∧ Touch V w' [g] :=
  ⟨(hg.block g (heap_lt h.row) (fun e => by have := (h.own.lt g e.symm).1; have := h.lt; omega)).trans h.row, h.touch.trans_own hg fun j e => (h.own.lt j e).1⟩
theorem EvS.put (h : EvS V w g a pv P) (hg : w.grownBy w' pv.ownBlock) (ho : OwnPc V.heap.size w' v' P') : EvS V (w'.setCell ⟨g, 1, none⟩ v') g a v' P' := by
  obtain ⟨h1, h2⟩ := h.grow hg
  refine ⟨?_, ho.touch (S := [g]) (touch_set rfl (by simp)) (fun b hb => by rw [List.mem_singleton] at hb; subst hb; exact h.lt), h2.trans (touch_set rfl (by simp)), h.lt⟩
  have := heap_setCell_same w' g 1 _ _ v' h1
  rw [this]; simp
end
theorem arcs_len (o : Int) (l : List Spec) (hl : l.length ≤ 24) : (arcsW o l l).length ≤ 576 := by
  have h1 : ∀ (s : Spec) (i : Nat), (rowW o s i l).length ≤ 24 := fun s i => by
    unfold rowW
    exact Nat.le_trans (List.length_filterMap_le _ _) (by simpa using hl)
  have h2 : ∀ (xs : List (Spec × Nat)), (xs.flatMap fun p => rowW o p.1 p.2 l).length ≤ 24 * xs.length := fun xs => by
    induction xs with
    | nil => simp
    | cons x xs ih =>
      rw [List.flatMap_cons, List.length_append, List.length_cons]
      have := h1 x.1 x.2
      omega
  have := h2 l.zipIdx
  unfold arcsW
  have h3 : l.zipIdx.length = l.length := by simp
  omega
theorem sidesK_len (l : List Spec) (hl : l.length ≤ 24) : ∀ k, (sidesK l k).length ≤ 576 * k
  | 0 => by simp [sidesK]
  | k + 1 => by
    have := sidesK_len l hl k
    have := arcs_len (k : Int) l hl
    rw [sidesK_succ, List.length_append, List.length_map]
    omega
theorem touch_own' {w w' w'' : World} {S : List Nat} {row : Option Nat} (h : Touch w w' S) (k : w'.grownBy w'' row) (hr : ∀ j, row = some j → j ∈ S ∨ w.heap.size ≤ j) : Touch w w'' S :=
  ⟨k.os.trans h.os, k.tape.trans h.tape, k.output.trans h.output, Nat.le_trans h.size k.size, fun i hi hn => (k.block i (Nat.lt_of_lt_of_le hi h.size) fun e => by
    rcases hr i e.symm with h1 | h1
    · exact hn h1
    · omega).trans (h.block i hi hn)⟩
set_option maxHeartbeats 16000000 in
set_option maxRecDepth 100000 in
theorem gather_ok (A : Option Addr) (c : Nat) (l : List Spec) (cv : Value) (C : List Pair) (w : World) (h : Specs w (.slice A l.length c) l) (hC : Pairs w cv C) :
    Calls Tryz.prog 16 #[.slice A l.length c, cv] w fun e w' => (∃ pv, e = .returned (.tuple #[.agg #[.slice A l.length c, pv], .int .i64 0]) ∧ gatherE l C = 0 ∧ SlOf encL 3 w' pv (piecesS l C) ∧ Below w.heap.size w w') ∨ (∃ E, e = .returned (.tuple #[.agg #[.slice none 0 0, .slice none 0 0], .int .i64 E]) ∧ (E = gatherE l C ∧ E ≠ 0) ∧ Below w.heap.size w w') := by
  obtain ⟨W, hW, Hz, hbW, hltW, hcx⟩ := boxed w #[.slice none 0 0, .slice none 0 0] 57
  clear hcx
  have hk : W.heap[w.heap.size]? = some (.cells [.slice none 0 0, .slice none 0 0].toArray 57 (0, 0)) := by rw [← hW]; exact heap_alloc_new _ _
  have h0 := h.below hbW
  obtain ⟨Ac, cc, rfl, _⟩ := id hC
  have HC := Lib.hid (SCheck_ok _ l W h0)
  have Hh := Lib.hid h0; have HCC := Lib.hid (show Pairs W _ C from hC.below hbW)
  obtain ⟨E, hE⟩ : ∃ E, checkE l = E := ⟨_, rfl⟩
  rw [hE] at HC
  have HE := Lib.hid hE
  clear h h0 hC hE
  go_enter Tryz.func16, Tryz.ntmps16
  go_wp2_with fail
  refine HC.out.mono ?_
  rintro e w1 ⟨rfl, hb1⟩
  have hw1 := below_trans hbW hb1
  have hk1 := heap_below hk hb1 (heap_lt hk)
  have Hk1 := Lib.hid hk1
  clear hW hk hk1 HC
  by_cases hE0 : E = 0
  case neg =>
    have t : (E != 0) = true := by simpa using hE0
    have HG : Hid (E = gatherE l C ∧ E ≠ 0) := Lib.hid ⟨by rw [gatherE, if_neg (by rw [HE.out]; exact hE0), HE.out], hE0⟩
    obtain ⟨⟨e0, e1⟩, g0, g1⟩ := cells2' (show w1.heap[w.heap.size]? = some (.cells #[.slice none 0 0, .slice none 0 0] 57 (0, 0)) from Hk1.out)
    clear hE0
    go_wp2_with fail
    exact bodyPost_ret (results_cell_tmp_row rfl _ _ w.heap.size 57 #[.slice none 0 0, .slice none 0 0] (0, 0) _ (by simp) (heap_set2 Hk1.out) Tryz.underlying57 rfl (by kernel_rfl)) rfl (.inr ⟨_, rfl, HG.out, (hw1).grown (setCells_grown w.heap.size [.slice none 0 0, .slice none 0 0] w1 0) (hw1).size (fun j e => by cases e; exact Nat.le_refl _)⟩)
  have t : (E != 0) = false := by simp [hE0]
  have HEz : Hid (checkE l = 0) := Lib.hid (by rw [HE.out, hE0])
  subst hE0
  by_cases hl : l.length ≤ 24 ∧ C.length ≤ 64
  case neg =>
    have HG : Hid ((6 : Int) = gatherE l C ∧ (6 : Int) ≠ 0) := Lib.hid ⟨by rw [gatherE, if_pos HEz.out, if_neg hl], by decide⟩
    obtain ⟨⟨e0, e1⟩, g0, g1⟩ := cells2' (show w1.heap[w.heap.size]? = some (.cells #[.slice none 0 0, .slice none 0 0] 57 (0, 0)) from Hk1.out)
    by_cases h1 : l.length ≤ 24
    · have t1 : decide ((24 : Int) < (l.length : Int)) = false := by simp; omega
      have t2 : decide ((64 : Int) < (C.length : Int)) = true := by simp; omega
      have t3 : (l.length : Int) ≤ 24 := by omega
      have t4 : (64 : Int) < (C.length : Int) := by omega
      clear hl h1
      go_wp2_with fail
      exact bodyPost_ret (results_cell_tmp_row rfl _ _ w.heap.size 57 #[.slice none 0 0, .slice none 0 0] (0, 0) _ (by simp) (heap_set2 Hk1.out) Tryz.underlying57 rfl (by kernel_rfl)) rfl (.inr ⟨_, rfl, HG.out, (hw1).grown (setCells_grown w.heap.size [.slice none 0 0, .slice none 0 0] w1 0) (hw1).size (fun j e => by cases e; exact Nat.le_refl _)⟩)
    · have t1 : decide ((24 : Int) < (l.length : Int)) = true := by simp; omega
      have t3 : (24 : Int) < (l.length : Int) := by omega
      clear hl h1
      go_wp2_with fail
      exact bodyPost_ret (results_cell_tmp_row rfl _ _ w.heap.size 57 #[.slice none 0 0, .slice none 0 0] (0, 0) _ (by simp) (heap_set2 Hk1.out) Tryz.underlying57 rfl (by kernel_rfl)) rfl (.inr ⟨_, rfl, HG.out, (hw1).grown (setCells_grown w.heap.size [.slice none 0 0, .slice none 0 0] w1 0) (hw1).size (fun j e => by cases e; exact Nat.le_refl _)⟩)
  obtain ⟨hl24, hC64⟩ := hl
  have t1 : decide ((24 : Int) < (l.length : Int)) = false := by simp; omega
  have t2 : decide ((64 : Int) < (C.length : Int)) = false := by simp; omega
  have t3 : (l.length : Int) ≤ 24 := by omega
  have t4 : (C.length : Int) ≤ 64 := by omega
  obtain ⟨V1, V2, hV1, hV2, HzV2, hkV1, hkV2, hbV2, hltV2⟩ := fresh w1 [.slice none 0 0, .slice none 0 0] [.slice A l.length c, .slice none 0 0] 57 rfl
  have hsV2 : (V1.setCell ⟨w1.heap.size, 0, none⟩ (.slice A l.length c)).setCell ⟨w1.heap.size, 1, none⟩ (.slice none 0 0) = V2 := hV2
  clear hV2
  obtain ⟨⟨z0, z1⟩, f0, f1⟩ := cells2 hkV1
  have hw2 := below_trans hw1 hbV2
  have Hk2 := Lib.hid (heap_below Hk1.out hbV2 (heap_lt Hk1.out))
  have HEv : Hid (EvS V2 V2 w1.heap.size (.slice A l.length c) (.slice none 0 0) (sidesK l 0)) := Lib.hid ⟨hkV2, own_nil _ _ _ _ _, Touch.refl _ _, hltV2⟩
  have hgw : w.heap.size < w1.heap.size := Nat.lt_of_lt_of_le hltW hb1.size
  clear hkV1 hkV2
  go_wp2_with fail
  clear z0 z1 f0 f1 hsV2 hV1 t
  obtain ⟨iP, hiP, hzP, hkP, hbP⟩ := info_parts infoPc
  go_loopw [34] (fun i wr => ∃ (k : Nat) (pv : Value), k ≤ 2 ∧ i = .int .i64 k ∧ EvS V2 wr w1.heap.size (.slice A l.length c) pv (sidesK l k)) (fun i _ => 2 - (intOf i).toNat)
  case atStart => exact ⟨0, _, by omega, rfl, HEv.out⟩
  case round =>
    obtain ⟨k, pv, hk, rfl, hev⟩ := hrel
    have hwr1 : Below w1.heap.size w1 wr := ((touch_below hbV2 [w1.heap.size]).trans hev.touch).below (by simp) (Nat.le_refl _)
    have hwr := below_trans hw1 hwr1
    by_cases hlt : k < 2
    case pos =>
      have HB := Lib.hid (wBefore_ok _ l (k : Int) wr (Hh.out.below (below_trans hb1 hwr1)) HEz.out (by omega))
      have hlt2 : (k : Int) < 2 := by omega
      have hQl := sidesK_len l hl24 k
      have hXl := arcs_len (k : Int) l hl24
      have hss := sidesK_succ l k
      obtain ⟨Q, hQ⟩ : ∃ Q, sidesK l k = Q := ⟨_, rfl⟩
      obtain ⟨X, hX⟩ : ∃ X, arcsW (k : Int) l l = X := ⟨_, rfl⟩
      rw [hX] at HB hXl hss
      rw [hQ] at hev hQl hss
      have Hss := Lib.hid hss; have Hev := Lib.hid hev
      clear hss hQ hX hev
      go_wp2_with fail
      refine HB.out.mono ?_
      rintro e w3 ⟨u, rfl, hu, hb3⟩
      have Hev3 := Lib.hid (Hev.out.below hb3)
      have Hu := Lib.hid hu
      obtain ⟨Au, cu, rfl, _⟩ := id hu.slOf
      have hwz : w1.heap.size < wr.heap.size := by have := Hev.out.touch.size; omega
      have hpz : ∀ q, pv.ownBlock = some q → q < wr.heap.size := fun q hq => (Hev.out.own.lt q hq).2
      have Hpz := Lib.hid hpz
      clear hu hpz
      go_wp2_with fail
      go_loopw [45] (fun i wr => ∃ (j : Nat) (pv' : Value), j ≤ X.length ∧ i = .int .i64 j ∧ EvS V2 wr w1.heap.size (.slice A l.length c) pv' (Q ++ (X.take j).map (arcP (k : Int))) ∧ Touch w3 wr (w1.heap.size :: pv.ownBlock.toList) ∧ Hid (∀ q, pv'.ownBlock = some q → q ∈ w1.heap.size :: pv.ownBlock.toList ∨ w3.heap.size ≤ q)) (fun i _ => X.length - (intOf i).toNat)
      case atStart => exact ⟨0, pv, Nat.zero_le _, rfl, by simpa using Hev3.out, Touch.refl _ _, Lib.hid (fun q hq => .inl (by simp [hq]))⟩
      case round =>
        obtain ⟨wt, hwt0⟩ : ∃ z, z = wr := ⟨_, rfl⟩
        subst hwt0
        obtain ⟨j, pv', hj, rfl, hev', hT, Hq⟩ := hrel
        by_cases hltj : j < X.length
        case neg =>
          have HN : Hid (sidesK l (k + 1) = Q ++ (X.take j).map (arcP (k : Int))) := Lib.hid (by rw [Hss.out, List.take_of_length_le (by omega)])
          have HE' := Lib.hid hev'
          clear hev' hT
          go_wp2_with fail
          refine ⟨?rel, ?measure⟩
          case rel => exact ⟨k + 1, pv', by omega, by go_num, by rw [HN.out]; exact HE'.out⟩
          case measure => first | (simp [intOf]; done) | (simp [intOf]; omega)
        obtain ⟨x, hx⟩ := get_of_lt hltj
        rcases Hu.out.cases with ⟨_, h2⟩ | ⟨q, cap, hv, hBq, hql, _, _⟩
        · rw [h2] at hltj; simp at hltj
        obtain ⟨rfl, rfl⟩ : Au = some ⟨q, 0, none⟩ ∧ cu = cap := by simpa using hv
        have hqS : q ∉ w1.heap.size :: pv.ownBlock.toList := by
          rw [List.mem_cons]
          rintro (e | e)
          · omega
          · cases ho : pv.ownBlock with
            | none => rw [ho] at e; simp at e
            | some z => rw [ho] at e; simp at e; have := Hpz.out z ho; omega
        have c0 := (Hu.out.cellsAt lenP rfl hx (j := 0) (u := .int .i64 x.a) rfl).1
        have c1 := (Hu.out.cellsAt lenP rfl hx (j := 1) (u := .int .i64 x.b) rfl).1
        have y0 := cell_off hT (a := ⟨q, j * 2 + 0, none⟩) hqS c0; have y1 := cell_off hT (a := ⟨q, j * 2 + 1, none⟩) hqS c1
        simp only [Nat.add_zero] at y0
        obtain ⟨Z1, Z2, hZ1, hZ2, HzZ2, hkZ1, hkZ2, hbZ2, hltZ2⟩ := fresh wt [.int .i64 0, .int .i64 0] [.int .i64 x.a, .int .i64 x.b] 98 rfl
        have hsZ2 : (Z1.setCell ⟨wt.heap.size, 0, none⟩ (.int .i64 x.a)).setCell ⟨wt.heap.size, 1, none⟩ (.int .i64 x.b) = Z2 := hZ2
        clear hZ2
        obtain ⟨⟨z0, z1⟩, f0, f1⟩ := cells2 hkZ1
        obtain ⟨⟨s0, s1⟩, _⟩ := cells2 hkZ2
        have hev2 := hev'.below hbZ2
        obtain ⟨⟨p0, p1⟩, _⟩ := cells2 hev2.row
        have hown2 := hev2.own
        have hPl : (Q ++ (X.take j).map (arcP (k : Int))).length ≤ 1728 := by rw [List.length_append, List.length_map, List.length_take]; omega
        have htk : (X.take (j + 1)).map (arcP (k : Int)) = (X.take j).map (arcP (k : Int)) ++ [arcP (k : Int) x] := by rw [take_snoc' hx, List.map_append]; rfl
        have Hev2 := Lib.hid hev2; have HTz := Lib.hid (hT.trans (touch_below hbZ2 (w1.heap.size :: pv.ownBlock.toList)))
        have Htk := Lib.hid htk
        have hj1 : (j : Int) < (X.length : Int) := by omega
        have hj0 : (0 : Int) ≤ (j : Int) := by omega
        have hzV : V2.heap.size ≤ Z2.heap.size := Hev2.out.touch.size
        clear hv hx c0 c1 hkZ1 hkZ2 hev2 hev' hT htk
        go_wp2_with (at_builtin; refine wpList_append1 (enc := encL) (size := 3) (B := V2.heap.size) rfl (.tmp 50) (.tmp 57) _ rfl 63 iP _ 24 Tryz.underlying55 hiP hzP hkP hbP rfl (by decide) rfl hown2 (arcP (k : Int) x) _ rfl lenL oneL _ rfl rfl (by omega) (by omega) hzV ?_; intro v' w7 hown' hgrow hat; obtain ⟨Av, cv9, rfl, _⟩ := id hown'.slOf; obtain ⟨nn, hnn⟩ : ∃ nn, (Q ++ (X.take j).map (arcP (k : Int)) ++ [arcP (k : Int) x]).length = nn := ⟨_, rfl⟩; rw [hnn] at hown' hat ⊢; clear hnn; obtain ⟨hr7, ht7⟩ := Hev2.out.grow hgrow; obtain ⟨⟨r0, r1⟩, e0, e1⟩ := cells2' (show w7.heap[w1.heap.size]? = some (.cells #[.slice A l.length c, pv'] 57 (0, 0)) from hr7); have HE7 := Lib.hid (Hev2.out.put hgrow hown'); have HG7 := Lib.hid hgrow; have HA7 := Lib.hid hat; clear hr7 ht7 hgrow hat)
        have HqN : Hid (∀ q', (Value.slice Av nn cv9).ownBlock = some q' → q' ∈ w1.heap.size :: pv.ownBlock.toList ∨ w3.heap.size ≤ q') := Lib.hid fun q' hq' => by
          rcases HA7.out with e | e
          · rw [e] at hq'; exact Hq.out q' hq'
          · rw [e] at hq'; cases hq'; exact .inr (by have := HTz.out.size; omega)
        have HTN := Lib.hid ((touch_own' HTz.out HG7.out (fun j' e => Hq.out j' e)).trans (touch_set (a := ⟨w1.heap.size, 1, none⟩) (x := .slice Av nn cv9) (S := w1.heap.size :: pv.ownBlock.toList) rfl (by simp)))
        have HQE : Hid (Q ++ (X.take (j + 1)).map (arcP (k : Int)) = Q ++ (X.take j).map (arcP (k : Int)) ++ [arcP (k : Int) x]) := Lib.hid (by rw [Htk.out, List.append_assoc])
        refine ⟨?rel, ?measure⟩
        case rel => exact ⟨j + 1, _, by omega, by go_num, by rw [HQE.out]; exact HE7.out, HTN.out, HqN⟩
        case measure => simp [intOf]; omega
    have hk2 : k = 2 := by omega
    subst hk2
    rw [sidesK_two] at hev
    have Hev := Lib.hid hev
    obtain ⟨QS, hQS⟩ : ∃ Q, sidesS l = Q := ⟨_, rfl⟩
    rw [hQS] at Hev
    have HQS := Lib.hid hQS
    have hQl : QS.length ≤ 1152 := by rw [← hQS, ← sidesK_two]; exact sidesK_len l hl24 2
    clear hev hQS
    go_wp2_with fail
    go_loopw [13, 64] (fun bv i wr => ∃ (j : Nat) (pv' : Value), j ≤ C.length ∧ bv = .bool (sameK l C j) ∧ i = .int .i64 j ∧ missK l C j ∧ EvS V2 wr w1.heap.size (.slice A l.length c) pv' (QS ++ claK l C j)) (fun _ i _ => C.length - (intOf i).toNat)
    case atStart => exact ⟨0, pv, Nat.zero_le _, rfl, rfl, rfl, by simpa [claK] using Hev.out⟩
    case round =>
      clear hwr hwr1 Hev
      obtain ⟨wt, hwt0⟩ : ∃ z, z = wr := ⟨_, rfl⟩
      subst hwt0
      obtain ⟨j, pv', hj, rfl, rfl, Hm0, hev⟩ := hrel
      have Hm : Hid ((C.take j).any (missB l) = false) := Lib.hid Hm0
      clear Hm0
      have hwr1 : Below w1.heap.size w1 wt := ((touch_below hbV2 [w1.heap.size]).trans hev.touch).below (by simp) (Nat.le_refl _)
      have hwr := below_trans hw1 hwr1
      have hWt := below_trans hb1 hwr1
      have Hkr := Lib.hid ((hev.touch.block w.heap.size (heap_lt Hk2.out) (by simp; omega)).trans Hk2.out)
      by_cases hltj : j < C.length
      case neg =>
        have hte : C.take j = C := List.take_of_length_le (by omega)
        rw [hte] at Hm
        rw [claK, hte] at hev
        rw [sameK, hte]
        have hP : QS ++ C.map (claP l) = piecesS l C := by rw [piecesS, HQS.out]
        rw [hP] at hev
        obtain ⟨T, hT⟩ : ∃ T, C.any (sameB l) = T := ⟨_, rfl⟩
        rw [hT]
        have hgE : gatherE l C = if T = true then 1 else 0 := by rw [gatherE, if_pos HEz.out, if_pos ⟨hl24, hC64⟩, if_neg (by rw [Hm.out]; simp), hT]
        obtain ⟨⟨e0, e1⟩, g0, g1⟩ := cells2' (show wt.heap[w.heap.size]? = some (.cells #[.slice none 0 0, .slice none 0 0] 57 (0, 0)) from Hkr.out)
        obtain ⟨⟨p0, p1⟩, _⟩ := cells2 hev.row
        obtain ⟨Ap, cp, rfl, _⟩ := id hev.own.slOf
        have Hev := Lib.hid hev; have HgE := Lib.hid hgE
        clear hte hP hT hev hgE
        cases T
        · have HO := Lib.hid (Hev.out.own.touch (S := [w.heap.size]) (grown_touch (setCells_grown w.heap.size [.slice A l.length c, .slice Ap (piecesS l C).length cp] wt 0) (by simp)) (fun b hb => by rw [List.mem_singleton] at hb; subst hb; have := hltV2; omega)).slOf
          go_wp2_with fail
          exact bodyPost_ret (results_cell_tmp_row rfl _ _ w.heap.size 57 #[.slice A l.length c, .slice Ap (piecesS l C).length cp] (0, 0) _ (by simp) (heap_set2 Hkr.out) Tryz.underlying57 rfl (by kernel_rfl)) rfl (.inl ⟨_, rfl, HgE.out, HO.out, hwr.grown (setCells_grown w.heap.size [.slice A l.length c, .slice Ap (piecesS l C).length cp] wt 0) hwr.size (fun j e => by cases e; exact Nat.le_refl _)⟩)
        · have HG : Hid ((1 : Int) = gatherE l C ∧ (1 : Int) ≠ 0) := Lib.hid ⟨HgE.out.symm, by decide⟩
          go_wp2_with fail
          exact bodyPost_ret (results_cell_tmp_row rfl _ _ w.heap.size 57 #[.slice none 0 0, .slice none 0 0] (0, 0) _ (by simp) (heap_set2 Hkr.out) Tryz.underlying57 rfl (by kernel_rfl)) rfl (.inr ⟨_, rfl, HG.out, (hwr).grown (setCells_grown w.heap.size [.slice none 0 0, .slice none 0 0] wt 0) (hwr).size (fun j e => by cases e; exact Nat.le_refl _)⟩)
      obtain ⟨x, hx⟩ := get_of_lt hltj
      obtain ⟨_, _, ex, _, _, hcc⟩ := HCC.out.cells
      cases ex
      obtain ⟨bo, o, rfl, _, hcb⟩ := hcc j hltj
      obtain ⟨y0, y1⟩ := hcb wt hWt j x hx
      obtain ⟨Z1, Z2, hZ1, hZ2, HzZ2, hkZ1, hkZ2, hbZ2, hltZ2⟩ := fresh wt [.int .i64 0, .int .i64 0] [.int .i64 x.a, .int .i64 x.b] 34 rfl
      have hsZ2 : (Z1.setCell ⟨wt.heap.size, 0, none⟩ (.int .i64 x.a)).setCell ⟨wt.heap.size, 1, none⟩ (.int .i64 x.b) = Z2 := hZ2
      clear hZ2
      obtain ⟨⟨z0, z1⟩, f0, f1⟩ := cells2 hkZ1
      obtain ⟨⟨s0, s1⟩, _⟩ := cells2 hkZ2
      have hj1 : (j : Int) < (C.length : Int) := by omega
      have hj0 : (0 : Int) ≤ (j : Int) := by omega
      have Hev := Lib.hid hev; have Hx := Lib.hid hx
      have hwZ := below_trans hWt hbZ2
      have hplA := fun w9 (hh : Specs w9 (.slice A l.length c) l) => placeL_ok _ l x.a w9 hh
      have hplB := fun w9 (hh : Specs w9 (.slice A l.length c) l) => placeL_ok _ l x.b w9 hh
      obtain ⟨pa, hpa⟩ : ∃ p, plS l x.a = p := ⟨_, rfl⟩
      obtain ⟨pb, hpb⟩ : ∃ p, plS l x.b = p := ⟨_, rfl⟩
      rw [show firstI (fun s : Spec => s.id == x.a) l = pa from hpa] at hplA
      rw [show firstI (fun s : Spec => s.id == x.b) l = pb from hpb] at hplB
      have HA := Lib.hid hplA; have HB := Lib.hid hplB
      have Hpa := Lib.hid hpa; have Hpb := Lib.hid hpb
      clear hcc hcb hx hev hplA hplB hkZ1 hkZ2 hpa hpb
      go_upto_region 21 with fail
      clear z0 z1 f0 f1 hsZ2 hZ1 y0 y1
      go_cut [16] (fun pv16 wc => ∃ b, pv16 = .pointer (some ⟨b, 0, none⟩) ∧ wc.heap[b]? = some (.cells [.int .i64 2, .int .i64 pa, .int .i64 pb].toArray 63 (0, 0)) ∧ Below Z2.heap.size Z2 wc)
      case first =>
        have hba : Below Z2.heap.size Z2 Z2.drew := (Below.refl _ _).drew
        obtain ⟨wa, hwa⟩ : ∃ W, Z2.drew = W := ⟨_, rfl⟩
        rw [hwa] at hba
        have HhS := Lib.hid fun (w9 : World) (hb : Below wa.heap.size wa w9) => Hh.out.below (below_trans (below_trans hwZ hba) hb)
        have HSt := Lib.hid fun (w9 : World) (hb : Below wa.heap.size wa w9) => (show (fun w' : World => Below wa.heap.size wa w' ∧ w'.cell? ⟨wt.heap.size, 0, none⟩ = some (.int .i64 x.a) ∧ w'.cell? ⟨wt.heap.size, 1, none⟩ = some (.int .i64 x.b)) w9 from ⟨hb, cell_later hb (cell_later hba s0), cell_later hb (cell_later hba s1)⟩)
        have hHeld := HSt.out wa (Below.refl _ _)
        have bwa : Below wa.heap.size wa wa := Below.refl _ _
        have hza := hba.size
        refine wp_region_S 10 (fun w' : World => Below wa.heap.size wa w' ∧ w'.cell? ⟨wt.heap.size, 0, none⟩ = some (.int .i64 x.a) ∧ w'.cell? ⟨wt.heap.size, 1, none⟩ = some (.int .i64 x.b)) (by kernel_rfl) (by decide) ?_
        rw [hwa]
        clear hwa s0 s1
        refine wpAnyS_takeD 0 (some 68) (.slice A l.length c) (by rfl) (by rfl) (by kernel_rfl) (by exact fun _ _ _ h => h) (by rfl) (fun w' hS => by go_simp) hHeld ?_
        simp only [Act.put, List.setIfInBounds_toArray, List.set_cons_succ, List.set_cons_zero]
        refine wpAnyS_takeD 1 (some 69) (.pointer (some ⟨wt.heap.size, 0, none⟩)) (by rfl) (by rfl) (by kernel_rfl) (by exact fun _ _ _ h => h) (by rfl) (fun w' hS => by go_simp) hHeld ?_
        simp only [Act.put, List.setIfInBounds_toArray, List.set_cons_succ, List.set_cons_zero]
        refine wpAnyS_takeD 2 (some 70) (.int .i64 x.a) (by rfl) (by rfl) (by kernel_rfl) (by exact fun _ _ _ h => h) (by rfl) (fun w' hS => by (obtain ⟨_, x0, x1⟩ := hS; go_simp)) hHeld ?_
        simp only [Act.put, List.setIfInBounds_toArray, List.set_cons_succ, List.set_cons_zero]
        refine wpAnyS_takeD 4 (some 72) (.slice A l.length c) (by rfl) (by rfl) (by kernel_rfl) (by exact fun _ _ _ h => h) (by rfl) (fun w' hS => by go_simp) hHeld ?_
        simp only [Act.put, List.setIfInBounds_toArray, List.set_cons_succ, List.set_cons_zero]
        refine wpAnyS_takeD 5 (some 73) (.pointer (some ⟨wt.heap.size, 1, none⟩)) (by rfl) (by rfl) (by kernel_rfl) (by exact fun _ _ _ h => h) (by rfl) (fun w' hS => by go_simp) hHeld ?_
        simp only [Act.put, List.setIfInBounds_toArray, List.set_cons_succ, List.set_cons_zero]
        refine wpAnyS_takeD 6 (some 74) (.int .i64 x.b) (by rfl) (by rfl) (by kernel_rfl) (by exact fun _ _ _ h => h) (by rfl) (fun w' hS => by (obtain ⟨_, x0, x1⟩ := hS; go_simp)) hHeld ?_
        simp only [Act.put, List.setIfInBounds_toArray, List.set_cons_succ, List.set_cons_zero]
        clear hHeld
        refine wpAnyS_two 3 9 (by kernel_rfl) (by rfl) (by rfl) (by decide) (by decide) (fun K hK => ?_) (fun K hK => ?_)
        · have HK := Lib.hid hK
          clear hK
          rw [if_pos (by rfl)]
          go_simp
          refine (HA.out _ (HhS.out _ bwa)).mono ?_
          rintro e q1 ⟨rfl, sq1⟩
          have bq1 : Below wa.heap.size wa q1 := below_trans bwa sq1
          refine HK.out _ _ (HSt.out _ bq1) ?_
          clear HK
          refine wpAnyS_two 7 9 (by kernel_rfl) (by rfl) (by rfl) (by decide) (by decide) (fun K hK => ?_) (fun K hK => ?_)
          · have HK := Lib.hid hK
            clear hK
            rw [if_pos (by rfl)]
            go_simp
            refine (HB.out _ (HhS.out _ bq1)).mono ?_
            rintro e q2 ⟨rfl, sq2⟩
            have bq2 : Below wa.heap.size wa q2 := below_trans bq1 sq2
            refine HK.out _ _ (HSt.out _ bq2) ?_
            clear HK
            have hHeld := HSt.out _ bq2
            refine wpAnyS_takeD 8 (some 76) (.agg #[.int .i64 2, .int .i64 pa, .int .i64 pb]) (by rfl) (by rfl) (by kernel_rfl) (by exact fun _ _ _ h => h) (by rfl) (fun w' hS => by go_simp) hHeld ?_
            simp only [Act.put, List.setIfInBounds_toArray]
            clear hHeld
            refine wpAnyS_one 9 (by kernel_rfl) (by rfl) (by decide) (fun K hK => ?_)
            have HK := Lib.hid hK; clear hK
            rw [if_pos (by rfl)]
            go_simp
            obtain ⟨q3, hq3⟩ : ∃ z, World.alloc q2 (.cells #[.int .i64 0, .int .i64 0, .int .i64 0] 63) = z := ⟨_, rfl⟩
            have sq3 : Below (q2).heap.size q2 q3 := by rw [← hq3]; exact (Below.refl _ _).alloc (Nat.le_refl _) _
            have bq3 : Below wa.heap.size wa q3 := below_trans bq2 sq3
            have rq3 : (q3).heap[(q2).heap.size]? = some (.cells [.int .i64 0, .int .i64 0, .int .i64 0].toArray 63 (0, 0)) := by rw [← hq3]; exact heap_alloc_new _ _
            have qq3 : wa.heap.size ≤ (q2).heap.size := bq2.size
            rw [hq3]
            refine HK.out _ _ (HSt.out _ bq3) ?_
            clear HK hq3
            refine (show tailOf _ _ _ _ _ _ _ _ from ⟨by kernel_rfl, ?_⟩)
            simp only [List.drop_succ_cons, List.drop_zero]
            obtain ⟨⟨z0, z1, z2⟩, f0, f1, f2⟩ := cells3 rq3
            have HF := Lib.hid (heap_setCells [.int .i64 2, .int .i64 pa, .int .i64 pb] [] [.int .i64 0, .int .i64 0, .int .i64 0] q3 rq3 rfl)
            have HBF := Lib.hid (bq3.grown (setCells_grown (q2.heap.size) [.int .i64 2, .int .i64 pa, .int .i64 pb] q3 0) bq3.size (fun j e => by cases e; omega))
            go_wp2_with fail
            go_meet
            exact ⟨_, rfl, HF.out, below_trans hba HBF.out⟩
          · have HK := Lib.hid hK
            clear hK
            rw [if_pos (by rfl)]
            go_simp
            obtain ⟨q2, hq2⟩ : ∃ z, World.alloc q1 (.cells #[.int .i64 0, .int .i64 0, .int .i64 0] 63) = z := ⟨_, rfl⟩
            have sq2 : Below (q1).heap.size q1 q2 := by rw [← hq2]; exact (Below.refl _ _).alloc (Nat.le_refl _) _
            have bq2 : Below wa.heap.size wa q2 := below_trans bq1 sq2
            have rq2 : (q2).heap[(q1).heap.size]? = some (.cells [.int .i64 0, .int .i64 0, .int .i64 0].toArray 63 (0, 0)) := by rw [← hq2]; exact heap_alloc_new _ _
            have qq2 : wa.heap.size ≤ (q1).heap.size := bq1.size
            rw [hq2]
            refine HK.out _ _ (HSt.out _ bq2) ?_
            clear HK hq2
            refine wpAnyS_one 7 (by kernel_rfl) (by rfl) (by decide) (fun K hK => ?_)
            have HK := Lib.hid hK; clear hK
            rw [if_pos (by rfl)]
            go_simp
            refine (HB.out _ (HhS.out _ bq2)).mono ?_
            rintro e q3 ⟨rfl, sq3⟩
            have bq3 : Below wa.heap.size wa q3 := below_trans bq2 sq3
            refine HK.out _ _ (HSt.out _ bq3) ?_
            clear HK
            have hHeld := HSt.out _ bq3
            refine wpAnyS_takeD 8 (some 76) (.agg #[.int .i64 2, .int .i64 pa, .int .i64 pb]) (by rfl) (by rfl) (by kernel_rfl) (by exact fun _ _ _ h => h) (by rfl) (fun w' hS => by go_simp) hHeld ?_
            simp only [Act.put, List.setIfInBounds_toArray]
            clear hHeld
            have rr := heap_below rq2 sq3 (heap_lt rq2)
            refine (show tailOf _ _ _ _ _ _ _ _ from ⟨by kernel_rfl, ?_⟩)
            simp only [List.drop_succ_cons, List.drop_zero]
            obtain ⟨⟨z0, z1, z2⟩, f0, f1, f2⟩ := cells3 rr
            have HF := Lib.hid (heap_setCells [.int .i64 2, .int .i64 pa, .int .i64 pb] [] [.int .i64 0, .int .i64 0, .int .i64 0] q3 rr rfl)
            have HBF := Lib.hid (bq3.grown (setCells_grown (q1.heap.size) [.int .i64 2, .int .i64 pa, .int .i64 pb] q3 0) bq3.size (fun j e => by cases e; omega))
            go_wp2_with fail
            go_meet
            exact ⟨_, rfl, HF.out, below_trans hba HBF.out⟩
        · have HK := Lib.hid hK
          clear hK
          rw [if_pos (by rfl)]
          go_simp
          obtain ⟨q1, hq1⟩ : ∃ z, World.alloc wa (.cells #[.int .i64 0, .int .i64 0, .int .i64 0] 63) = z := ⟨_, rfl⟩
          have sq1 : Below (wa).heap.size wa q1 := by rw [← hq1]; exact (Below.refl _ _).alloc (Nat.le_refl _) _
          have bq1 : Below wa.heap.size wa q1 := below_trans bwa sq1
          have rq1 : (q1).heap[(wa).heap.size]? = some (.cells [.int .i64 0, .int .i64 0, .int .i64 0].toArray 63 (0, 0)) := by rw [← hq1]; exact heap_alloc_new _ _
          have qq1 : wa.heap.size ≤ (wa).heap.size := bwa.size
          rw [hq1]
          refine HK.out _ _ (HSt.out _ bq1) ?_
          clear HK hq1
          refine wpAnyS_one 3 (by kernel_rfl) (by rfl) (by decide) (fun K hK => ?_)
          have HK := Lib.hid hK; clear hK
          rw [if_pos (by rfl)]
          go_simp
          refine (HA.out _ (HhS.out _ bq1)).mono ?_
          rintro e q2 ⟨rfl, sq2⟩
          have bq2 : Below wa.heap.size wa q2 := below_trans bq1 sq2
          refine HK.out _ _ (HSt.out _ bq2) ?_
          clear HK
          refine wpAnyS_one 7 (by kernel_rfl) (by rfl) (by decide) (fun K hK => ?_)
          have HK := Lib.hid hK; clear hK
          rw [if_pos (by rfl)]
          go_simp
          refine (HB.out _ (HhS.out _ bq2)).mono ?_
          rintro e q3 ⟨rfl, sq3⟩
          have bq3 : Below wa.heap.size wa q3 := below_trans bq2 sq3
          refine HK.out _ _ (HSt.out _ bq3) ?_
          clear HK
          have hHeld := HSt.out _ bq3
          refine wpAnyS_takeD 8 (some 76) (.agg #[.int .i64 2, .int .i64 pa, .int .i64 pb]) (by rfl) (by rfl) (by kernel_rfl) (by exact fun _ _ _ h => h) (by rfl) (fun w' hS => by go_simp) hHeld ?_
          simp only [Act.put, List.setIfInBounds_toArray]
          clear hHeld
          have rr := heap_below (heap_below rq1 sq2 (heap_lt rq1)) sq3 (heap_lt (heap_below rq1 sq2 (heap_lt rq1)))
          refine (show tailOf _ _ _ _ _ _ _ _ from ⟨by kernel_rfl, ?_⟩)
          simp only [List.drop_succ_cons, List.drop_zero]
          obtain ⟨⟨z0, z1, z2⟩, f0, f1, f2⟩ := cells3 rr
          have HF := Lib.hid (heap_setCells [.int .i64 2, .int .i64 pa, .int .i64 pb] [] [.int .i64 0, .int .i64 0, .int .i64 0] q3 rr rfl)
          have HBF := Lib.hid (bq3.grown (setCells_grown (wa.heap.size) [.int .i64 2, .int .i64 pa, .int .i64 pb] q3 0) bq3.size (fun j e => by cases e; omega))
          go_wp2_with fail
          go_meet
          exact ⟨_, rfl, HF.out, below_trans hba HBF.out⟩
      case rest =>
        obtain ⟨b, rfl, hkb, hbc⟩ := hcut
        obtain ⟨⟨m0, m1, m2⟩, _⟩ := cells3 hkb
        have hbwc := below_trans hbZ2 hbc
        have hwrc := below_trans hwr hbwc
        have Hevc := Lib.hid (Hev.out.below hbwc)
        have Hkc := Lib.hid (heap_below Hkr.out hbwc (heap_lt Hkr.out))
        have hmx : missB l x = (decide (pa < 0) || decide (pb < 0)) := by rw [missB, Hpa.out, Hpb.out]
        clear hkb s0 s1
        by_cases c1 : pa < 0 ∨ pb < 0
        case pos =>
          have HG : Hid ((7 : Int) = gatherE l C ∧ (7 : Int) ≠ 0) := Lib.hid ⟨by
            have : C.any (missB l) = true := List.any_eq_true.2 ⟨x, List.mem_of_getElem? Hx.out, by rw [hmx]; rcases c1 with h | h <;> simp [h]⟩
            rw [gatherE, if_pos HEz.out, if_pos ⟨hl24, hC64⟩, if_pos this], by decide⟩
          obtain ⟨⟨e0, e1⟩, g0, g1⟩ := cells2' (show wc.heap[w.heap.size]? = some (.cells #[.slice none 0 0, .slice none 0 0] 57 (0, 0)) from Hkc.out)
          by_cases c2 : pa < 0
          · have t1 : decide (pa < 0) = true := decide_eq_true c2
            clear c1 hmx
            go_wp2_with fail
            exact bodyPost_ret (results_cell_tmp_row rfl _ _ w.heap.size 57 #[.slice none 0 0, .slice none 0 0] (0, 0) _ (by simp) (heap_set2 Hkc.out) Tryz.underlying57 rfl (by kernel_rfl)) rfl (.inr ⟨_, rfl, HG.out, (hwrc).grown (setCells_grown w.heap.size [.slice none 0 0, .slice none 0 0] wc 0) (hwrc).size (fun j e => by cases e; exact Nat.le_refl _)⟩)
          · have t1 : decide (pa < 0) = false := decide_eq_false c2
            have t2 : decide (pb < 0) = true := decide_eq_true (by omega)
            clear c1 hmx
            go_wp2_with fail
            exact bodyPost_ret (results_cell_tmp_row rfl _ _ w.heap.size 57 #[.slice none 0 0, .slice none 0 0] (0, 0) _ (by simp) (heap_set2 Hkc.out) Tryz.underlying57 rfl (by kernel_rfl)) rfl (.inr ⟨_, rfl, HG.out, (hwrc).grown (setCells_grown w.heap.size [.slice none 0 0, .slice none 0 0] wc 0) (hwrc).size (fun j e => by cases e; exact Nat.le_refl _)⟩)
        have t1 : decide (pa < 0) = false := decide_eq_false (by omega)
        have t2 : decide (pb < 0) = false := decide_eq_false (by omega)
        have Hm2 : Hid (missK l C (j + 1)) := Lib.hid (by
          unfold missK
          rw [take_snoc' Hx.out, List.any_append, Hm.out]
          simp [hmx, t1, t2])
        have hss : sameK l C (j + 1) = (sameK l C j || sameB l x) := by rw [sameK, take_snoc' Hx.out, List.any_append]; simp [sameK]
        obtain ⟨D, hD⟩ : ∃ D, (pa == pb) = D := ⟨_, rfl⟩
        have hsx : sameB l x = D := by rw [sameB, Hpa.out, Hpb.out]; exact hD
        rw [hsx] at hss
        obtain ⟨T, hT⟩ : ∃ T, sameK l C j = T := ⟨_, rfl⟩
        rw [hT] at hss ⊢
        have Hss := Lib.hid hss
        have hRe : QS ++ claK l C (j + 1) = QS ++ claK l C j ++ [(⟨2, pa, pb⟩ : Link)] := by
          rw [claK, take_snoc' Hx.out, List.map_append, ← List.append_assoc]
          simp [claP, claK, Hpa.out, Hpb.out]
        have hRl : (QS ++ claK l C j).length ≤ 1216 := by rw [claK, List.length_append, List.length_map, List.length_take]; omega
        obtain ⟨R, hR⟩ : ∃ R, QS ++ claK l C j = R := ⟨_, rfl⟩
        rw [hR] at hRe hRl Hevc
        have HRe := Lib.hid hRe
        obtain ⟨⟨p0, p1⟩, _⟩ := cells2 Hevc.out.row
        have hownc := Hevc.out.own
        have hzc : V2.heap.size ≤ wc.heap.size := Hevc.out.touch.size
        clear c1 hmx hss hsx hT hRe hR
        cases T
        · go_wp2_with (at_builtin; refine wpList_append1 (enc := encL) (size := 3) (B := V2.heap.size) rfl (.tmp 95) (.tmp 97) _ rfl 63 iP _ 24 Tryz.underlying55 hiP hzP hkP hbP rfl (by decide) rfl hownc (⟨2, pa, pb⟩ : Link) _ rfl lenL oneL _ rfl rfl (by omega) (by omega) hzc ?_; intro v' w7 hown' hgrow hat; obtain ⟨Av, cv9, rfl, _⟩ := id hown'.slOf; obtain ⟨nn, hnn⟩ : ∃ nn, (R ++ [(⟨2, pa, pb⟩ : Link)]).length = nn := ⟨_, rfl⟩; rw [hnn] at hown' ⊢; clear hnn hat; obtain ⟨hr7, _⟩ := Hevc.out.grow hgrow; obtain ⟨⟨r0, r1⟩, e0, e1⟩ := cells2' (show w7.heap[w1.heap.size]? = some (.cells #[.slice A l.length c, pv'] 57 (0, 0)) from hr7); have HE7 := Lib.hid (Hevc.out.put hgrow hown'); clear hr7 hgrow)
          go_simp
          refine ⟨?rel, ?measure⟩
          case rel => exact ⟨_, _, _, _, _, ⟨j + 1, by omega, by rw [Hss.out]; rfl, by go_num, Hm2.out, _, by rw [HRe.out]; exact HE7.out⟩, rfl, rfl, rfl, rfl, rfl⟩
          case measure => simp [intOf]; omega
        · go_wp2_with (at_builtin; refine wpList_append1 (enc := encL) (size := 3) (B := V2.heap.size) rfl (.tmp 95) (.tmp 97) _ rfl 63 iP _ 24 Tryz.underlying55 hiP hzP hkP hbP rfl (by decide) rfl hownc (⟨2, pa, pb⟩ : Link) _ rfl lenL oneL _ rfl rfl (by omega) (by omega) hzc ?_; intro v' w7 hown' hgrow hat; obtain ⟨Av, cv9, rfl, _⟩ := id hown'.slOf; obtain ⟨nn, hnn⟩ : ∃ nn, (R ++ [(⟨2, pa, pb⟩ : Link)]).length = nn := ⟨_, rfl⟩; rw [hnn] at hown' ⊢; clear hnn hat; obtain ⟨hr7, _⟩ := Hevc.out.grow hgrow; obtain ⟨⟨r0, r1⟩, e0, e1⟩ := cells2' (show w7.heap[w1.heap.size]? = some (.cells #[.slice A l.length c, pv'] 57 (0, 0)) from hr7); have HE7 := Lib.hid (Hevc.out.put hgrow hown'); clear hr7 hgrow)
          go_simp
          refine ⟨?rel, ?measure⟩
          case rel => exact ⟨_, _, _, _, _, ⟨j + 1, by omega, by rw [Hss.out]; rfl, by go_num, Hm2.out, _, by rw [HRe.out]; exact HE7.out⟩, rfl, rfl, rfl, rfl, rfl⟩
          case measure => simp [intOf]; omega
end Go.Proofs.YtikfffojeakjoaaGreatDoor
/- Chains of proofs, plain: numbers of pieces to a place. No program in sight, no condition. -/
namespace Go.Proofs.YtikfffojeakjoaaGreatDoor
open Go.RowKit

/-- f tells how many pieces lead at least from each place to a place; -1 if none do. -/
structure FarP (P : List Link) (t : Int) (f : Int → Int) : Prop where
  rng : ∀ x, -1 ≤ f x
  zero : f t = 0
  only : ∀ x, f x = 0 → x = t
  pred : ∀ x, 0 < f x → ∃ p ∈ P, p.obv = x ∧ f p.rev = f x - 1
  clo : ∀ p ∈ P, 0 ≤ f p.rev → 0 ≤ f p.obv ∧ f p.obv ≤ f p.rev + 1
section
variable {P : List Link} {t : Int} {f g : Int → Int}
theorem FarP.le (hf : FarP P t f) (hg : FarP P t g) : ∀ (n : Nat) (x : Int), f x = n → 0 ≤ g x ∧ g x ≤ n
  | 0, x, h => by
    have := hf.only x h
    subst this
    rw [hg.zero]; simp
  | n + 1, x, h => by
    obtain ⟨p, hp, h1, h2⟩ := hf.pred x (by omega)
    subst h1
    have ⟨h3, h4⟩ := FarP.le hf hg n p.rev (by omega)
    have ⟨h5, h6⟩ := hg.clo p hp h3
    omega
theorem FarP.uniq (hf : FarP P t f) (hg : FarP P t g) (x : Int) : f x = g x := by
  have h1 := hf.rng x; have h2 := hg.rng x
  by_cases a : 0 ≤ f x
  · obtain ⟨b, c⟩ := FarP.le hf hg (f x).toNat x (by omega)
    obtain ⟨d, e⟩ := FarP.le hg hf (g x).toNat x (by omega)
    omega
  · by_cases b : 0 ≤ g x
    · obtain ⟨d, e⟩ := FarP.le hg hf (g x).toNat x (by omega)
      omega
    · omega
end
/-- The best of some pieces: nearest, then least Id, then least kind. -/
def keyLt (f : Int → Int) (I : Int → Int) (p q : Link) : Bool :=
  decide (f p.rev < f q.rev) || (decide (f p.rev = f q.rev) && (decide (I p.rev < I q.rev) || (decide (I p.rev = I q.rev) && decide (p.id < q.id))))
def candB (f : Int → Int) (x : Int) (p : Link) : Bool := decide (p.obv = x) && decide (0 ≤ f p.rev)
def bestS (f : Int → Int) (I : Int → Int) (x : Int) (b : Option Link) (p : Link) : Option Link :=
  if candB f x p = true then (match b with
    | none => some p
    | some q => if keyLt f I p q = true then some p else some q) else b
def bestF (f : Int → Int) (I : Int → Int) (x : Int) (P : List Link) : Option Link := P.foldl (bestS f I x) none
def BestOf (f : Int → Int) (I : Int → Int) (x : Int) (P : List Link) (p : Link) : Prop := p ∈ P ∧ candB f x p = true ∧ ∀ q ∈ P, candB f x q = true → keyLt f I q p = false
section
variable {P : List Link} {t x : Int} {f I : Int → Int} {p q r : Link}
theorem keyLt_iff : keyLt f I p q = true ↔ f p.rev < f q.rev ∨ (f p.rev = f q.rev ∧ (I p.rev < I q.rev ∨ (I p.rev = I q.rev ∧ p.id < q.id))) := by
  simp [keyLt]
theorem keyLt_no : keyLt f I p q = false ↔ ¬ (f p.rev < f q.rev ∨ (f p.rev = f q.rev ∧ (I p.rev < I q.rev ∨ (I p.rev = I q.rev ∧ p.id < q.id)))) := by
  rw [← keyLt_iff]; simp
theorem cand_iff : candB f x p = true ↔ p.obv = x ∧ 0 ≤ f p.rev := by simp [candB]
theorem BestOf.uniq (hI : ∀ p ∈ P, ∀ q ∈ P, I p.rev = I q.rev → p.rev = q.rev) (h : BestOf f I x P p) (k : BestOf f I x P q) : p = q := by
  have h1 := keyLt_no.1 (h.2.2 q k.1 k.2.1)
  have h2 := keyLt_no.1 (k.2.2 p h.1 h.2.1)
  have h3 := cand_iff.1 h.2.1; have h4 := cand_iff.1 k.2.1
  have e1 : I p.rev = I q.rev := by omega
  have e2 := hI p h.1 q k.1 e1
  have e3 : p.id = q.id := by omega
  cases p; cases q
  simp_all
/-- What the fold keeps. -/
def BestI (f : Int → Int) (I : Int → Int) (x : Int) (P : List Link) (b : Option Link) : Prop :=
  match b with
  | none => ∀ q ∈ P, candB f x q = false
  | some p => BestOf f I x P p
theorem best_snoc {b : Option Link} (h : BestI f I x P b) (p : Link) : BestI f I x (P ++ [p]) (bestS f I x b p) := by
  unfold bestS
  by_cases hc : candB f x p = true
  · rw [if_pos hc]
    cases b with
    | none =>
      refine ⟨by simp, hc, fun q hq hqc => ?_⟩
      rcases List.mem_append.1 hq with hq | hq
      · rw [h q hq] at hqc; cases hqc
      · rw [List.mem_singleton] at hq; subst hq; rw [keyLt_no]; omega
    | some r =>
      show BestI f I x (P ++ [p]) (if keyLt f I p r = true then some p else some r)
      by_cases hk : keyLt f I p r = true
      · rw [if_pos hk]
        refine ⟨by simp, hc, fun q hq hqc => ?_⟩
        rcases List.mem_append.1 hq with hq | hq
        · have h1 := keyLt_no.1 (h.2.2 q hq hqc)
          have h2 := keyLt_iff.1 hk
          rw [keyLt_no]; omega
        · rw [List.mem_singleton] at hq; subst hq; rw [keyLt_no]; omega
      · rw [if_neg hk]
        refine ⟨List.mem_append_left _ h.1, h.2.1, fun q hq hqc => ?_⟩
        rcases List.mem_append.1 hq with hq | hq
        · exact h.2.2 q hq hqc
        · rw [List.mem_singleton] at hq; subst hq; simpa using hk
  · rw [if_neg hc]
    cases b with
    | none =>
      intro q hq
      rcases List.mem_append.1 hq with hq | hq
      · exact h q hq
      · rw [List.mem_singleton] at hq; subst hq; simpa using hc
    | some r =>
      refine ⟨List.mem_append_left _ h.1, h.2.1, fun q hq hqc => ?_⟩
      rcases List.mem_append.1 hq with hq | hq
      · exact h.2.2 q hq hqc
      · rw [List.mem_singleton] at hq; subst hq; exact absurd hqc hc
theorem best_take (f I : Int → Int) (x : Int) (P : List Link) : ∀ k, k ≤ P.length → BestI f I x (P.take k) (bestF f I x (P.take k))
  | 0, _ => by intro q hq; simp at hq
  | k + 1, hk => by
    obtain ⟨p, hp⟩ := get_of_lt (show k < P.length by omega)
    have := best_snoc (best_take f I x P k (by omega)) p
    rw [take_snoc' hp, bestF, List.foldl_append]
    exact this
theorem best_is (f I : Int → Int) (x : Int) (P : List Link) : BestI f I x P (bestF f I x P) := by
  have := best_take f I x P P.length (Nat.le_refl _)
  rwa [List.take_length] at this
/-- A piece with a number leads on. -/
theorem best_next (hf : FarP P t f) (h : 0 < f x) : ∃ p, bestF f I x P = some p ∧ f p.rev = f x - 1 := by
  obtain ⟨r, hr, h1, h2⟩ := hf.pred x h
  have hc : candB f x r = true := cand_iff.2 ⟨h1, by omega⟩
  have hb := best_is f I x P
  cases hB : bestF f I x P with
  | none => rw [hB] at hb; have := hb r hr; rw [hc] at this; cases this
  | some p =>
    rw [hB] at hb
    refine ⟨p, rfl, ?_⟩
    have h3 := keyLt_no.1 (hb.2.2 r hr hc)
    have h4 := cand_iff.1 hb.2.1
    have h5 := (hf.clo p hb.1 h4.2).2
    rw [h4.1] at h5
    omega
end
/-- The chain of the best pieces from a place on. -/
def chainK (f I : Int → Int) (P : List Link) (t : Int) : Nat → Int → List Link
  | 0, _ => []
  | n + 1, x => match bestF f I x P with
    | none => []
    | some p => p :: (if p.rev = t then [] else chainK f I P t n p.rev)
/-- The search for the numbers of pieces, step by step: what a row of numbers and a queue are like. -/
structure BfsP (P : List Link) (t : Int) (f : Int → Int) (Q : List Int) (n : Int) : Prop where
  rng : ∀ x, -1 ≤ f x
  zero : f t = 0
  only : ∀ x, f x = 0 → x = t
  pred : ∀ x, 0 < f x → ∃ p ∈ P, p.obv = x ∧ f p.rev = f x - 1
  nn : 0 ≤ n
  que : ∀ x ∈ Q, n ≤ f x ∧ f x ≤ n + 1
  asc : Q.Pairwise fun x y => f x ≤ f y
  old : ∀ x, 0 ≤ f x → x ∉ Q → f x ≤ n
  clo : ∀ p ∈ P, 0 ≤ f p.rev → p.rev ∉ Q → 0 ≤ f p.obv ∧ f p.obv ≤ f p.rev + 1
def updI (f : Int → Int) (e v : Int) : Int → Int := fun x => if x = e then v else f x
def begI (t : Int) : Int → Int := fun x => if x = t then 0 else -1
section
variable {P : List Link} {t d n : Int} {f : Int → Int} {Q : List Int} {p : Link}
theorem bfsP_start (P : List Link) (t : Int) : BfsP P t (begI t) [t] 0 := by
  have h1 : ∀ x, 0 ≤ begI t x → x = t := fun x h => by
    unfold begI at h
    split at h
    · assumption
    · omega
  have h2 : ∀ x, begI t x ≤ 0 := fun x => by unfold begI; split <;> omega
  refine ⟨fun x => by unfold begI; split <;> omega, by simp [begI], fun x h => h1 x (by omega), fun x h => by have := h2 x; omega, Int.le_refl _, fun x hx => ?_, List.pairwise_singleton _ _, fun x _ _ => h2 x, fun p _ h hq => absurd (by rw [h1 _ h]; simp) hq⟩
  rw [List.mem_singleton] at hx
  subst hx
  simp [begI]
theorem BfsP.add (h : BfsP P t f (d :: Q) n) (hd : f d = n) (hp : p ∈ P) (hr : p.rev = d) (hn : f p.obv < 0) : BfsP P t (updI f p.obv (n + 1)) (d :: (Q ++ [p.obv])) n := by
  have hnn := h.nn
  have hmem : ∀ x ∈ d :: Q, x ≠ p.obv := fun x hx e => by have := (h.que x hx).1; rw [e] at this; omega
  have hin : ∀ x, x ∈ d :: (Q ++ [p.obv]) ↔ x ∈ d :: Q ∨ x = p.obv := fun x => by simp [or_assoc]
  have hv : ∀ x, x ≠ p.obv → updI f p.obv (n + 1) x = f x := fun x hx => if_neg hx
  have he : updI f p.obv (n + 1) p.obv = n + 1 := if_pos rfl
  have hcase : ∀ x, x = p.obv ∨ (x ≠ p.obv ∧ updI f p.obv (n + 1) x = f x) := fun x => by
    by_cases e : x = p.obv
    · exact .inl e
    · exact .inr ⟨e, hv x e⟩
  have ht : t ≠ p.obv := fun e => by have := h.zero; rw [e] at this; omega
  refine ⟨fun x => ?_, by rw [hv t ht]; exact h.zero, fun x hx => ?_, fun x hx => ?_, hnn, fun x hx => ?_, ?_, fun x hx hq => ?_, fun q hq hx hqq => ?_⟩
  · rcases hcase x with rfl | ⟨_, e⟩
    · rw [he]; omega
    · rw [e]; exact h.rng x
  · rcases hcase x with rfl | ⟨_, e⟩
    · rw [he] at hx; omega
    · rw [e] at hx; exact h.only x hx
  · rcases hcase x with rfl | ⟨_, e⟩
    · exact ⟨p, hp, rfl, by rw [he, hr, hv d (hmem d (by simp)), hd]; omega⟩
    · rw [e] at hx
      obtain ⟨q, q1, q2, q3⟩ := h.pred x hx
      have : q.rev ≠ p.obv := fun e' => by rw [e'] at q3; omega
      exact ⟨q, q1, q2, by rw [e, hv _ this, q3]⟩
  · rcases (hin x).1 hx with h1 | h1
    · rw [hv x (hmem x h1)]; exact h.que x h1
    · subst h1; rw [he]; omega
  · rw [← List.cons_append, List.pairwise_append]
    refine ⟨h.asc.imp_of_mem fun {a b} ha hb hab => by rw [hv a (hmem a ha), hv b (hmem b hb)]; exact hab, List.pairwise_singleton _ _, fun a ha b hb => ?_⟩
    rw [List.mem_singleton] at hb
    subst hb
    rw [hv a (hmem a ha), he]
    exact (h.que a ha).2
  · have hq' := fun hm => hq ((hin x).2 hm)
    rw [hv x fun e => hq' (.inr e)] at hx ⊢
    exact h.old x hx fun hm => hq' (.inl hm)
  · have hq' := fun hm => hqq ((hin q.rev).2 hm)
    rw [hv q.rev fun e => hq' (.inr e)] at hx ⊢
    obtain ⟨h1, h2⟩ := h.clo q hq hx fun hm => hq' (.inl hm)
    have : q.obv ≠ p.obv := fun e => by rw [e] at h1; omega
    rw [hv _ this]
    exact ⟨h1, h2⟩
theorem BfsP.pop (h : BfsP P t f (d :: Q) n) (hd : f d = n) (hdone : ∀ p ∈ P, p.rev = d → 0 ≤ f p.obv) : ∃ n', BfsP P t f Q n' ∧ ∀ x Q', Q = x :: Q' → f x = n' := by
  have hle : ∀ x, 0 ≤ f x → f x ≤ n + 1 := fun x hx => by
    by_cases hq : x ∈ d :: Q
    · exact (h.que x hq).2
    · have := h.old x hx hq; omega
  have hclo : ∀ p ∈ P, 0 ≤ f p.rev → p.rev ∉ Q → 0 ≤ f p.obv ∧ f p.obv ≤ f p.rev + 1 := fun p hp h0 hq => by
    by_cases e : p.rev = d
    · have h1 := hdone p hp e
      have := hle _ h1
      rw [e, hd]
      exact ⟨h1, this⟩
    · exact h.clo p hp h0 (by rw [List.mem_cons, not_or]; exact ⟨e, hq⟩)
  have hold : ∀ x, 0 ≤ f x → x ∉ Q → f x ≤ n := fun x hx hq => by
    by_cases e : x = d
    · rw [e, hd]; exact Int.le_refl _
    · exact h.old x hx (by rw [List.mem_cons, not_or]; exact ⟨e, hq⟩)
  have hasc := (List.pairwise_cons.1 h.asc).2
  cases Q with
  | nil => exact ⟨n, ⟨h.rng, h.zero, h.only, h.pred, h.nn, (fun x hx => by cases hx), hasc, hold, hclo⟩, (fun x Q' e => by cases e)⟩
  | cons y Q' =>
    have hy := h.que y (by simp)
    have hnn := h.nn
    refine ⟨f y, ⟨h.rng, h.zero, h.only, h.pred, by omega, fun x hx => ?_, hasc, fun x hx hq => ?_, hclo⟩, fun x Q'' e => by cases e; rfl⟩
    · have h1 := (h.que x (List.mem_cons_of_mem _ hx)).2
      rcases List.mem_cons.1 hx with e | e
      · subst e; omega
      · have := (List.pairwise_cons.1 hasc).1 x e
        omega
    · have := hold x hx hq
      omega
theorem BfsP.far (h : BfsP P t f [] n) : FarP P t f := ⟨h.rng, h.zero, h.only, h.pred, fun p hp h0 => h.clo p hp h0 (by simp)⟩
end
theorem plS_at {l : List Spec} {a : Int} (h : 0 ≤ plS l a) : ∃ (k : Nat) (x : Spec), plS l a = k ∧ l[k]? = some x ∧ x.id = a := by
  by_cases ha : l.all (fun x => !(fun s : Spec => s.id == a) x) = true
  · have h1 : plS l a = -1 := firstI_miss ha
    omega
  · obtain ⟨i, x, h1, h2, h3⟩ := first_hit ha
    exact ⟨i, x, firstI_hit h1 h2 h3, h1, by simpa using h3⟩
/-- Places are the same just if the Ids are. -/
theorem plS_same {l : List Spec} {a b : Int} (ha : 0 ≤ plS l a) : plS l a = plS l b ↔ a = b := by
  constructor
  · intro h
    obtain ⟨k, x, h1, h2, h3⟩ := plS_at ha
    obtain ⟨j, y, h4, h5, h6⟩ := plS_at (l := l) (a := b) (by omega)
    have e : k = j := by omega
    subst e
    rw [h2] at h5
    cases h5
    rw [← h3, h6]
  · intro h; rw [h]
end Go.Proofs.YtikfffojeakjoaaGreatDoor
/- Package precedence: steps in general. Condition: the pieces are between places. -/
namespace Go.Proofs.YtikfffojeakjoaaGreatDoor
open Go.RowKit Go.Maps Go.Shelf

/-- The row of a function of places. -/
def rowF (n : Nat) (f : Int → Int) : List Int := (List.range n).map fun (i : Nat) => f (i : Int)
theorem rowF_get {n i : Nat} (f : Int → Int) (h : i < n) : (rowF n f)[i]? = some (f (i : Int)) := by rw [rowF, List.getElem?_map, List.getElem?_range h]; rfl
theorem rowF_len (n : Nat) (f : Int → Int) : (rowF n f).length = n := by simp [rowF]
theorem rowF_set {n i : Nat} (f : Int → Int) (v : Int) (_h : i < n) : (rowF n f).set i v = rowF n (updI f (i : Int) v) := by
  refine List.ext_getElem? fun j => ?_
  rw [List.getElem?_set, rowF_len]
  by_cases hj : j < n
  · rw [rowF_get f hj, rowF_get _ hj]
    by_cases e : i = j
    · subst e; rw [if_pos rfl, if_pos hj]; simp [updI]
    · have : ¬ (j : Int) = (i : Int) := by omega
      rw [if_neg e]; simp [updI, this]
  · rw [List.getElem?_eq_none (by rw [rowF_len]; omega), List.getElem?_eq_none (by rw [rowF_len]; omega)]
    by_cases e : i = j
    · rw [if_pos e, if_neg (by omega)]
    · rw [if_neg e]
theorem rowF_beg {n t : Nat} (h : t < n) : (List.replicate n (-1 : Int)).set t 0 = rowF n (begI (t : Int)) := by
  have h1 : List.replicate n (-1 : Int) = rowF n (fun _ => -1) := by
    refine List.ext_getElem? fun j => ?_
    rw [List.getElem?_replicate]
    by_cases hj : j < n
    · rw [if_pos hj, rowF_get _ hj]
    · rw [if_neg hj, List.getElem?_eq_none (by rw [rowF_len]; omega)]
  rw [h1, rowF_set _ _ h]
  rfl
def negR (n : Nat) (f : Int → Int) : Nat := ((rowF n f).filter fun x => decide (x < 0)).length
def negW (w : World) (R : Nat) : Nat := match w.heap[R]? with
  | some (.cells cs _ _) => (cs.toList.filter fun v => decide (intOf v < 0)).length
  | _ => 0
theorem negW_of {w : World} {R n : Nat} {f : Int → Int} (h : RowI w R (rowF n f)) : negW w R = negR n f := by
  unfold RowI at h
  unfold negW negR
  rw [h]
  simp only [List.filter_map, List.length_map]
  rfl
theorem filter_set_len {l : List Int} {i : Nat} {a v : Int} (h : l[i]? = some a) (ha : a < 0) (hv : ¬ v < 0) : ((l.set i v).filter fun x => decide (x < 0)).length + 1 = (l.filter fun x => decide (x < 0)).length := by
  induction l generalizing i with
  | nil => simp at h
  | cons x xs ih =>
    cases i with
    | zero =>
      simp at h
      subst h
      simp [ha, hv]
    | succ i =>
      rw [List.set_cons_succ, List.filter_cons, List.filter_cons]
      have := ih (i := i) (by simpa using h)
      split <;> (try simp only [List.length_cons]) <;> omega
theorem negR_upd {n i : Nat} {f : Int → Int} {v : Int} (h : i < n) (hf : f (i : Int) < 0) (hv : 0 ≤ v) : negR n (updI f (i : Int) v) + 1 = negR n f := by
  unfold negR
  rw [← rowF_set f v h]
  exact filter_set_len (rowF_get f h) hf (by omega)
/-- Pieces between the first n places. -/
def PcIn (n : Nat) (P : List Link) : Prop := ∀ p ∈ P, (0 ≤ p.obv ∧ p.obv < n) ∧ 0 ≤ p.rev ∧ p.rev < n
set_option maxHeartbeats 16000000 in
set_option maxRecDepth 100000 in
theorem stepsE_ok (A : Option Addr) (c n t : Nat) (pv : Value) (P : List Link) (ht : t < n) (hn : n ≤ 24) (w : World) (hP : Links w pv P) (hin : PcIn n P) :
    Calls Tryz.prog 18 #[.agg #[.slice A n c, pv], .int .i64 t] w fun e w' => ∃ g f, e = .returned (.slice (some ⟨g, 0, none⟩) n n) ∧ RowI w' g (rowF n f) ∧ (FarP P (t : Int) f ∧ ∀ x, f x ≤ n) ∧ Below w.heap.size w w' := by
  obtain ⟨W, hW, Hz, hbW, hltW, hcx⟩ := boxed w #[.slice A n c, pv] 57
  have a0 := hcx 0 _ rfl; have a1 := hcx 1 _ rfl
  obtain ⟨W1, hW1, HzW1, hbW1, hltW1, hcy⟩ := boxed W #[.int .i64 (-1)] 3
  have hb1 := below_trans hbW hbW1
  have a0' := cell_later hbW1 a0; have a1' := cell_later hbW1 a1
  have HR := Lib.hid (repeat_ok W.heap.size n (by omega) (by omega) W1 (hcy 0 _ rfl))
  have h1 : (t : Int) < (n : Int) := by omega
  have h0 : (0 : Int) ≤ (t : Int) := by omega
  obtain ⟨Ap, cp, rfl, _⟩ := id hP
  have HP := Lib.hid (hP.below hb1); have Hin := Lib.hid hin
  clear hcx hcy hP hin
  go_enter Tryz.func18, Tryz.ntmps18
  go_wp2_with fail
  refine HR.out.mono ?_
  rintro e w3 ⟨rfl, hk3, hb3⟩
  have hr3 : RowI w3 W1.heap.size (List.replicate n (-1)) := by unfold RowI; rw [List.map_replicate]; exact hk3
  obtain ⟨p0, p1⟩ := hr3.cell (k := t) (x := -1) (by rw [List.getElem?_replicate, if_pos ht])
  have hr4 := hr3.set t 0
  rw [rowF_beg ht] at hr4
  obtain ⟨W4, hW4⟩ : ∃ z, w3.setCell ⟨W1.heap.size, t, none⟩ (.int .i64 0) = z := ⟨_, rfl⟩
  rw [hW4] at hr4
  have hb4 : Below W1.heap.size W1 W4 := by rw [← hW4]; exact hb3.grown (setCells_grown W1.heap.size [.int .i64 0] w3 t) hb3.size fun j e => by cases e; exact Nat.le_refl _
  obtain ⟨W5, hW5, HzW5, hbW5, hltW5, _⟩ := boxed W4 #[.int .i64 t] 3
  have hkq : W5.heap[W4.heap.size]? = some (.cells (encI (t : Int)).toArray 3 (0, 0)) := by rw [← hW5]; exact heap_alloc_new _ _
  have Hq0 : Hid (QuK encI 1 3 W4.heap.size W5 (.slice (some ⟨W4.heap.size, 0, none⟩) 1 1) [(t : Int)]) := Lib.hid (Own.qu (own_one (lenI (t : Int)) hkq (Nat.le_refl _)))
  have hb5 := below_trans hb4 hbW5
  have Hr5 := Lib.hid (hr4.below hbW5)
  have hR4 : W1.heap.size < W4.heap.size := hr4.lt
  have a1 := cell_later hb4 a1'
  have hw5 := below_trans hb1 hb5
  have HP5 := Lib.hid (HP.out.below hb5)
  have hT5 : Touch W4 W5 [W1.heap.size] := touch_below hbW5 _
  have hneg0 : negR n (begI (t : Int)) + 1 ≤ n := by
    have h1 := negR_upd (n := n) (i := t) (f := fun _ => -1) (v := 0) ht (by decide) (by decide)
    have h2 : negR n (fun _ => -1) ≤ n := by
      unfold negR
      exact Nat.le_trans (List.length_filter_le _ _) (by rw [rowF_len]; exact Nat.le_refl _)
    have h3 : negR n (begI (t : Int)) + 1 = negR n (fun _ => -1) := h1
    omega
  have Hneg0 := Lib.hid hneg0
  obtain ⟨iI, hiI, hzI, hkI, hbI⟩ := info_parts infoI
  clear hk3 hr3 hr4 hkq a0 a0' a1' HR hW1 hW hb3 hneg0
  go_wp2_with fail
  clear p0 p1 hW4 hW5 h1 h0
  go_loopw [6] (fun qv wr => ∃ (f : Int → Int) (Q : List Int) (m : Int), Hid (BfsP P (t : Int) f Q m) ∧ Hid (∀ x Q', Q = x :: Q' → f x = m) ∧ RowI wr W1.heap.size (rowF n f) ∧ QuK encI 1 3 W4.heap.size wr qv Q ∧ Touch W4 wr [W1.heap.size] ∧ Hid (∀ x ∈ Q, 0 ≤ x ∧ x < n) ∧ Hid (∀ x, f x + (negR n f : Int) ≤ n) ∧ Hid (Q.length + negR n f ≤ n)) (fun qv wr => negW wr W1.heap.size + qLen qv)
  case atStart => exact ⟨begI t, [(t : Int)], 0, Lib.hid (bfsP_start P t), Lib.hid (fun x Q' e => by cases e; simp [begI]), Hr5.out, Hq0.out, hT5, Lib.hid (fun x hx => by rw [List.mem_singleton] at hx; subst hx; omega), Lib.hid (fun x => by have h8 := Hneg0.out; have h9 : begI (t : Int) x ≤ 0 := (by unfold begI; split <;> omega); omega), Lib.hid (by have := Hneg0.out; simp only [List.length_singleton]; omega)⟩
  case round =>
    obtain ⟨f, Q, m, HB, HN, hrow, hqu, hT, HQ, HMb, HQn⟩ := hrel
    have hwr : Below W1.heap.size W1 wr := ((touch_below hb4 [W1.heap.size]).trans hT).below (by simp) (Nat.le_refl _)
    have hwrw := below_trans hb1 hwr
    cases Q with
    | nil =>
      obtain ⟨Aq, cq, rfl⟩ := hqu.nil
      have HF := Lib.hid (And.intro HB.out.far (fun x => (show f x ≤ (n : Int) from by have := HMb.out x; omega)))
      have Hrow := Lib.hid hrow
      clear hqu hT hrow
      go_wp2_with fail
      go_ret
      exact ⟨_, f, rfl, Hrow.out, HF.out, hwrw⟩
    | cons d Q =>
      obtain ⟨gq, off, cap, rfl, hcm, hlc, _, _, _, _, _⟩ := hqu.head lenI
      have a1r := cell_off hT (a := ⟨w.heap.size, 1, none⟩) (by simp; omega) a1
      have HW0 : Hid (negW wr W1.heap.size = negR n f) := Lib.hid (negW_of hrow)
      have Hst := Lib.hid (And.intro hrow (And.intro hqu hT))
      clear hcm hlc hrow hqu hT
      go_wp2_with fail
      clear a1r
      go_loopw [6, 27] (fun qv i wr => ∃ (j : Nat) (f' : Int → Int) (Q' : List Int), j ≤ P.length ∧ i = .int .i64 j ∧ Hid (BfsP P (t : Int) f' (d :: Q') m) ∧ Hid (f' d = m) ∧ Hid (∀ p ∈ P.take j, p.rev = d → 0 ≤ f' p.obv) ∧ RowI wr W1.heap.size (rowF n f') ∧ QuK encI 1 3 W4.heap.size wr qv (d :: Q') ∧ Touch W4 wr [W1.heap.size] ∧ Hid (∀ x ∈ d :: Q', 0 ≤ x ∧ x < n) ∧ Hid (negR n f' + Q'.length = negR n f + Q.length) ∧ Hid (∀ x, f' x + (negR n f' : Int) ≤ n)) (fun _ i _ => P.length - (intOf i).toNat)
      case atStart => exact ⟨0, f, Q, Nat.zero_le _, rfl, HB, Lib.hid (HN.out d Q rfl), Lib.hid (fun p hp => by simp at hp), Hst.out.1, Hst.out.2.1, Hst.out.2.2, HQ, Lib.hid rfl, HMb⟩
      case round =>
        obtain ⟨wt, hwt0⟩ : ∃ z, z = wr := ⟨_, rfl⟩
        subst hwt0
        clear HB HN HQ Hst hwr hwrw HMb
        obtain ⟨j, f', Q', hj, rfl, HB, Hd, Hdone, hrow, hqu, hT, HQ, Hms, HMb⟩ := hrel
        have hwr : Below W1.heap.size W1 wt := ((touch_below hb4 [W1.heap.size]).trans hT).below (by simp) (Nat.le_refl _)
        obtain ⟨gq', off', cap', rfl, hcm, hlc, _, _, hqc, hq1, hq2⟩ := hqu.head lenI
        by_cases hlt : j < P.length
        case neg =>
          obtain ⟨m', hB', hN'⟩ := HB.out.pop Hd.out (fun p hp hpd => Hdone.out p (by rw [List.take_of_length_le (by omega)]; exact hp) hpd)
          have HB2 := Lib.hid hB'; have HN2 := Lib.hid hN'
          have HQ2 : Hid (∀ x ∈ Q', 0 ≤ x ∧ x < n) := Lib.hid fun x hx => HQ.out x (List.mem_cons_of_mem _ hx)
          have Hrow := Lib.hid hrow; have HT := Lib.hid hT
          have HW1 : Hid (negW wt W1.heap.size = negR n f') := Lib.hid (negW_of hrow)
          by_cases hc0 : cap' = 0
          · subst hc0
            obtain ⟨rfl, hqn⟩ := hq2 rfl
            have Hqn := Lib.hid hqn
            clear hq1 hq2 hqc hqu hrow hT hB' hN' hcm hqn
            go_wp2_with fail
            refine ⟨?rel, ?measure⟩
            case rel => exact ⟨f', [], m', HB2, HN2, Hrow.out, Hqn.out, HT.out, HQ2, HMb, Lib.hid (by have e3 := Hms.out; have e4 := HQn.out; simp only [List.length_cons, List.length_nil] at e3 e4 ⊢; omega)⟩
            case measure =>
              have e1 := HW1.out; have e2 := HW0.out; have e3 := Hms.out
              simp [qLen] at e3 ⊢
              omega
          · have Hqn := Lib.hid (hq1 (by omega))
            have hc1 : 0 < cap' := by omega
            have hc2 : (1 : Int) ≤ (cap' : Int) + 1 := by omega
            clear hq1 hq2 hqc hqu hrow hT hB' hN' hcm
            go_wp2_with fail
            refine ⟨?rel, ?measure⟩
            case rel => exact ⟨f', Q', m', HB2, HN2, Hrow.out, Hqn.out, HT.out, HQ2, HMb, Lib.hid (by have e3 := Hms.out; have e4 := HQn.out; simp only [List.length_cons] at e4; omega)⟩
            case measure =>
              have e1 := HW1.out; have e2 := HW0.out; have e3 := Hms.out
              simp [qLen] at e3 ⊢
              omega
        obtain ⟨x, hx⟩ := get_of_lt hlt
        obtain ⟨_, _, ex, _, _, hpc⟩ := HP.out.cells
        cases ex
        obtain ⟨bp, op, rfl, _, hpb⟩ := hpc j hlt
        obtain ⟨y0, y1, y2⟩ := hpb wt hwr j x hx
        obtain ⟨⟨hf0, hfn⟩, hr0, hrn⟩ := Hin.out x (List.mem_of_getElem? hx)
        obtain ⟨fi, hfi⟩ : ∃ i : Nat, x.obv = i := ⟨x.obv.toNat, by omega⟩
        obtain ⟨ti, hti⟩ : ∃ i : Nat, x.rev = i := ⟨x.rev.toNat, by omega⟩
        have hfin : fi < n := by omega
        have htin : ti < n := by omega
        have hWt : W1.heap.size < wt.heap.size := hrow.lt
        obtain ⟨Z1, Z2, hZ1, hZ2, HzZ2, hkZ1, hkZ2, hbZ2, hltZ2⟩ := fresh wt [.int .i64 0, .int .i64 0, .int .i64 0] [.int .i64 x.id, .int .i64 x.obv, .int .i64 x.rev] 63 rfl
        have hsZ2 : ((Z1.setCell ⟨wt.heap.size, 0, none⟩ (.int .i64 x.id)).setCell ⟨wt.heap.size, 1, none⟩ (.int .i64 x.obv)).setCell ⟨wt.heap.size, 2, none⟩ (.int .i64 x.rev) = Z2 := hZ2
        clear hZ2
        obtain ⟨⟨z0, z1, z2⟩, f0, f1, f2⟩ := cells3 hkZ1
        obtain ⟨⟨s0, s1, s2⟩, _⟩ := cells3 hkZ2
        have hrow2 := hrow.below hbZ2
        have q0 := cell_later hbZ2 (hqc 0 _ rfl)
        simp only [Nat.add_zero] at q0
        obtain ⟨F, hF⟩ : ∃ F, f' (fi : Int) = F := ⟨_, rfl⟩
        have c0 := (hrow2.cell (rowF_get f' hfin)).1
        rw [hF] at c0
        have Hrow2 := Lib.hid hrow2; have Hqu := Lib.hid hqu; have HT2 := Lib.hid (hT.trans (touch_below hbZ2 [W1.heap.size]))
        have HkZ2 := Lib.hid hkZ2
        have Hx := Lib.hid hx; have HF := Lib.hid hF
        have hj1 : (j : Int) < (P.length : Int) := by omega
        have hj0 : (0 : Int) ≤ (j : Int) := by omega
        have hfi1 : (fi : Int) < (n : Int) := by omega
        have hfi0 : (0 : Int) ≤ (fi : Int) := by omega
        have hti1 : (ti : Int) < (n : Int) := by omega
        have hti0 : (0 : Int) ≤ (ti : Int) := by omega
        rw [hfi] at y1 s1 hsZ2
        rw [hti] at y2 s2 hsZ2
        have Hfi := Lib.hid hfi; have Hti := Lib.hid hti
        clear hpc hpb hx hkZ1 hkZ2 hrow2 hrow hqu hT hqc hq1 hq2 hF hf0 hfn hr0 hrn hfi hti
        have S0 := Later.cell_all s0; have S1 := Later.cell_all s1; have S2 := Later.cell_all s2; have Q0 := Later.cell_all q0; have C0 := Later.cell_all c0
        have hdone : ∀ (b : Bool), ((ti : Int) == d) = b → (b = true → 0 ≤ F) → ∀ p ∈ P.take (j + 1), p.rev = d → 0 ≤ f' p.obv := fun b hb hbF p hp hpd => by
          rw [take_snoc' Hx.out, List.mem_append, List.mem_singleton] at hp
          rcases hp with hp | rfl
          · exact Hdone.out p hp hpd
          · rw [Hfi.out, HF.out]
            refine hbF ?_
            rw [← hb, ← Hti.out, hpd]; simp
        have HDn := Lib.hid hdone
        obtain ⟨T1, hT1⟩ : ∃ T, ((ti : Int) == d) = T := ⟨_, rfl⟩
        have HT1 := Lib.hid hT1
        clear hdone
        cases T1
        case false =>
          have HD2 := Lib.hid (HDn.out false HT1.out (fun h => by cases h))
          go_wp2_with fail
          refine wp_region_later (by kernel_rfl) (by kernel_rfl) ?_
          repeat (go_big_quiet_step (first | fail))
          refine wpQuiet_nil ?_
          intro _ hw'
          obtain ⟨xq, hw''⟩ := hw'
          subst hw''
          have hbq := xq.h
          generalize xq.to = wq at hbq ⊢
          clear S0 S1 S2 Q0 C0 s0 s1 s2 q0 c0 z0 z1 z2 f0 f1 f2
          go_wp2_with fail
          refine ⟨?rel, ?measure⟩
          case rel => exact ⟨j + 1, f', Q', by omega, by go_num, HB, Hd, HD2, Hrow2.out.below hbq, (Hqu.out.below hbZ2).below hbq, HT2.out.trans (touch_below hbq _), HQ, Hms, HMb⟩
          case measure => first | (simp [intOf]; done) | (simp [intOf]; omega)
        by_cases hFn : F < 0
        case neg =>
          have t2 : decide (F < 0) = false := decide_eq_false hFn
          have HD2 := Lib.hid (HDn.out true HT1.out (fun _ => by omega))
          go_wp2_with fail
          refine wp_region_later (by kernel_rfl) (by kernel_rfl) ?_
          repeat (go_big_quiet_step (first | fail))
          refine wpQuiet_nil ?_
          intro _ hw'
          obtain ⟨xq, hw''⟩ := hw'
          subst hw''
          have hbq := xq.h
          generalize xq.to = wq at hbq ⊢
          clear S0 S1 S2 Q0 C0 s0 s1 s2 q0 c0 z0 z1 z2 f0 f1 f2
          go_wp2_with fail
          refine ⟨?rel, ?measure⟩
          case rel => exact ⟨j + 1, f', Q', by omega, by go_num, HB, Hd, HD2, Hrow2.out.below hbq, (Hqu.out.below hbZ2).below hbq, HT2.out.trans (touch_below hbq _), HQ, Hms, HMb⟩
          case measure => first | (simp [intOf]; done) | (simp [intOf]; omega)
        have t2 : decide (F < 0) = true := decide_eq_true hFn
        go_wp2_with fail
        refine wp_region_later (by kernel_rfl) (by kernel_rfl) ?_
        repeat (go_big_quiet_step (first | fail))
        refine wpQuiet_nil ?_
        intro _ hw'
        obtain ⟨xq, hw''⟩ := hw'
        subst hw''
        have hbq := xq.h
        generalize xq.to = wq at hbq ⊢
        clear S0 S1 S2 Q0 C0 z0 z1 z2 f0 f1 f2 q0 c0
        have hdt : (ti : Int) = d := by simpa using HT1.out
        subst hdt
        have hmb := HMb.out (ti : Int)
        have hm0 := HB.out.nn
        rw [Hd.out] at hmb
        have hba : Below wq.heap.size wq wq.drew := (Below.refl _ _).drew
        obtain ⟨wa, hwa⟩ : ∃ W, wq.drew = W := ⟨_, rfl⟩
        rw [hwa] at hba
        have hZa := below_trans hbq hba
        have s1 := cell_later hZa s1; have s2 := cell_later hZa s2
        have hrowa := Hrow2.out.below hZa
        obtain ⟨c0, g0⟩ := hrowa.cell (rowF_get f' hfin)
        obtain ⟨c1, g1⟩ := hrowa.cell (rowF_get f' htin)
        rw [Hd.out] at c1
        rw [HF.out] at c0
        have hRn := hrowa.set fi (m + 1)
        rw [rowF_set _ _ hfin] at hRn
        obtain ⟨W7, hW7⟩ : ∃ z, wa.setCell ⟨W1.heap.size, fi, none⟩ (.int .i64 (m + 1)) = z := ⟨_, rfl⟩
        rw [hW7] at hRn
        have hT7 : Touch wa W7 [W1.heap.size] := by rw [← hW7]; exact touch_set (a := ⟨W1.heap.size, fi, none⟩) rfl (by simp)
        have hZR : wt.heap.size ∉ [W1.heap.size] := by simp; omega
        have s17 := cell_off hT7 (a := ⟨wt.heap.size, 1, none⟩) hZR s1
        have hadd := HB.out.add (p := x) Hd.out (List.mem_of_getElem? Hx.out) (by rw [Hti.out]) (by rw [Hfi.out, HF.out]; exact hFn)
        rw [Hfi.out] at hadd
        have HAdd := Lib.hid hadd
        have hqa := ((Hqu.out.below hbZ2).below hZa).touch hT7 (fun b hb => by rw [List.mem_singleton] at hb; subst hb; exact hR4)
        have HTa := Lib.hid ((HT2.out.trans (touch_below hZa _)).trans hT7)
        have Hqa := Lib.hid hqa; have HRn := Lib.hid hRn
        have hz7 : W4.heap.size ≤ W7.heap.size := HTa.out.size
        have hmm : m ≤ 24 := by omega
        clear hrowa hRn hT7 hadd hmb
        go_wp2_with fail
        go_region
        have hQ'l : Q'.length ≤ 24 := by have e3 := Hms.out; have e4 := HQn.out; simp only [List.length_cons] at e4; omega
        have hqa7 := Hqa.out
        clear c0 c1 g0 g1 s1 s2
        go_wp2_with (at_builtin; refine wpList_appendQu rfl (.tmp 55) (.tmp 58) _ rfl iI _ 8 Tryz.underlying28 hiI hzI hkI hbI rfl (by decide) lenI oneI rfl hqa7 (fi : Int) _ rfl _ rfl rfl (by simp only [List.length_cons]; omega) (by simp only [List.length_cons]; omega) hz7 ?_; intro v' w8 hq8 hg8 hat8)
        have hne : (ti : Int) ≠ (fi : Int) := fun e => by
          have h1 := Hd.out
          rw [e, HF.out] at h1
          omega
        have HdN : Hid (updI f' (fi : Int) (m + 1) (ti : Int) = m) := Lib.hid (by rw [updI, if_neg hne]; exact Hd.out)
        have HDoneN : Hid (∀ p ∈ P.take (j + 1), p.rev = (ti : Int) → 0 ≤ updI f' (fi : Int) (m + 1) p.obv) := Lib.hid fun p hp hpd => by
          unfold updI
          split
          · omega
          · rename_i hno
            rw [take_snoc' Hx.out, List.mem_append, List.mem_singleton] at hp
            rcases hp with hp | rfl
            · exact Hdone.out p hp hpd
            · exact absurd Hfi.out hno
        have hnr := negR_upd (n := n) (i := fi) (f := f') (v := m + 1) hfin (by rw [HF.out]; exact hFn) (by omega)
        have HMsN : Hid (negR n (updI f' (fi : Int) (m + 1)) + (Q' ++ [(fi : Int)]).length = negR n f + Q.length) := Lib.hid (by have e3 := Hms.out; simp only [List.length_append, List.length_singleton]; omega)
        have HMbN : Hid (∀ x, updI f' (fi : Int) (m + 1) x + (negR n (updI f' (fi : Int) (m + 1)) : Int) ≤ n) := Lib.hid fun y => by
          have h1 := HMb.out (ti : Int)
          have h2 := HMb.out y
          rw [Hd.out] at h1
          unfold updI at hnr ⊢
          split <;> omega
        have HQN : Hid (∀ y ∈ (ti : Int) :: (Q' ++ [(fi : Int)]), 0 ≤ y ∧ y < n) := Lib.hid fun y hy => by
          rcases List.mem_cons.1 hy with rfl | hy
          · omega
          · rcases List.mem_append.1 hy with hy | hy
            · exact HQ.out y (List.mem_cons_of_mem _ hy)
            · rw [List.mem_singleton] at hy; subst hy; omega
        have HrN : Hid (RowI w8 W1.heap.size (rowF n (updI f' (fi : Int) (m + 1)))) := Lib.hid ((hg8.block W1.heap.size HRn.out.lt (fun e => by have := (Hqa.out.lt W1.heap.size e.symm).1; omega)).trans HRn.out)
        have HTN := Lib.hid (HTa.out.trans_own hg8 fun j' e => (Hqa.out.lt j' e).1)
        refine ⟨?rel, ?measure⟩
        case rel => exact ⟨j + 1, _, _, by omega, by go_num, HAdd, HdN, HDoneN, HrN.out, hq8, HTN.out, HQN, HMsN, HMbN⟩
        case measure => simp [intOf]; omega
end Go.Proofs.YtikfffojeakjoaaGreatDoor
/- Why, plain: what a chain of proofs is; rounds of numbers. No program in sight, no condition. -/
namespace Go.Proofs.YtikfffojeakjoaaGreatDoor
open Go.RowKit

theorem mem_row {o : Int} {s : Spec} {i : Nat} {l : List Spec} {p : Pair} (h : p ∈ rowW o s i l) : p.a = i ∧ 0 ≤ p.b ∧ p.b < l.length := by
  unfold rowW at h
  obtain ⟨⟨y, j⟩, h1, h2⟩ := List.mem_filterMap.1 h
  split at h2
  · cases h2
    have := lt_of_get (List.mem_zipIdx_iff_getElem?.1 h1)
    exact ⟨rfl, by simp, by simpa using this⟩
  · cases h2
theorem mem_arcs {o : Int} {l : List Spec} {p : Pair} (h : p ∈ arcsW o l l) : (0 ≤ p.a ∧ p.a < l.length) ∧ 0 ≤ p.b ∧ p.b < l.length := by
  unfold arcsW at h
  obtain ⟨⟨y, j⟩, h1, h2⟩ := List.mem_flatMap.1 h
  obtain ⟨h3, h4⟩ := mem_row h2
  have := lt_of_get (List.mem_zipIdx_iff_getElem?.1 h1)
  have h5 : j < l.length := by simpa using this
  exact ⟨by omega, h4⟩
theorem plS_lt {l : List Spec} {a : Int} (h : 0 ≤ plS l a) : plS l a < l.length := by
  obtain ⟨k, x, h1, h2, _⟩ := plS_at h
  have := lt_of_get h2
  omega
theorem gather_zero {l : List Spec} {C : List Pair} (h : gatherE l C = 0) : checkE l = 0 ∧ l.length ≤ 24 ∧ C.length ≤ 64 ∧ C.any (missB l) = false ∧ C.any (sameB l) = false := by
  unfold gatherE at h
  split at h
  · rename_i h1
    split at h
    · rename_i h2
      split at h
      · cases h
      · rename_i h3
        split at h
        · cases h
        · rename_i h4
          exact ⟨h1, h2.1, h2.2, by simpa using h3, by simpa using h4⟩
    · cases h
  · rename_i h1; exact absurd h h1
theorem miss_no {l : List Spec} {c : Pair} (h : missB l c = false) : 0 ≤ plS l c.a ∧ 0 ≤ plS l c.b := by
  unfold missB at h
  rw [Bool.or_eq_false_iff, decide_eq_false_iff_not, decide_eq_false_iff_not] at h
  omega
theorem any_no {α : Type} {p : α → Bool} {xs : List α} (h : xs.any p = false) {x : α} (hx : x ∈ xs) : p x = false := by
  cases hp : p x
  · rfl
  · have := List.any_eq_true.2 ⟨x, hx, hp⟩
    rw [h] at this; cases this
theorem pieces_mem {l : List Spec} {C : List Pair} (hg : gatherE l C = 0) {p : Link} (h : p ∈ piecesS l C) : ((0 ≤ p.obv ∧ p.obv < l.length) ∧ 0 ≤ p.rev ∧ p.rev < l.length) ∧ 0 ≤ p.id ∧ p.id ≤ 2 := by
  obtain ⟨_, _, _, hm, _⟩ := gather_zero hg
  unfold piecesS sidesS at h
  rw [List.mem_append, List.mem_append, List.mem_map, List.mem_map, List.mem_map] at h
  rcases h with (⟨q, h1, rfl⟩ | ⟨q, h1, rfl⟩) | ⟨c, h1, rfl⟩
  · exact ⟨mem_arcs h1, by simp [arcP]⟩
  · exact ⟨mem_arcs h1, by simp [arcP]⟩
  · obtain ⟨h2, h3⟩ := miss_no (any_no hm h1)
    exact ⟨⟨⟨h2, plS_lt h2⟩, h3, plS_lt h3⟩, by simp [claP]⟩
theorem pieces_in {l : List Spec} {C : List Pair} (hg : gatherE l C = 0) : PcIn l.length (piecesS l C) := fun _ h => (pieces_mem hg h).1
/-- The Id at a place. -/
def idAt (l : List Spec) (x : Int) : Int := ((l[x.toNat]?).map Spec.id).getD 0
theorem idAt_get {l : List Spec} {k : Nat} {s : Spec} (h : l[k]? = some s) : idAt l (k : Int) = s.id := by simp [idAt, h]
theorem idAt_pl {l : List Spec} {a : Int} (h : 0 ≤ plS l a) : idAt l (plS l a) = a := by
  obtain ⟨k, x, h1, h2, h3⟩ := plS_at h
  rw [h1, idAt_get h2, h3]
theorem idAt_inj {l : List Spec} (hd : (l.map Spec.id).Nodup) {x y : Int} (hx : 0 ≤ x ∧ x < l.length) (hy : 0 ≤ y ∧ y < l.length) (h : idAt l x = idAt l y) : x = y := by
  obtain ⟨i, rfl⟩ : ∃ i : Nat, x = i := ⟨x.toNat, by omega⟩
  obtain ⟨j, rfl⟩ : ∃ i : Nat, y = i := ⟨y.toNat, by omega⟩
  obtain ⟨s, hs⟩ := get_of_lt (show i < l.length by omega)
  obtain ⟨t, ht⟩ := get_of_lt (show j < l.length by omega)
  rw [idAt_get hs, idAt_get ht] at h
  have h1 : (l.map Spec.id)[i]? = some s.id := by rw [List.getElem?_map, hs]; rfl
  have h2 : (l.map Spec.id)[j]? = some t.id := by rw [List.getElem?_map, ht]; rfl
  rw [← h] at h2
  have h3 : i = j := (List.getElem?_inj (lt_of_get h1) hd).1 (h1.trans h2.symm)
  omega
theorem idAt_mem {l : List Spec} {x : Int} (hx : 0 ≤ x ∧ x < l.length) : idAt l x ∈ l.map Spec.id := by
  obtain ⟨i, rfl⟩ : ∃ i : Nat, x = i := ⟨x.toNat, by omega⟩
  obtain ⟨s, hs⟩ := get_of_lt (show i < l.length by omega)
  rw [idAt_get hs]
  exact List.mem_map.2 ⟨s, List.mem_of_getElem? hs, rfl⟩
theorem pl_idAt {l : List Spec} (hd : (l.map Spec.id).Nodup) {x : Int} (hx : 0 ≤ x ∧ x < l.length) : plS l (idAt l x) = x := by
  have hp : 0 ≤ plS l (idAt l x) := by
    obtain ⟨s, hs, he⟩ := List.mem_map.1 (idAt_mem hx)
    by_cases ha : l.all (fun x' => !(fun s : Spec => s.id == idAt l x) x') = true
    · have := List.all_eq_true.1 ha s hs
      simp [he] at this
    · obtain ⟨i, y, h1, h2, h3⟩ := first_hit ha
      have : plS l (idAt l x) = i := firstI_hit h1 h2 h3
      omega
  exact idAt_inj hd ⟨hp, plS_lt hp⟩ hx (idAt_pl hp)
/-- A piece as a proof: kind, from Id, to Id. -/
def prfL (l : List Spec) (p : Link) : Link := ⟨p.id, idAt l p.obv, idAt l p.rev⟩
section
variable {P : List Link} {t x : Int} {f I : Int → Int} {p q : Link} {n : Nat}
theorem chain_some (h : bestF f I x P = some p) : chainK f I P t (n + 1) x = p :: (if p.rev = t then [] else chainK f I P t n p.rev) := by rw [chainK, h]
theorem chain_none (h : bestF f I x P = none) : chainK f I P t n x = [] := by
  cases n with
  | zero => rfl
  | succ n => rw [chainK, h]
theorem best_mem (h : bestF f I x P = some p) : p ∈ P ∧ p.obv = x ∧ 0 ≤ f p.rev := by
  have hb := best_is f I x P
  rw [h] at hb
  exact ⟨hb.1, cand_iff.1 hb.2.1⟩
theorem chain_mem : ∀ (n : Nat) (x : Int), q ∈ chainK f I P t n x → q ∈ P
  | 0, _, h => by simp [chainK] at h
  | n + 1, x, h => by
    cases hb : bestF f I x P with
    | none => rw [chain_none hb] at h; simp at h
    | some p =>
      rw [chain_some hb, List.mem_cons] at h
      rcases h with rfl | h
      · exact (best_mem hb).1
      · split at h
        · simp at h
        · exact chain_mem n _ h
theorem chain_end (hf : FarP P t f) : ∀ (n : Nat) (x : Int), 0 < f x → f x ≤ n → ∃ q ∈ chainK f I P t n x, q.rev = t
  | 0, x, h1, h2 => by omega
  | n + 1, x, h1, h2 => by
    obtain ⟨p, hp, h3⟩ := best_next (I := I) hf h1
    rw [chain_some hp]
    by_cases e : p.rev = t
    · exact ⟨p, by simp, e⟩
    · have h4 : f p.rev ≠ 0 := fun h => e (hf.only _ h)
      obtain ⟨q, h5, h6⟩ := chain_end hf n p.rev (by omega) (by omega)
      exact ⟨q, by rw [if_neg e]; exact List.mem_cons_of_mem _ h5, h6⟩
theorem chain_ends (hf : FarP P t f) (hn : ∀ x, f x ≤ n) (h : bestF f I x P = some p) : (∃ q ∈ chainK f I P t (n + 1) x, q.obv = x) ∧ ∃ q ∈ chainK f I P t (n + 1) x, q.rev = t := by
  rw [chain_some h]
  obtain ⟨h1, h2, h3⟩ := best_mem h
  refine ⟨⟨p, by simp, h2⟩, ?_⟩
  by_cases e : p.rev = t
  · exact ⟨p, by simp, e⟩
  · have h4 : f p.rev ≠ 0 := fun h => e (hf.only _ h)
    obtain ⟨q, h5, h6⟩ := chain_end (I := I) hf n p.rev (by omega) (hn _)
    exact ⟨q, by rw [if_neg e]; exact List.mem_cons_of_mem _ h5, h6⟩
theorem FarP.same (hf : FarP P t f) {g : Int → Int} (hg : FarP P t g) : f = g := funext (hf.uniq hg)
end
/-- What a chain of proofs is: the error and the list. -/
def WhyR (l : List Spec) (C : List Pair) (a b E : Int) (L : List Link) : Prop :=
  (gatherE l C ≠ 0 ∧ E = gatherE l C ∧ L = []) ∨
  (gatherE l C = 0 ∧ ((plS l a < 0 ∨ plS l b < 0) ∧ E = 7 ∧ L = [])) ∨
  (gatherE l C = 0 ∧ (0 ≤ plS l a ∧ 0 ≤ plS l b) ∧ ∃ f, (FarP (piecesS l C) (plS l b) f ∧ ∀ x, f x ≤ 24) ∧
    ((bestF f (idAt l) (plS l a) (piecesS l C) = none ∧ E = 7 ∧ L = []) ∨
      ((∃ p, bestF f (idAt l) (plS l a) (piecesS l C) = some p) ∧ E = 0 ∧ L = (chainK f (idAt l) (piecesS l C) (plS l b) 26 (plS l a)).map (prfL l))))
theorem WhyR.uniq {l : List Spec} {C : List Pair} {a b E E' : Int} {L L' : List Link} (h : WhyR l C a b E L) (k : WhyR l C a b E' L') : E = E' ∧ L = L' := by
  rcases h with ⟨h1, h2, h3⟩ | ⟨h1, h2, h3, h4⟩ | ⟨h1, ⟨h2, h3⟩, f, ⟨hf, _⟩, h4⟩
  · rcases k with ⟨k1, k2, k3⟩ | ⟨k1, _⟩ | ⟨k1, _⟩
    · exact ⟨by rw [h2, k2], by rw [h3, k3]⟩
    · exact absurd k1 h1
    · exact absurd k1 h1
  · rcases k with ⟨k1, _⟩ | ⟨k1, k2, k3, k4⟩ | ⟨k1, ⟨k2, k3⟩, _⟩
    · exact absurd h1 k1
    · exact ⟨by rw [h3, k3], by rw [h4, k4]⟩
    · omega
  · rcases k with ⟨k1, _⟩ | ⟨k1, k2, k3, k4⟩ | ⟨k1, ⟨k2, k3⟩, g, ⟨hg, _⟩, k4⟩
    · exact absurd h1 k1
    · omega
    · have e := hf.same hg
      subst e
      rcases h4 with ⟨h5, h6, h7⟩ | ⟨⟨p, h5⟩, h6, h7⟩
      · rcases k4 with ⟨k5, k6, k7⟩ | ⟨⟨p, k5⟩, k6, k7⟩
        · exact ⟨by rw [h6, k6], by rw [h7, k7]⟩
        · rw [h5] at k5; cases k5
      · rcases k4 with ⟨k5, k6, k7⟩ | ⟨⟨p, k5⟩, k6, k7⟩
        · rw [h5] at k5; cases k5
        · exact ⟨by rw [h6, k6], by rw [h7, k7]⟩
/-- The Ids of a chain. -/
def whyIds (L : List Link) : List Int := L.flatMap fun p => [p.obv, p.rev]
theorem whyIds_mem {L : List Link} {n : Int} : n ∈ whyIds L ↔ ∃ p ∈ L, p.obv = n ∨ p.rev = n := by
  unfold whyIds
  rw [List.mem_flatMap]
  constructor
  · rintro ⟨p, h1, h2⟩
    simp at h2
    exact ⟨p, h1, by rcases h2 with rfl | rfl <;> simp⟩
  · rintro ⟨p, h1, h2⟩
    exact ⟨p, h1, by simp; rcases h2 with rfl | rfl <;> simp⟩
/-- A chain's Ids are Ids of the list, and the two are among them. -/
theorem WhyR.ids {l : List Spec} {C : List Pair} {a b E : Int} {L : List Link} (h : WhyR l C a b E L) :
    (∀ n ∈ whyIds L, n ∈ l.map Spec.id) ∧ (E = 0 → checkE l = 0 ∧ a ∈ whyIds L ∧ b ∈ whyIds L) ∧ (E ≠ 0 → L = []) := by
  rcases h with ⟨h1, h2, h3⟩ | ⟨h1, h2, h3, h4⟩ | ⟨h1, ⟨h2, h3⟩, f, ⟨hf, hfn⟩, h4⟩
  · subst h3; exact ⟨by simp [whyIds], fun e => absurd (h2.symm.trans e) h1, fun _ => rfl⟩
  · subst h4; exact ⟨by simp [whyIds], fun e => by omega, fun _ => rfl⟩
  · rcases h4 with ⟨h5, h6, h7⟩ | ⟨⟨p, h5⟩, h6, h7⟩
    · subst h7; exact ⟨by simp [whyIds], fun e => by omega, fun _ => rfl⟩
    · subst h7
      obtain ⟨⟨q, q1, q2⟩, r, r1, r2⟩ := chain_ends (n := 25) hf (fun x => by have := hfn x; omega) h5
      refine ⟨fun n hn => ?_, fun _ => ⟨(gather_zero h1).1, ?_, ?_⟩, fun e => absurd h6 e⟩
      · obtain ⟨z, h8, h9⟩ := whyIds_mem.1 hn
        obtain ⟨y, h10, rfl⟩ := List.mem_map.1 h8
        have h11 := pieces_in h1 y (chain_mem _ _ h10)
        rcases h9 with rfl | rfl
        · exact idAt_mem h11.1
        · exact idAt_mem h11.2
      · exact whyIds_mem.2 ⟨prfL l q, List.mem_map.2 ⟨q, q1, rfl⟩, .inl (by show idAt l q.obv = a; rw [q2, idAt_pl h2])⟩
      · exact whyIds_mem.2 ⟨prfL l r, List.mem_map.2 ⟨r, r1, rfl⟩, .inr (by show idAt l r.rev = b; rw [r2, idAt_pl h3])⟩
/-- The proofs of the evidence. -/
def proofsS (l : List Spec) (C : List Pair) : List Link := (piecesS l C).map (prfL l)
theorem proofs_claim {l : List Spec} {C : List Pair} (hg : gatherE l C = 0) : C.map (fun c => prfL l (claP l c)) = C.map (fun c => (⟨2, c.a, c.b⟩ : Link)) := by
  obtain ⟨_, _, _, hm, _⟩ := gather_zero hg
  refine List.map_congr_left fun c hc => ?_
  obtain ⟨h1, h2⟩ := miss_no (any_no hm hc)
  simp [prfL, claP, idAt_pl h1, idAt_pl h2]
/-- Numbers round by round: what a row of numbers is like in round k, past the first j pieces. -/
structure RndP (P : List Link) (t : Int) (n : Nat) (f : Int → Int) (k : Int) (j : Nat) : Prop where
  rng : ∀ x, -1 ≤ f x
  zero : f t = 0
  only : ∀ x, f x = 0 → x = t
  pred : ∀ x, 0 < f x → ∃ p ∈ P, p.obv = x ∧ f p.rev = f x - 1
  top : ∀ x, f x ≤ k + 1
  neg : ∀ x, f x + (negR n f : Int) + 1 ≤ n
  old : ∀ p ∈ P, 0 ≤ f p.rev → f p.rev < k → 0 ≤ f p.obv ∧ f p.obv ≤ f p.rev + 1
  now : ∀ p ∈ P.take j, f p.rev = k → 0 ≤ f p.obv
section
variable {P : List Link} {t k : Int} {n j : Nat} {f : Int → Int} {p : Link}
theorem rnd_start (P : List Link) {t : Nat} (ht : t < n) : RndP P (t : Int) n (begI (t : Int)) 0 0 := by
  have h1 : ∀ x, 0 ≤ begI (t : Int) x → x = t := fun x h => by
    unfold begI at h
    split at h
    · assumption
    · omega
  have h2 : ∀ x, begI (t : Int) x ≤ 0 := fun x => by unfold begI; split <;> omega
  have h3 : negR n (begI (t : Int)) + 1 ≤ n := by
    have h1 := negR_upd (n := n) (i := t) (f := fun _ => -1) (v := 0) ht (by decide) (by decide)
    have h2 : negR n (fun _ => -1) ≤ n := by
      unfold negR
      exact Nat.le_trans (List.length_filter_le _ _) (by rw [rowF_len]; exact Nat.le_refl _)
    have h3 : negR n (begI (t : Int)) + 1 = negR n (fun _ => -1) := h1
    omega
  refine ⟨fun x => by unfold begI; split <;> omega, by simp [begI], fun x h => h1 x (by omega), fun x h => by have := h2 x; omega, fun x => by have := h2 x; omega, fun x => by have := h2 x; omega, fun p _ h1 h2 => by omega, fun p hp => by simp at hp⟩
theorem RndP.skip (h : RndP P t n f k j) (hj : P[j]? = some p) (hn : f p.rev = k → 0 ≤ f p.obv) : RndP P t n f k (j + 1) := by
  refine ⟨h.rng, h.zero, h.only, h.pred, h.top, h.neg, h.old, fun q hq he => ?_⟩
  rw [take_snoc' hj, List.mem_append, List.mem_singleton] at hq
  rcases hq with hq | rfl
  · exact h.now q hq he
  · exact hn he
theorem RndP.add (h : RndP P t n f k j) (hk : 0 ≤ k) (hj : P[j]? = some p) (hr : f p.rev = k) {i : Nat} (hi : p.obv = i) (hin : i < n) (hn : f p.obv < 0) : RndP P t n (updI f p.obv (k + 1)) k (j + 1) := by
  have hp := List.mem_of_getElem? hj
  have hv : ∀ x, x ≠ p.obv → updI f p.obv (k + 1) x = f x := fun x hx => if_neg hx
  have he : updI f p.obv (k + 1) p.obv = k + 1 := if_pos rfl
  have hcase : ∀ x, x = p.obv ∨ (x ≠ p.obv ∧ updI f p.obv (k + 1) x = f x) := fun x => by
    by_cases e : x = p.obv
    · exact .inl e
    · exact .inr ⟨e, hv x e⟩
  have ht : t ≠ p.obv := fun e => by have := h.zero; rw [e] at this; omega
  have hrn : p.rev ≠ p.obv := fun e => by rw [e] at hr; omega
  have hneg := negR_upd (n := n) (i := i) (f := f) (v := k + 1) hin (by rw [← hi]; exact hn) (by omega)
  rw [← hi] at hneg
  refine ⟨fun x => ?_, by rw [hv t ht]; exact h.zero, fun x hx => ?_, fun x hx => ?_, fun x => ?_, fun x => ?_, fun q hq h1 h2 => ?_, fun q hq hqe => ?_⟩
  · rcases hcase x with rfl | ⟨_, e⟩
    · rw [he]; omega
    · rw [e]; exact h.rng x
  · rcases hcase x with rfl | ⟨_, e⟩
    · rw [he] at hx; omega
    · rw [e] at hx; exact h.only x hx
  · rcases hcase x with rfl | ⟨_, e⟩
    · exact ⟨p, hp, rfl, by rw [he, hv _ hrn, hr]; omega⟩
    · rw [e] at hx
      obtain ⟨q, q1, q2, q3⟩ := h.pred x hx
      have : q.rev ≠ p.obv := fun e' => by rw [e'] at q3; omega
      exact ⟨q, q1, q2, by rw [e, hv _ this, q3]⟩
  · rcases hcase x with rfl | ⟨_, e⟩
    · rw [he]; omega
    · rw [e]; exact h.top x
  · have h1 := h.neg p.rev
    have h2 := h.neg x
    rw [hr] at h1
    rcases hcase x with rfl | ⟨_, e⟩
    · rw [he]; omega
    · rw [e]; omega
  · have hq' : q.rev ≠ p.obv := fun e => by rw [e, he] at h2; omega
    rw [hv _ hq'] at h1 h2 ⊢
    obtain ⟨h3, h4⟩ := h.old q hq h1 h2
    have : q.obv ≠ p.obv := fun e => by rw [e] at h3; omega
    rw [hv _ this]
    exact ⟨h3, h4⟩
  · have hq' : q.rev ≠ p.obv := fun e => by rw [e, he] at hqe; omega
    rw [hv _ hq'] at hqe
    rcases hcase q.obv with e | ⟨_, e⟩
    · rw [e, he]; omega
    · rw [e]
      rw [take_snoc' hj, List.mem_append, List.mem_singleton] at hq
      rcases hq with hq | rfl
      · exact h.now q hq hqe
      · exact absurd rfl ‹q.obv ≠ q.obv›
theorem RndP.next (h : RndP P t n f k j) (hj : P.length ≤ j) : RndP P t n f (k + 1) 0 := by
  refine ⟨h.rng, h.zero, h.only, h.pred, fun x => by have := h.top x; omega, h.neg, fun q hq h1 h2 => ?_, fun q hq => by simp at hq⟩
  by_cases e : f q.rev = k
  · have := h.now q (by rw [List.take_of_length_le hj]; exact hq) e
    have := h.top q.obv
    omega
  · exact h.old q hq h1 (by omega)
theorem RndP.far (h : RndP P t n f (n : Int) 0) : FarP P t f := ⟨h.rng, h.zero, h.only, h.pred, fun p hp h0 => h.old p hp h0 (by have := h.neg p.rev; omega)⟩
theorem RndP.le (h : RndP P t n f k j) (x : Int) : f x ≤ n := by have := h.neg x; omega
end
end Go.Proofs.YtikfffojeakjoaaGreatDoor
/- Package precedence: Why in general. Condition: the arguments read as such. -/
namespace Go.Proofs.YtikfffojeakjoaaGreatDoor
open Go.RowKit Go.Maps Go.Shelf

def or3I (x y z : Int) : Int := if x = 0 then (if y = 0 then z else y) else x
set_option maxHeartbeats 1000000 in
theorem Or3_ok (g : Nat) (x y z : Int) (w : World) (h0 : w.cell? ⟨g, 0, none⟩ = some (.int .i64 x)) (h1 : w.cell? ⟨g, 1, none⟩ = some (.int .i64 y)) (h2 : w.cell? ⟨g, 2, none⟩ = some (.int .i64 z)) :
    Calls Tryz.prog 19 #[.slice (some ⟨g, 0, none⟩) 3 3] w fun e w' => e = .returned (.int .i64 (or3I x y z)) ∧ w = w' := by
  go_enter Tryz.func19, Tryz.ntmps19
  go_wp2
  go_loopw [8] (fun i wr => ∃ k : Nat, k ≤ 3 ∧ i = .int .i64 k ∧ wr = w ∧ (1 ≤ k → x = 0) ∧ (2 ≤ k → y = 0) ∧ (3 ≤ k → z = 0)) (fun i _ => 3 - (intOf i).toNat)
  case atStart => exact ⟨0, by omega, rfl, rfl, by omega, by omega, by omega⟩
  case round =>
    obtain ⟨k, hk, rfl, rfl, q1, q2, q3⟩ := hrel
    rcases Nat.lt_or_ge k 1 with e | e
    · obtain rfl : k = 0 := by omega
      clear q1 q2 q3
      by_cases hx : x = 0
      · have hd : (x != 0) = false := by simp [hx]
        have Hx := Lib.hid hx; clear hx
        go_wp2
        refine ⟨?rel, ?measure⟩
        case rel => exact ⟨1, by omega, by go_num, by first | trivial | rfl, fun _ => Hx.out, by omega, by omega⟩
        case measure => first | (simp [intOf]; done) | (simp [intOf]; omega)
      · have hd : (x != 0) = true := by simp [hx]
        have Hx := Lib.hid hx; clear hx
        go_wp2
        go_ret
        exact ⟨ret_i64 (by rw [or3I, if_neg Hx.out]), rfl⟩
    · have Hx := Lib.hid (q1 e)
      clear q1
      rcases Nat.lt_or_ge k 2 with e' | e'
      · obtain rfl : k = 1 := by omega
        clear q2 q3
        by_cases hy : y = 0
        · have hd : (y != 0) = false := by simp [hy]
          have Hy := Lib.hid hy; clear hy
          go_wp2
          refine ⟨?rel, ?measure⟩
          case rel => exact ⟨2, by omega, by go_num, by first | trivial | rfl, fun _ => Hx.out, fun _ => Hy.out, by omega⟩
          case measure => first | (simp [intOf]; done) | (simp [intOf]; omega)
        · have hd : (y != 0) = true := by simp [hy]
          have Hy := Lib.hid hy; clear hy
          go_wp2
          go_ret
          exact ⟨ret_i64 (by rw [or3I, if_pos Hx.out, if_neg Hy.out]), rfl⟩
      · have Hy := Lib.hid (q2 e')
        clear q2
        rcases Nat.lt_or_ge k 3 with e3 | e3
        · obtain rfl : k = 2 := by omega
          clear q3
          by_cases hz : z = 0
          · have hd : (z != 0) = false := by simp [hz]
            have Hz := Lib.hid hz; clear hz
            go_wp2
            refine ⟨?rel, ?measure⟩
            case rel => exact ⟨3, by omega, by go_num, by first | trivial | rfl, fun _ => Hx.out, fun _ => Hy.out, fun _ => Hz.out⟩
            case measure => first | (simp [intOf]; done) | (simp [intOf]; omega)
          · have hd : (z != 0) = true := by simp [hz]
            have Hz := Lib.hid hz; clear hz
            go_wp2
            go_ret
            exact ⟨ret_i64 (by rw [or3I, if_pos Hx.out, if_pos Hy.out]), rfl⟩
        · obtain rfl : k = 3 := by omega
          have Hz := Lib.hid (q3 e3)
          clear q3
          go_wp2
          go_ret
          exact ⟨ret_i64 (by rw [or3I, if_pos Hx.out, if_pos Hy.out, Hz.out]), rfl⟩
section
variable {P : List Link} {t x x0 : Int} {f I : Int → Int} {p q : Link} {n N : Nat} {acc : List Link} {bo : Option Link}
/-- The cells of the best piece so far. -/
def bestC (bo : Option Link) : Link := bo.getD ⟨-1, 0, 0⟩
def cmpI (x y : Int) : Int := if x < y then -1 else if y < x then 1 else 0
def nearI (f I : Int → Int) (p q : Link) : Int := or3I (cmpI (f p.rev) (f q.rev)) (cmpI (I p.rev) (I q.rev)) (cmpI p.id q.id)
theorem near_lt : decide (nearI f I p q < 0) = keyLt f I p q := by
  unfold nearI or3I cmpI keyLt
  by_cases h1 : f p.rev < f q.rev
  · simp [h1]
  · by_cases h2 : f q.rev < f p.rev
    · have : ¬ f p.rev = f q.rev := by omega
      simp [h1, h2, this]
    · have e : f p.rev = f q.rev := by omega
      by_cases h3 : I p.rev < I q.rev
      · simp [e, h3]
      · by_cases h4 : I q.rev < I p.rev
        · have : ¬ I p.rev = I q.rev := by omega
          simp [e, h3, h4, this]
        · have e2 : I p.rev = I q.rev := by omega
          by_cases h5 : p.id < q.id
          · simp [e, e2, h5]
          · by_cases h6 : q.id < p.id <;> simp [e, e2, h5, h6]
theorem best_go (hc : candB f x p = true) (hk : ∀ q, bo = some q → 0 ≤ q.id) : bestS f I x bo p = if (bestC bo).id < 0 ∨ nearI f I p (bestC bo) < 0 then some p else bo := by
  unfold bestS
  rw [if_pos hc]
  cases bo with
  | none => simp [bestC]
  | some q =>
    have h1 := hk q rfl
    have h2 : ¬ (bestC (some q)).id < 0 := by show ¬ q.id < 0; omega
    show (if keyLt f I p q = true then some p else some q) = _
    rw [← near_lt]
    by_cases h3 : nearI f I p q < 0
    · rw [if_pos (by simpa using h3), if_pos (.inr h3)]
    · rw [if_neg (by simpa using h3), if_neg (fun h => h.elim h2 h3)]
theorem best_skip (hc : candB f x p = false) : bestS f I x bo p = bo := by
  unfold bestS
  rw [if_neg (by rw [hc]; simp)]
theorem bestF_snoc {j : Nat} (h : P[j]? = some p) : bestF f I x (P.take (j + 1)) = bestS f I x (bestF f I x (P.take j)) p := by
  rw [take_snoc' h, bestF, List.foldl_append]; rfl
theorem best_in {j : Nat} (h : bestF f I x (P.take j) = some q) : q ∈ P := List.mem_of_mem_take (best_mem h).1
/-- A chain as it grows: the pieces so far, the place, the rounds left. -/
structure ChS (f I : Int → Int) (P : List Link) (t x0 : Int) (acc : List Link) (x : Int) (N : Nat) : Prop where
  eq : acc ++ (if acc ≠ [] ∧ x = t then [] else chainK f I P t N x) = chainK f I P t 26 x0
  at_ : (acc = [] ∧ x = x0) ∨ (acc ≠ [] ∧ (x = t ∨ 0 < f x) ∧ f x < N)
  len : acc.length + N = 26
theorem chS_start : ChS f I P t x0 [] x0 26 := ⟨by simp, .inl ⟨rfl, rfl⟩, rfl⟩
theorem ChS.done (h : ChS f I P t x0 acc x N) (h1 : acc ≠ []) (h2 : x = t) : acc = chainK f I P t 26 x0 ∧ ∃ p, bestF f I x0 P = some p := by
  have h3 := h.eq
  rw [if_pos ⟨h1, h2⟩, List.append_nil] at h3
  refine ⟨h3, ?_⟩
  cases hb : bestF f I x0 P with
  | none => rw [chain_none hb] at h3; exact absurd h3 h1
  | some p => exact ⟨p, rfl⟩
theorem ChS.none (hf : FarP P t f) (h : ChS f I P t x0 acc x N) (hgo : acc = [] ∨ x ≠ t) (hb : bestF f I x P = none) : bestF f I x0 P = none := by
  rcases h.at_ with ⟨_, rfl⟩ | ⟨h1, h2, _⟩
  · exact hb
  · have h3 : x ≠ t := hgo.resolve_left h1
    obtain ⟨p, hp, _⟩ := best_next (I := I) hf (h2.resolve_left h3)
    rw [hb] at hp; cases hp
theorem ChS.step (hf : FarP P t f) (hfn : ∀ x, f x ≤ 24) (h : ChS f I P t x0 acc x N) (hgo : acc = [] ∨ x ≠ t) (hb : bestF f I x P = some p) : ∃ N', N = N' + 1 ∧ ChS f I P t x0 (acc ++ [p]) p.rev N' := by
  have hN : 0 < N := by
    rcases h.at_ with ⟨h1, _⟩ | ⟨h1, h2, h3⟩
    · have := h.len; subst h1; simp at this; omega
    · have := (h2.resolve_left (hgo.resolve_left h1)); omega
  obtain ⟨N', rfl⟩ : ∃ N', N = N' + 1 := ⟨N - 1, by omega⟩
  refine ⟨N', rfl, ?_, .inr ⟨by simp, ?_, ?_⟩, ?_⟩
  · have h3 := h.eq
    have h4 : ¬ (acc ≠ [] ∧ x = t) := fun ⟨h5, h6⟩ => hgo.elim h5 (fun h => h h6)
    rw [if_neg h4, chain_some hb] at h3
    rw [← h3, List.append_assoc]
    congr 1
    by_cases e : p.rev = t
    · rw [if_pos ⟨by simp, e⟩, if_pos e]; rfl
    · rw [if_neg (fun h => e h.2), if_neg e]; rfl
  · obtain ⟨_, h2, h3⟩ := best_mem hb
    by_cases e : f p.rev = 0
    · exact .inl (hf.only _ e)
    · exact .inr (by omega)
  · rcases h.at_ with ⟨h1, _⟩ | ⟨h1, h2, h3⟩
    · have h5 := h.len
      rw [h1, List.length_nil] at h5
      have h6 := hfn p.rev
      omega
    · have h4 := (h2.resolve_left (hgo.resolve_left h1))
      obtain ⟨q, hq, h5⟩ := best_next (I := I) hf h4
      rw [hb] at hq; cases hq
      omega
  · have := h.len; rw [List.length_append, List.length_singleton]; omega
end
abbrev OwnPf (B : Nat) (w : World) (v : Value) (xs : List Link) : Prop := Own encL 3 52 B w v xs
theorem infoPf : (Tryz.prog.info? 52).map (fun i => (i.zero, i.size, i.bytes)) = some (some (.agg #[.int .i64 0, .int .i64 0, .int .i64 0]), 3, 24) := by kernel_rfl
theorem cmpI_eq (x y : Int) : Lib.compareInt x y = cmpI x y := by unfold Lib.compareInt cmpI; rfl
set_option maxHeartbeats 16000000 in
set_option maxRecDepth 100000 in
theorem Why_ok (A : Option Addr) (c : Nat) (l : List Spec) (cv : Value) (C : List Pair) (a b : Int) (w : World) (h : Specs w (.slice A l.length c) l) (hC : Pairs w cv C) :
    Calls Tryz.prog 7 #[.slice A l.length c, cv, .int .i64 a, .int .i64 b] w fun e w' => ∃ u E L, e = .returned (.tuple #[u, .int .i64 E]) ∧ OwnPf w.heap.size w' u L ∧ WhyR l C a b E L ∧ Below w.heap.size w w' := by
  have HG := Lib.hid (gather_ok A c l cv C w h hC)
  have Hh := Lib.hid h
  have hA := fun w9 (hh : Specs w9 (.slice A l.length c) l) => placeL_ok _ l a w9 hh
  have hB := fun w9 (hh : Specs w9 (.slice A l.length c) l) => placeL_ok _ l b w9 hh
  obtain ⟨pa, hpa⟩ : ∃ p, plS l a = p := ⟨_, rfl⟩
  obtain ⟨pb, hpb⟩ : ∃ p, plS l b = p := ⟨_, rfl⟩
  rw [show firstI (fun s : Spec => s.id == a) l = pa from hpa] at hA
  rw [show firstI (fun s : Spec => s.id == b) l = pb from hpb] at hB
  have HA := Lib.hid hA; have HB := Lib.hid hB
  have Hpa := Lib.hid hpa; have Hpb := Lib.hid hpb
  clear h hC hpa hpb hA hB
  go_enter Tryz.func7, Tryz.ntmps7
  go_wp2_with fail
  refine HG.out.mono ?_
  rintro e w1 h1
  rcases h1 with ⟨pv, rfl, hg0, hP, hb1⟩ | ⟨E, rfl, hE, hb1⟩
  case inr =>
    have t : (E != 0) = true := by simpa using hE.2
    have HE := Lib.hid hE
    obtain ⟨V1, V2, hV1, hV2, HzV2, hkV1, hkV2, hbV2, hltV2⟩ := fresh w1 [.slice none 0 0, .slice none 0 0] [.slice none 0 0, .slice none 0 0] 57 rfl
    have hsV2 : (V1.setCell ⟨w1.heap.size, 0, none⟩ (.slice none 0 0)).setCell ⟨w1.heap.size, 1, none⟩ (.slice none 0 0) = V2 := hV2
    clear hV2 hE
    obtain ⟨⟨z0, z1⟩, f0, f1⟩ := cells2 hkV1
    have hw2 := below_trans hb1 hbV2
    clear hkV1 hkV2
    go_wp2_with fail
    exact bodyPost_ret (v := .tuple #[.slice none 0 0, .int .i64 E]) (by simp [results, Tryz.results7, go_sem]) rfl ⟨_, _, [], rfl, own_nil _ _ _ _ _, .inl ⟨by rw [← HE.out.1]; exact HE.out.2, HE.out.1, rfl⟩, hw2⟩
  obtain ⟨P, hPn⟩ : ∃ P, piecesS l C = P := ⟨_, rfl⟩
  rw [hPn] at hP
  have HPn := Lib.hid hPn
  have Hg0 := Lib.hid hg0
  have hl24 : l.length ≤ 24 := (gather_zero hg0).2.1
  obtain ⟨Ap, cp, rfl, _⟩ := id hP
  obtain ⟨V1, V2, hV1, hV2, HzV2, hkV1, hkV2, hbV2, hltV2⟩ := fresh w1 [.slice none 0 0, .slice none 0 0] [.slice A l.length c, .slice Ap P.length cp] 57 rfl
  have hsV2 : (V1.setCell ⟨w1.heap.size, 0, none⟩ (.slice A l.length c)).setCell ⟨w1.heap.size, 1, none⟩ (.slice Ap P.length cp) = V2 := hV2
  clear hV2
  obtain ⟨⟨z0, z1⟩, f0, f1⟩ := cells2 hkV1
  obtain ⟨⟨s0, s1⟩, _⟩ := cells2 hkV2
  have hw2 := below_trans hb1 hbV2
  have HP := Lib.hid (show Links V2 _ P from SlOf.below hP hbV2)
  clear hkV1 hkV2 hP hPn hg0 HG
  go_wp2_with fail
  clear z0 z1 f0 f1 hV1
  refine (HA.out _ (Hh.out.below hw2)).mono ?_
  rintro e w3 ⟨rfl, hb3⟩
  go_wp2_with fail
  refine (HB.out _ (Hh.out.below (below_trans hw2 hb3))).mono ?_
  rintro e w4 ⟨rfl, hb4⟩
  have hb34 := below_trans hb3 hb4
  have hw4 := below_trans hw2 hb34
  have s0 := cell_later hb34 s0; have s1 := cell_later hb34 s1
  have HP4 := Lib.hid (HP.out.below hb34)
  clear hsV2 HP HA HB
  by_cases hneg : pa < 0 ∨ pb < 0
  case pos =>
    have HR : Hid (WhyR l C a b 7 []) := Lib.hid (.inr (.inl ⟨Hg0.out, by rw [Hpa.out, Hpb.out]; exact hneg, rfl, rfl⟩))
    by_cases c2 : pa < 0
    · have t1 : decide (pa < 0) = true := decide_eq_true c2
      clear hneg
      go_wp2_with fail
      exact bodyPost_ret (v := .tuple #[.slice none 0 0, .int .i64 7]) (by simp [results, Tryz.results7, go_sem]) rfl ⟨_, _, [], rfl, own_nil _ _ _ _ _, HR.out, hw4⟩
    · have t1 : decide (pa < 0) = false := decide_eq_false c2
      have t2 : decide (pb < 0) = true := decide_eq_true (by omega)
      clear hneg
      go_wp2_with fail
      exact bodyPost_ret (v := .tuple #[.slice none 0 0, .int .i64 7]) (by simp [results, Tryz.results7, go_sem]) rfl ⟨_, _, [], rfl, own_nil _ _ _ _ _, HR.out, hw4⟩
  obtain ⟨ia, rfl⟩ : ∃ k : Nat, pa = k := ⟨pa.toNat, by omega⟩
  obtain ⟨ib, rfl⟩ : ∃ k : Nat, pb = k := ⟨pb.toNat, by omega⟩
  have hia : ia < l.length := by have := plS_lt (l := l) (a := a) (by rw [Hpa.out]; omega); rw [Hpa.out] at this; omega
  have hib : ib < l.length := by have := plS_lt (l := l) (a := b) (by rw [Hpb.out]; omega); rw [Hpb.out] at this; omega
  have hin' : PcIn l.length P := by have := pieces_in Hg0.out; rwa [HPn.out] at this
  have hkd' : ∀ p ∈ P, 0 ≤ p.id := fun p hp => by rw [← HPn.out] at hp; exact (pieces_mem Hg0.out hp).2.1
  have HS := Lib.hid (stepsE_ok A c l.length ib (.slice Ap P.length cp) P hib hl24 w4 HP4.out hin')
  have Hin := Lib.hid hin'; have Hkd := Lib.hid hkd'
  have n1 : decide ((ia : Int) < 0) = false := decide_eq_false (by omega)
  have n2 : decide ((ib : Int) < 0) = false := decide_eq_false (by omega)
  have n3 : (0 : Int) ≤ (ia : Int) := by omega
  have n4 : (0 : Int) ≤ (ib : Int) := by omega
  clear hneg hin' hkd'
  go_wp2_with fail
  refine HS.out.mono ?_
  rintro e w5 ⟨g, f, rfl, hrow, ⟨hf, hfn⟩, hb5⟩
  have s1 := cell_later hb5 s1
  have hw5 := below_trans hw4 hb5
  have Hrow := Lib.hid hrow; have Hf := Lib.hid hf
  have Hfn : Hid (∀ x, f x ≤ 24) := Lib.hid fun x => by have := hfn x; omega
  have HP5 := Lib.hid (show Links w5 _ P from HP4.out.below hb5)
  clear s0 hrow hf hfn HS HP4 hb34 hb4 hb3 hb1 n1 n2
  have Hz5 := Lib.hid hw5.size
  obtain ⟨iP, hiP, hzP, hkP, hbP⟩ := info_parts infoPf
  go_wp2_with fail
  clear n3 n4
  go_loopw [12, 15] (fun xv ov wr => ∃ (x N : Nat) (acc R : List Link), xv = .int .i64 x ∧ x < l.length ∧ OwnPf w5.heap.size wr ov R ∧ Below w5.heap.size w5 wr ∧ Hid (R = acc.map (prfL l)) ∧ Hid (ChS f (idAt l) P (ib : Int) (ia : Int) acc (x : Int) N)) (fun _ ov _ => 26 - qLen ov)
  case atStart => exact ⟨ia, 26, [], [], rfl, hia, own_nil _ _ _ _ _, Below.refl _ _, Lib.hid rfl, Lib.hid chS_start⟩
  case round =>
    obtain ⟨x, N, acc, R, rfl, hx, hown, hbr, HR, HCh⟩ := hrel
    obtain ⟨wo, hwo0⟩ : ∃ z, z = wr := ⟨_, rfl⟩
    subst hwo0
    have hRl : R.length = acc.length := by rw [HR.out, List.length_map]
    have hRn : R.length ≤ 26 := by have := HCh.out.len; omega
    obtain ⟨Ao, co, rfl, _⟩ := id hown.slOf
    have hwo := below_trans hw5 hbr
    have Hown := Lib.hid hown
    by_cases hdone : acc ≠ [] ∧ x = ib
    case pos =>
      have h1 : ((R.length : Int) == 0) = false := by
        have : acc.length ≠ 0 := fun e => hdone.1 (List.eq_nil_of_length_eq_zero e)
        exact beq_eq_false_iff_ne.2 (by omega)
      have h2 : ((x : Int) != (ib : Int)) = false := by simp [hdone.2]
      have h2' : ((x : Int) == (ib : Int)) = true := by simp [hdone.2]
      obtain ⟨q1, q2⟩ := HCh.out.done hdone.1 (by rw [hdone.2])
      have HWR : Hid (WhyR l C a b 0 R) := Lib.hid (.inr (.inr ⟨Hg0.out, by rw [Hpa.out, Hpb.out]; omega, f, ⟨by rw [HPn.out, Hpb.out]; exact Hf.out, Hfn.out⟩, .inr ⟨by rw [Hpa.out, HPn.out]; exact q2, rfl, by rw [HR.out, q1, HPn.out, Hpa.out, Hpb.out]⟩⟩))
      have HoF := Lib.hid (show OwnPf w.heap.size wo (.slice Ao R.length co) R from Own.base hown Hz5.out)
      clear hdone hRl hown q1 q2
      go_wp2_with fail
      exact bodyPost_ret (v := .tuple #[.slice Ao R.length co, .int .i64 0]) (by simp [results, Tryz.results7, go_sem]) rfl ⟨_, _, _, rfl, HoF.out, HWR.out, hwo⟩
    have Hgo : Hid (acc = [] ∨ (x : Int) ≠ ib) := Lib.hid (by
      by_cases e : acc = []
      · exact .inl e
      · exact .inr fun e2 => hdone ⟨e, by omega⟩)
    have HRl := Lib.hid hRl
    clear hdone hRl hown
    go_upto_region 9 with fail
    go_cut [51] (fun tv wc => tv = .bool true ∧ wc = wo)
    case first =>
      cases e1 : ((R.length : Int) == 0)
      · have h2 : ((x : Int) == (ib : Int)) = false := by
          have h3 : acc ≠ [] := fun e => by rw [HRl.out, e] at e1; simp at e1
          have := Hgo.out.resolve_left h3
          simpa using this
        have h2' : ((x : Int) != (ib : Int)) = true := by simp [bne, h2]
        go_wp2_with fail
        go_meet
        exact ⟨rfl, rfl⟩
      · go_wp2_with fail
        go_meet
        exact ⟨rfl, rfl⟩
    case rest =>
      obtain ⟨rfl, hwc⟩ := hcut
      obtain rfl : wc = wo := hwc
      obtain ⟨wo, hwo0⟩ : ∃ z, z = wc := ⟨_, rfl⟩
      subst hwo0
      obtain ⟨B1, B2, hB1, hB2, HzB2, hkB1, hkB2, hbB2, hltB2⟩ := fresh wo [.int .i64 0, .int .i64 0, .int .i64 0] [.int .i64 (-1), .int .i64 0, .int .i64 0] 63 rfl
      have hsB2 : ((B1.setCell ⟨wo.heap.size, 0, none⟩ (.int .i64 (-1))).setCell ⟨wo.heap.size, 1, none⟩ (.int .i64 0)).setCell ⟨wo.heap.size, 2, none⟩ (.int .i64 0) = B2 := hB2
      clear hB2
      obtain ⟨⟨z0, z1, z2⟩, f0, f1, f2⟩ := cells3 hkB1
      have s1' := cell_later (below_trans hbr hbB2) s1
      have HkB2 := Lib.hid hkB2
      clear hkB1 hkB2
      go_wp2_with fail
      clear z0 z1 z2 f0 f1 f2 hsB2 hB1 s1'
      go_loopw [56] (fun iv wr => ∃ (j : Nat), j ≤ P.length ∧ iv = .int .i64 j ∧ Below wo.heap.size wo wr ∧ Hid (wr.heap[wo.heap.size]? = some (.cells [.int .i64 (bestC (bestF f (idAt l) (x : Int) (P.take j))).id, .int .i64 (bestC (bestF f (idAt l) (x : Int) (P.take j))).obv, .int .i64 (bestC (bestF f (idAt l) (x : Int) (P.take j))).rev].toArray 63 (0, 0)))) (fun iv _ => P.length - (intOf iv).toNat)
      case atStart => exact ⟨0, Nat.zero_le _, rfl, hbB2, HkB2⟩
      case round =>
        obtain ⟨wt, hwt0⟩ : ∃ z, z = wr := ⟨_, rfl⟩
        subst hwt0
        obtain ⟨j, hj, rfl, hbt, Hk⟩ := hrel
        obtain ⟨bo, hbo⟩ : ∃ b, bestF f (idAt l) (x : Int) (P.take j) = b := ⟨_, rfl⟩
        rw [hbo] at Hk
        have Hbo := Lib.hid hbo
        have hbw := below_trans hbr hbt
        have hww := below_trans hw5 hbw
        clear hbo
        by_cases hlt : j < P.length
        case neg =>
          have HboP : Hid (bestF f (idAt l) (x : Int) P = bo) := Lib.hid (by have := Hbo.out; rwa [List.take_of_length_le (by omega)] at this)
          cases bo with
          | none =>
            have HWR : Hid (WhyR l C a b 7 []) := Lib.hid (.inr (.inr ⟨Hg0.out, by rw [Hpa.out, Hpb.out]; omega, f, ⟨by rw [HPn.out, Hpb.out]; exact Hf.out, Hfn.out⟩, .inl ⟨by rw [Hpa.out, HPn.out]; exact HCh.out.none Hf.out Hgo.out HboP.out, rfl, rfl⟩⟩))
            obtain ⟨⟨m0, m1, m2⟩, _⟩ := cells3 (show wt.heap[wo.heap.size]? = some (.cells [.int .i64 (-1), .int .i64 0, .int .i64 0].toArray 63 (0, 0)) from Hk.out)
            go_wp2_with fail
            exact bodyPost_ret (v := .tuple #[.slice none 0 0, .int .i64 7]) (by simp [results, Tryz.results7, go_sem]) rfl ⟨_, _, [], rfl, own_nil _ _ _ _ _, HWR.out, hww⟩
          | some p =>
            obtain ⟨hpm, hpo, hpf⟩ := best_mem HboP.out
            obtain ⟨N', hN', hstep⟩ := HCh.out.step Hf.out Hfn.out Hgo.out HboP.out
            have hlen := HCh.out.len
            have hp0 := Hkd.out p hpm
            obtain ⟨⟨_, _⟩, hr0, hrn⟩ := Hin.out p hpm
            obtain ⟨tb, htb⟩ : ∃ i : Nat, p.rev = i := ⟨p.rev.toNat, by omega⟩
            have htl : tb < l.length := by omega
            obtain ⟨sx, hsx⟩ := get_of_lt hx
            obtain ⟨sb, hsb⟩ := get_of_lt htl
            obtain ⟨⟨m0, m1, m2⟩, _⟩ := cells3 (show wt.heap[wo.heap.size]? = some (.cells [.int .i64 p.id, .int .i64 p.obv, .int .i64 p.rev].toArray 63 (0, 0)) from Hk.out)
            rw [htb] at m2 hstep
            obtain ⟨_, _, ex, _, _, hlc⟩ := Hh.out.cells
            cases ex
            obtain ⟨bl, ol, rfl, _, hlb⟩ := hlc x hx
            have g0 := (hlb wt hww x sx hsx).1
            have g1 := (hlb wt hww tb sb hsb).1
            have Hsn : Hid (R ++ [(⟨p.id, sx.id, sb.id⟩ : Link)] = (acc ++ [p]).map (prfL l)) := Lib.hid (by
              rw [List.map_append, ← HR.out]
              simp [prfL, hpo, htb, idAt_get hsx, idAt_get hsb])
            have hneg : decide (p.id < 0) = false := decide_eq_false (by omega)
            have hx1 : (x : Int) < (l.length : Int) := by omega
            have hx0 : (0 : Int) ≤ (x : Int) := by omega
            have htb1 : (tb : Int) < (l.length : Int) := by omega
            have htb0 : (0 : Int) ≤ (tb : Int) := by omega
            have hR26 : R.length < 26 := by have := HRl.out; omega
            have Hstep := Lib.hid hstep
            have HOt := Lib.hid (Hown.out.below hbt)
            have HnB : Hid (∀ q, (Value.slice Ao R.length co).ownBlock = some q → q < wo.heap.size) := Lib.hid fun q hq => (Hown.out.lt q hq).2
            have hwoz : wo.heap.size < wt.heap.size := heap_lt Hk.out
            clear hlc hlb hsx hsb hstep hpm hpo hpf hN' hlen hp0 hr0 hrn htb
            go_wp2_with fail
            have hba : Below (wt).heap.size (wt) (wt).drew := (Below.refl _ _).drew
            obtain ⟨wa, hwa⟩ : ∃ W, (wt).drew = W := ⟨_, rfl⟩
            rw [hwa] at hba
            have HSt := Lib.hid fun (w9 : World) (hb : Below wa.heap.size wa w9) => (show (fun w' : World => Below wa.heap.size wa w' ∧ w'.cell? ⟨wo.heap.size, 0, none⟩ = some (.int .i64 p.id) ∧ w'.cell? ⟨wo.heap.size, 2, none⟩ = some (.int .i64 tb) ∧ w'.cell? ⟨bl, ol + x * 7, none⟩ = some (.int .i64 sx.id) ∧ w'.cell? ⟨bl, ol + tb * 7, none⟩ = some (.int .i64 sb.id)) w9 from ⟨hb, cell_later hb (cell_later hba m0), cell_later hb (cell_later hba m2), cell_later hb (cell_later hba g0), cell_later hb (cell_later hba g1)⟩)
            have hHeld := HSt.out wa (Below.refl _ _)
            refine wp_region_S 16 (fun w' : World => Below wa.heap.size wa w' ∧ w'.cell? ⟨wo.heap.size, 0, none⟩ = some (.int .i64 p.id) ∧ w'.cell? ⟨wo.heap.size, 2, none⟩ = some (.int .i64 tb) ∧ w'.cell? ⟨bl, ol + x * 7, none⟩ = some (.int .i64 sx.id) ∧ w'.cell? ⟨bl, ol + tb * 7, none⟩ = some (.int .i64 sb.id)) (by kernel_rfl) (by decide) ?_
            rw [hwa]
            clear hwa
            have m2a := cell_later hba m2
            refine wpAnyS_takeD 0 (some 116) (.slice Ao R.length co) (by rfl) (by rfl) (by kernel_rfl) (by exact fun _ _ _ h => h) (by rfl) (fun w' hS => by go_simp) hHeld ?_
            simp only [Act.put, List.setIfInBounds_toArray, List.set_cons_succ, List.set_cons_zero]
            refine wpAnyS_takeD 1 (some 117) (.pointer (some ⟨wo.heap.size, 0, none⟩)) (by rfl) (by rfl) (by kernel_rfl) (by exact fun _ _ _ h => h) (by rfl) (fun w' hS => by go_simp) hHeld ?_
            simp only [Act.put, List.setIfInBounds_toArray, List.set_cons_succ, List.set_cons_zero]
            refine wpAnyS_takeD 2 (some 118) (.int .i64 p.id) (by rfl) (by rfl) (by kernel_rfl) (by exact fun _ _ _ h => h) (by rfl) (fun w' hS => by (obtain ⟨_, x0, x1, x2, x3⟩ := hS; go_simp)) hHeld ?_
            simp only [Act.put, List.setIfInBounds_toArray, List.set_cons_succ, List.set_cons_zero]
            refine wpAnyS_takeD 3 (some 119) (.slice (some ⟨bl, ol, none⟩) l.length c) (by rfl) (by rfl) (by kernel_rfl) (by exact fun _ _ _ h => h) (by rfl) (fun w' hS => by go_simp) hHeld ?_
            simp only [Act.put, List.setIfInBounds_toArray, List.set_cons_succ, List.set_cons_zero]
            refine wpAnyS_takeD 4 (some 120) (.int .i64 x) (by rfl) (by rfl) (by kernel_rfl) (by exact fun _ _ _ h => h) (by rfl) (fun w' hS => by go_simp) hHeld ?_
            simp only [Act.put, List.setIfInBounds_toArray, List.set_cons_succ, List.set_cons_zero]
            refine wpAnyS_takeD 5 (some 121) (.pointer (some ⟨bl, ol + x * 7, none⟩)) (by rfl) (by rfl) (by kernel_rfl) (by exact fun _ _ _ h => h) (by rfl) (fun w' hS => by go_simp) hHeld ?_
            simp only [Act.put, List.setIfInBounds_toArray, List.set_cons_succ, List.set_cons_zero]
            refine wpAnyS_takeD 6 (some 122) (.pointer (some ⟨bl, ol + x * 7, none⟩)) (by rfl) (by rfl) (by kernel_rfl) (by exact fun _ _ _ h => h) (by rfl) (fun w' hS => by go_simp) hHeld ?_
            simp only [Act.put, List.setIfInBounds_toArray, List.set_cons_succ, List.set_cons_zero]
            refine wpAnyS_takeD 7 (some 123) (.int .i64 sx.id) (by rfl) (by rfl) (by kernel_rfl) (by exact fun _ _ _ h => h) (by rfl) (fun w' hS => by (obtain ⟨_, x0, x1, x2, x3⟩ := hS; go_simp)) hHeld ?_
            simp only [Act.put, List.setIfInBounds_toArray, List.set_cons_succ, List.set_cons_zero]
            refine wpAnyS_takeD 8 (some 124) (.slice (some ⟨bl, ol, none⟩) l.length c) (by rfl) (by rfl) (by kernel_rfl) (by exact fun _ _ _ h => h) (by rfl) (fun w' hS => by go_simp) hHeld ?_
            simp only [Act.put, List.setIfInBounds_toArray, List.set_cons_succ, List.set_cons_zero]
            refine wpAnyS_takeD 9 (some 125) (.pointer (some ⟨wo.heap.size, 2, none⟩)) (by rfl) (by rfl) (by kernel_rfl) (by exact fun _ _ _ h => h) (by rfl) (fun w' hS => by go_simp) hHeld ?_
            simp only [Act.put, List.setIfInBounds_toArray, List.set_cons_succ, List.set_cons_zero]
            refine wpAnyS_takeD 10 (some 126) (.int .i64 tb) (by rfl) (by rfl) (by kernel_rfl) (by exact fun _ _ _ h => h) (by rfl) (fun w' hS => by (obtain ⟨_, x0, x1, x2, x3⟩ := hS; go_simp)) hHeld ?_
            simp only [Act.put, List.setIfInBounds_toArray, List.set_cons_succ, List.set_cons_zero]
            refine wpAnyS_takeD 11 (some 127) (.pointer (some ⟨bl, ol + tb * 7, none⟩)) (by rfl) (by rfl) (by kernel_rfl) (by exact fun _ _ _ h => h) (by rfl) (fun w' hS => by go_simp) hHeld ?_
            simp only [Act.put, List.setIfInBounds_toArray, List.set_cons_succ, List.set_cons_zero]
            refine wpAnyS_takeD 12 (some 128) (.pointer (some ⟨bl, ol + tb * 7, none⟩)) (by rfl) (by rfl) (by kernel_rfl) (by exact fun _ _ _ h => h) (by rfl) (fun w' hS => by go_simp) hHeld ?_
            simp only [Act.put, List.setIfInBounds_toArray, List.set_cons_succ, List.set_cons_zero]
            refine wpAnyS_takeD 13 (some 129) (.int .i64 sb.id) (by rfl) (by rfl) (by kernel_rfl) (by exact fun _ _ _ h => h) (by rfl) (fun w' hS => by (obtain ⟨_, x0, x1, x2, x3⟩ := hS; go_simp)) hHeld ?_
            simp only [Act.put, List.setIfInBounds_toArray, List.set_cons_succ, List.set_cons_zero]
            refine wpAnyS_takeD 14 (some 130) (.agg #[.int .i64 p.id, .int .i64 sx.id, .int .i64 sb.id]) (by rfl) (by rfl) (by kernel_rfl) (by exact fun _ _ _ h => h) (by rfl) (fun w' hS => by go_simp) hHeld ?_
            simp only [Act.put, List.setIfInBounds_toArray, List.set_cons_succ, List.set_cons_zero]
            clear hHeld m0 m1 m2 g0 g1
            have hownA := HOt.out.below hba
            have hz5 := hbw.size
            have hzA : w5.heap.size ≤ wa.heap.size := by have := hba.size; omega
            have hzo : wo.heap.size < wa.heap.size := by have := hba.size; omega
            refine wpAnyS_one 15 (by kernel_rfl) (by rfl) (by decide) (fun K hK => ?_)
            have HK := Lib.hid hK; clear hK
            rw [if_pos (by rfl)]
            go_simp
            refine HK.out _ _ (HSt.out _ ((Below.refl _ _).alloc (Nat.le_refl _) _)) ?_
            clear HK
            refine (show tailOf _ _ _ _ _ _ _ _ from ⟨by kernel_rfl, ?_⟩)
            simp only [List.drop_succ_cons, List.drop_zero]
            go_wp2_with (at_builtin; refine wpList_append1 (enc := encL) (size := 3) (B := w5.heap.size) rfl (.tmp 116) (.tmp 131) _ rfl 52 iP _ 24 Tryz.underlying35 hiP hzP hkP hbP rfl (by decide) rfl hownA (⟨p.id, sx.id, sb.id⟩ : Link) _ rfl lenL oneL _ rfl rfl (by omega) (by omega) hzA ?_; intro v' w7 hown' hgrow hat; obtain ⟨Av, cv9, rfl, _⟩ := id hown'.slOf; obtain ⟨Rn, hRn⟩ : ∃ z, R ++ [(⟨p.id, sx.id, sb.id⟩ : Link)] = z := ⟨_, rfl⟩; rw [hRn] at hown' hat ⊢; have HRn := Lib.hid hRn; have HO7 := Lib.hid hown'; have HG7 := Lib.hid hgrow; have HA7 := Lib.hid hat; have m27 := (World.cell?_of_block (a := ⟨wo.heap.size, 2, none⟩) (hgrow.block wo.heap.size hzo (fun e => by have := HnB.out _ e.symm; omega))).trans m2a; clear hRn hown' hgrow hat)
            have hb7 := ((below_trans hbw hba).grown HG7.out hzA (fun j e => (HOt.out.lt j e).1))
            have hRnl : Rn.length = R.length + 1 := by rw [← HRn.out, List.length_append]; rfl
            refine ⟨?rel, ?measure⟩
            case rel => exact ⟨tb, N', acc ++ [p], Rn, by go_num, htl, HO7.out, hb7, Lib.hid (by rw [← Hsn.out]; exact HRn.out.symm), Hstep⟩
            case measure => simp [qLen]; omega
        obtain ⟨pj, hpj⟩ := get_of_lt hlt
        obtain ⟨_, _, ex, _, _, hpc⟩ := HP5.out.cells
        cases ex
        obtain ⟨bp, op, rfl, _, hpb⟩ := hpc j hlt
        obtain ⟨y0, y1, y2⟩ := hpb wt hbw j pj hpj
        have hpm := List.mem_of_getElem? hpj
        obtain ⟨⟨hf0, hfn'⟩, hr0, hrn⟩ := Hin.out pj hpm
        have HbN : Hid (bestF f (idAt l) (x : Int) (P.take (j + 1)) = bestS f (idAt l) (x : Int) bo pj) := Lib.hid (by rw [bestF_snoc hpj, Hbo.out])
        have Hbk : Hid (∀ q, bo = some q → 0 ≤ q.id) := Lib.hid fun q hq => by
          have h1 := Hbo.out
          rw [hq] at h1
          exact Hkd.out q (best_in h1)
        have hbcr : 0 ≤ (bestC bo).rev ∧ (bestC bo).rev < l.length := by
          cases bo with
          | none => exact ⟨Int.le_refl _, by show (0 : Int) < _; omega⟩
          | some q => exact (Hin.out q (best_in Hbo.out)).2
        obtain ⟨bc, hbc⟩ : ∃ q, bestC bo = q := ⟨_, rfl⟩
        rw [hbc] at Hk hbcr
        have Hbc := Lib.hid hbc
        obtain ⟨fi, hfi⟩ : ∃ i : Nat, pj.obv = i := ⟨pj.obv.toNat, by omega⟩
        obtain ⟨ti, hti⟩ : ∃ i : Nat, pj.rev = i := ⟨pj.rev.toNat, by omega⟩
        obtain ⟨bt, hbtv⟩ : ∃ i : Nat, bc.rev = i := ⟨bc.rev.toNat, by omega⟩
        have htin : ti < l.length := by omega
        have hbtin : bt < l.length := by omega
        obtain ⟨Z1, Z2, hZ1, hZ2, HzZ2, hkZ1, hkZ2, hbZ2, hltZ2⟩ := fresh wt [.int .i64 0, .int .i64 0, .int .i64 0] [.int .i64 pj.id, .int .i64 pj.obv, .int .i64 pj.rev] 63 rfl
        have hsZ2 : ((Z1.setCell ⟨wt.heap.size, 0, none⟩ (.int .i64 pj.id)).setCell ⟨wt.heap.size, 1, none⟩ (.int .i64 pj.obv)).setCell ⟨wt.heap.size, 2, none⟩ (.int .i64 pj.rev) = Z2 := hZ2
        clear hZ2
        obtain ⟨⟨z0, z1, z2⟩, f0, f1, f2⟩ := cells3 hkZ1
        obtain ⟨⟨q0, q1, q2⟩, _⟩ := cells3 hkZ2
        have hk2 := heap_below Hk.out hbZ2 (heap_lt Hk.out)
        obtain ⟨⟨m0, m1, m2⟩, _⟩ := cells3 hk2
        have hbZ := below_trans hbt hbZ2
        have hbwZ := below_trans hbw hbZ2
        have hwwZ := below_trans hww hbZ2
        have hrowZ := Hrow.out.below hbwZ
        obtain ⟨F, hF⟩ : ∃ F, f (ti : Int) = F := ⟨_, rfl⟩
        obtain ⟨G, hG⟩ : ∃ F, f (bt : Int) = F := ⟨_, rfl⟩
        have c0 := (hrowZ.cell (rowF_get f htin)).1
        have c1 := (hrowZ.cell (rowF_get f hbtin)).1
        rw [hF] at c0
        rw [hG] at c1
        obtain ⟨st, hst⟩ := get_of_lt htin
        obtain ⟨sb, hsb⟩ := get_of_lt hbtin
        obtain ⟨_, _, ex, _, _, hlc⟩ := Hh.out.cells
        cases ex
        obtain ⟨bl, ol, rfl, _, hlb⟩ := hlc ti htin
        have g0 := (hlb Z2 hwwZ ti st hst).1
        have g1 := (hlb Z2 hwwZ bt sb hsb).1
        have HkZ2 := Lib.hid hkZ2; have Hk2 := Lib.hid hk2
        have Hpm := Lib.hid hpm
        have HF := Lib.hid hF; have HG2 := Lib.hid hG
        have Hfi := Lib.hid hfi; have Hti := Lib.hid hti; have Hbtv := Lib.hid hbtv
        have HIt : Hid (idAt l (ti : Int) = st.id) := Lib.hid (idAt_get hst)
        have HIb : Hid (idAt l (bt : Int) = sb.id) := Lib.hid (idAt_get hsb)
        have hj1 : (j : Int) < (P.length : Int) := by omega
        have hj0 : (0 : Int) ≤ (j : Int) := by omega
        have hti1 : (ti : Int) < (l.length : Int) := by omega
        have hti0 : (0 : Int) ≤ (ti : Int) := by omega
        have hbt1 : (bt : Int) < (l.length : Int) := by omega
        have hbt0 : (0 : Int) ≤ (bt : Int) := by omega
        have hmax : max (bt : Int) 0 = (bt : Int) := Int.max_eq_left (by omega)
        have Hcand : Hid (candB f (x : Int) pj = (decide ((fi : Int) = (x : Int)) && decide (0 ≤ F))) := Lib.hid (by rw [candB, hfi, hti, hF])
        rw [hfi] at y1 q1 hsZ2
        rw [hti] at y2 q2 hsZ2
        rw [hbtv] at m2
        have HkZ3 : Hid (Z2.heap[wt.heap.size]? = some (.cells [.int .i64 pj.id, .int .i64 (fi : Int), .int .i64 (ti : Int)].toArray 63 (0, 0))) := Lib.hid (by rw [← hfi, ← hti]; exact hkZ2)
        clear hpc hpb hpj hkZ1 hkZ2 hk2 hrowZ hF hG hf0 hfn' hr0 hrn hfi hti hbtv hbc hlc hlb hst hsb hbcr hpm
        by_cases hcf : (fi : Int) = (x : Int)
        case neg =>
          have t1 : ((fi : Int) == (x : Int)) = false := by simpa using hcf
          have t2 : ((fi : Int) != (x : Int)) = true := by simp [bne, t1]
          have HN : Hid (bestF f (idAt l) (x : Int) (P.take (j + 1)) = bo) := Lib.hid (by rw [HbN.out]; exact best_skip (by rw [Hcand.out, decide_eq_false hcf]; rfl))
          clear hcf
          go_wp2_with fail
          clear q0 q1 q2 m0 m1 m2 c0 c1 g0 g1 z0 z1 z2 f0 f1 f2 hsZ2 hZ1
          refine ⟨?rel, ?measure⟩
          case rel => exact ⟨j + 1, by omega, by go_num, hbZ, Lib.hid (by rw [HN.out, Hbc.out]; exact Hk2.out)⟩
          case measure => first | (simp [intOf]; done) | (simp [intOf]; omega)
        have t1 : ((fi : Int) == (x : Int)) = true := by simpa using hcf
        have t2 : ((fi : Int) != (x : Int)) = false := by simp [bne, t1]
        by_cases hF0 : F < 0
        case pos =>
          have t3 : decide (F < 0) = true := decide_eq_true hF0
          have HN : Hid (bestF f (idAt l) (x : Int) (P.take (j + 1)) = bo) := Lib.hid (by rw [HbN.out]; exact best_skip (by rw [Hcand.out, decide_eq_false (show ¬ 0 ≤ F by omega), Bool.and_false]))
          clear hcf
          go_wp2_with fail
          clear q0 q1 q2 m0 m1 m2 c0 c1 g0 g1 z0 z1 z2 f0 f1 f2 hsZ2 hZ1
          refine ⟨?rel, ?measure⟩
          case rel => exact ⟨j + 1, by omega, by go_num, hbZ, Lib.hid (by rw [HN.out, Hbc.out]; exact Hk2.out)⟩
          case measure => first | (simp [intOf]; done) | (simp [intOf]; omega)
        have t3 : decide (F < 0) = false := decide_eq_false hF0
        have HNear : Hid (nearI f (idAt l) pj bc = or3I (cmpI F G) (cmpI st.id sb.id) (cmpI pj.id bc.id)) := Lib.hid (by rw [nearI, Hti.out, Hbtv.out, HF.out, HG2.out, HIt.out, HIb.out])
        have hC1 : ∀ y : Later Z2, Calls Tryz.prog 20 #[.int .i64 F, .int .i64 G] y.to fun e w' => e = .returned (.int .i64 (cmpI F G)) ∧ y.to = w' := fun y => (AnyG.cmp_Compare_int Tryz.layCmp F G y.to).mono fun e w' h => ⟨by rw [← cmpI_eq]; exact h.1, h.2.symm⟩
        have hC2 : ∀ y : Later Z2, Calls Tryz.prog 20 #[.int .i64 st.id, .int .i64 sb.id] y.to fun e w' => e = .returned (.int .i64 (cmpI st.id sb.id)) ∧ y.to = w' := fun y => (AnyG.cmp_Compare_int Tryz.layCmp st.id sb.id y.to).mono fun e w' h => ⟨by rw [← cmpI_eq]; exact h.1, h.2.symm⟩
        have hC3 : ∀ y : Later Z2, Calls Tryz.prog 20 #[.int .i64 pj.id, .int .i64 bc.id] y.to fun e w' => e = .returned (.int .i64 (cmpI pj.id bc.id)) ∧ y.to = w' := fun y => (AnyG.cmp_Compare_int Tryz.layCmp pj.id bc.id y.to).mono fun e w' h => ⟨by rw [← cmpI_eq]; exact h.1, h.2.symm⟩
        obtain ⟨K1, hK1⟩ : ∃ K, cmpI F G = K := ⟨_, rfl⟩
        obtain ⟨K2, hK2⟩ : ∃ K, cmpI st.id sb.id = K := ⟨_, rfl⟩
        obtain ⟨K3, hK3⟩ : ∃ K, cmpI pj.id bc.id = K := ⟨_, rfl⟩
        rw [hK1, hK2, hK3] at HNear
        rw [hK1] at hC1
        rw [hK2] at hC2
        rw [hK3] at hC3
        have HC1 := Lib.hid hC1; have HC2 := Lib.hid hC2; have HC3 := Lib.hid hC3
        have Q0 := Later.cell_all q0; have Q2 := Later.cell_all q2; have M0 := Later.cell_all m0; have M2 := Later.cell_all m2; have C0 := Later.cell_all c0; have C1 := Later.cell_all c1; have G0 := Later.cell_all g0; have G1 := Later.cell_all g1
        have Hc : Hid (candB f (x : Int) pj = true) := Lib.hid (by rw [Hcand.out, decide_eq_true hcf, decide_eq_true (show 0 ≤ F by omega)]; rfl)
        clear hcf hC1 hC2 hC3 hK1 hK2 hK3
        go_wp2_with fail
        clear z0 z1 z2 f0 f1 f2 hsZ2 hZ1
        refine wp_region_later_tail 30 (by kernel_rfl) (by kernel_rfl) ?_
        simp only [List.take_succ_cons, List.take_zero, List.drop_succ_cons, List.drop_zero]
        repeat (go_big_quiet_step (first | (go_at_call 20; with_reducible exact calls_later_same (HC1.out _)) | (go_at_call 20; with_reducible exact calls_later_same (HC2.out _)) | (go_at_call 20; with_reducible exact calls_later_same (HC3.out _))))
        refine wpQuiet_nil ?_
        intro _ hw'
        obtain ⟨xq, hw''⟩ := hw'
        subst hw''
        have hbq := xq.h
        generalize xq.to = wq at hbq ⊢
        clear Q0 Q2 M0 M2 C0 C1 G0 G1 HC1 HC2 HC3 q0 q1 q2 m0 m1 m2 c0 c1 g0 g1
        obtain ⟨W8, hW8, Hz8, hb8, hlt8, hc8⟩ := boxed wq #[.int .i64 K1, .int .i64 K2, .int .i64 K3] 3
        have u0 := hc8 0 _ rfl; have u1 := hc8 1 _ rfl; have u2 := hc8 2 _ rfl
        clear hc8
        have hbq8 := below_trans hbq hb8
        have hb9 := below_trans hbZ hbq8
        have hkb := heap_below Hk2.out hbq8 (heap_lt Hk2.out)
        have hkp := heap_below HkZ3.out hbq8 (heap_lt HkZ3.out)
        rw [Hbtv.out] at hkb
        obtain ⟨⟨m0, m1, m2⟩, n0, n1, n2⟩ := cells3 hkb
        obtain ⟨⟨q0, q1, q2⟩, _⟩ := cells3 hkp
        have Hkb := Lib.hid hkb
        have Hgo2 := Lib.hid (best_go (f := f) (I := idAt l) Hc.out Hbk.out)
        clear hkb hkp
        go_wp2_with fail
        refine (Or3_ok _ K1 K2 K3 W8 u0 u1 u2).mono ?_
        rintro e w9 ⟨rfl, rfl⟩
        clear u0 u1 u2 hW8
        obtain ⟨NR, hNR⟩ : ∃ z, or3I K1 K2 K3 = z := ⟨_, rfl⟩
        rw [hNR]
        rw [hNR] at HNear
        clear hNR
        have Hset := Lib.hid (heap_setCells [.int .i64 pj.id, .int .i64 (fi : Int), .int .i64 (ti : Int)] [] [.int .i64 bc.id, .int .i64 bc.obv, .int .i64 (bt : Int)] W8 Hkb.out rfl)
        have HbS := Lib.hid (hb9.grown (setCells_grown wo.heap.size [.int .i64 pj.id, .int .i64 (fi : Int), .int .i64 (ti : Int)] W8 0) hb9.size (fun j e => by cases e; exact Nat.le_refl _))
        by_cases h1 : bc.id < 0
        · have d1 : decide (bc.id < 0) = true := decide_eq_true h1
          have HN : Hid (bestF f (idAt l) (x : Int) (P.take (j + 1)) = some pj) := Lib.hid (by rw [HbN.out, Hgo2.out, Hbc.out, if_pos (.inl h1)])
          clear h1
          go_wp2_with fail
          refine ⟨?rel, ?measure⟩
          case rel => exact ⟨j + 1, by omega, by go_num, HbS.out, Lib.hid (by rw [HN.out]; show _ = some (Obj.cells [.int .i64 pj.id, .int .i64 pj.obv, .int .i64 pj.rev].toArray _ (0, 0)); rw [Hfi.out, Hti.out]; exact Hset.out)⟩
          case measure => first | (simp [intOf]; done) | (simp [intOf]; omega)
        have d1 : decide (bc.id < 0) = false := decide_eq_false h1
        by_cases h2 : NR < 0
        · have d2 : decide (NR < 0) = true := decide_eq_true h2
          have HN : Hid (bestF f (idAt l) (x : Int) (P.take (j + 1)) = some pj) := Lib.hid (by rw [HbN.out, Hgo2.out, Hbc.out, HNear.out, if_pos (.inr h2)])
          clear h1 h2
          go_wp2_with fail
          refine ⟨?rel, ?measure⟩
          case rel => exact ⟨j + 1, by omega, by go_num, HbS.out, Lib.hid (by rw [HN.out]; show _ = some (Obj.cells [.int .i64 pj.id, .int .i64 pj.obv, .int .i64 pj.rev].toArray _ (0, 0)); rw [Hfi.out, Hti.out]; exact Hset.out)⟩
          case measure => first | (simp [intOf]; done) | (simp [intOf]; omega)
        · have d2 : decide (NR < 0) = false := decide_eq_false h2
          have HN : Hid (bestF f (idAt l) (x : Int) (P.take (j + 1)) = bo) := Lib.hid (by rw [HbN.out, Hgo2.out, Hbc.out, HNear.out, if_neg (fun h => h.elim h1 h2)])
          clear h1 h2
          go_wp2_with fail
          refine ⟨?rel, ?measure⟩
          case rel => exact ⟨j + 1, by omega, by go_num, hb9, Lib.hid (by rw [HN.out, Hbc.out, Hbtv.out]; exact Hkb.out)⟩
          case measure => first | (simp [intOf]; done) | (simp [intOf]; omega)
end Go.Proofs.YtikfffojeakjoaaGreatDoor
