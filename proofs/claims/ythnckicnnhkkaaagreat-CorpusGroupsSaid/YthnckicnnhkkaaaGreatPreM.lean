/- Package precedence: gather in general. Condition: the arguments read as such. -/
import Derived.Test.YthnckicnnhkkaaaGreatPreA
import Derived.Deep.DeepCutAuto
import Derived.Test.YthnckicnnhkkaaaGreatQueD
import Derived.Test.YthnckicnnhkkaaaGreatCompB
import Derived.BigRegion
namespace Go.Proofs.YthnckicnnhkkaaaGreat
open Go.RowKit Go.Maps Go.Shelf

theorem infoPc : (Tryz.prog.info? 254).map (fun i => (i.zero, i.size, i.bytes)) = some (some (.agg #[.int .i64 0, .int .i64 0, .int .i64 0]), 3, 24) := by kernel_rfl
abbrev OwnPc (B : Nat) (w : World) (v : Value) (xs : List Link) : Prop := Own encL 3 254 B w v xs
/-- The place of an Id. -/
def plS (l : List Spec) (n : Int) : Int := firstI (fun s => s.id == n) l
def arcP (k : Int) (p : Pair) : Link := ⟨k, p.a, p.b⟩
def claP (l : List Spec) (c : Pair) : Link := ⟨2, plS l c.a, plS l c.b⟩
/-- The pieces of evidence: kind, from, to. -/
def sidesS (l : List Spec) : List Link := (arcsW 0 l l).map (arcP 0) ++ (arcsW 1 l l).map (arcP 1)
def piecesS (l : List Spec) (C : List Pair) : List Link := sidesS l ++ C.map (claP l)
def missB (l : List Spec) (c : Pair) : Bool := decide (plS l c.a < 0) || decide (plS l c.b < 0)
def sameB (l : List Spec) (c : Pair) : Bool := decide (plS l c.a = plS l c.b)
def gatherE (l : List Spec) (C : List Pair) : Int :=
  if checkE l = 0 then (if l.length ≤ 24 ∧ C.length ≤ 64 then (if C.any (missB l) = true then 7 else if C.any (sameB l) = true then 1 else 0) else 6) else checkE l
def sidesK (l : List Spec) (k : Nat) : List Link := (List.range k).flatMap fun (o : Nat) => (arcsW (o : Int) l l).map (arcP (o : Int))
theorem sidesK_succ (l : List Spec) (k : Nat) : sidesK l (k + 1) = sidesK l k ++ (arcsW (k : Int) l l).map (arcP (k : Int)) := by
  rw [sidesK, List.range_succ, List.flatMap_append]; simp [sidesK]
theorem sidesK_two (l : List Spec) : sidesK l 2 = sidesS l := by simp [sidesK, sidesS, List.range_succ]
def claK (l : List Spec) (C : List Pair) (j : Nat) : List Link := (C.take j).map (claP l)
def sameK (l : List Spec) (C : List Pair) (j : Nat) : Bool := (C.take j).any (sameB l)
def missK (l : List Spec) (C : List Pair) (j : Nat) : Prop := (C.take j).any (missB l) = false
structure EvS (V w : World) (g : Nat) (a pv : Value) (P : List Link) : Prop where
  row : w.heap[g]? = some (.cells [a, pv].toArray 213 (0, 0))
  own : OwnPc V.heap.size w pv P
  touch : Touch V w [g]
  lt : g < V.heap.size
section
variable {V w w' : World} {g : Nat} {a pv v' : Value} {P P' : List Link}
theorem EvS.below (h : EvS V w g a pv P) (hb : Below w.heap.size w w') : EvS V w' g a pv P :=
  ⟨heap_below h.row hb (heap_lt h.row), h.own.below hb, h.touch.trans (touch_below hb [g]), h.lt⟩
theorem EvS.grow (h : EvS V w g a pv P) (hg : w.grownBy w' pv.ownBlock) : w'.heap[g]? = some (.cells [a, pv].toArray 213 (0, 0)) ∧ Touch V w' [g] :=
  ⟨(hg.block g (heap_lt h.row) (fun e => by have := (h.own.lt g e.symm).1; have := h.lt; omega)).trans h.row, h.touch.trans_own hg fun j e => (h.own.lt j e).1⟩
theorem EvS.put (h : EvS V w g a pv P) (hg : w.grownBy w' pv.ownBlock) (ho : OwnPc V.heap.size w' v' P') : EvS V (w'.setCell ⟨g, 1, none⟩ v') g a v' P' := by
  obtain ⟨h1, h2⟩ := h.grow hg
  refine ⟨?_, ho.touch (S := [g]) (touch_set rfl (by simp)) (fun b hb => by rw [List.mem_singleton] at hb; subst hb; exact h.lt), h2.trans (touch_set rfl (by simp)), h.lt⟩
  have := heap_setCell_same w' g 1 _ _ v' h1
  rw [this]; simp
end
theorem arcs_len (o : Int) (l : List Spec) (hl : l.length ≤ 24) : (arcsW o l l).length ≤ 576 := by
  have h1 : ∀ (s : Spec) (i : Nat), (rowW o s i l).length ≤ 24 := fun s i => by
    unfold rowW
    exact Nat.le_trans (List.length_filterMap_le _ _) (by simpa using hl)
  have h2 : ∀ (xs : List (Spec × Nat)), (xs.flatMap fun p => rowW o p.1 p.2 l).length ≤ 24 * xs.length := fun xs => by
    induction xs with
    | nil => simp
    | cons x xs ih =>
      rw [List.flatMap_cons, List.length_append, List.length_cons]
      have := h1 x.1 x.2
      omega
  have := h2 l.zipIdx
  unfold arcsW
  have h3 : l.zipIdx.length = l.length := by simp
  omega
theorem sidesK_len (l : List Spec) (hl : l.length ≤ 24) : ∀ k, (sidesK l k).length ≤ 576 * k
  | 0 => by simp [sidesK]
  | k + 1 => by
    have := sidesK_len l hl k
    have := arcs_len (k : Int) l hl
    rw [sidesK_succ, List.length_append, List.length_map]
    omega
theorem touch_own' {w w' w'' : World} {S : List Nat} {row : Option Nat} (h : Touch w w' S) (k : w'.grownBy w'' row) (hr : ∀ j, row = some j → j ∈ S ∨ w.heap.size ≤ j) : Touch w w'' S :=
  ⟨k.os.trans h.os, k.tape.trans h.tape, k.output.trans h.output, Nat.le_trans h.size k.size, fun i hi hn => (k.block i (Nat.lt_of_lt_of_le hi h.size) fun e => by
    rcases hr i e.symm with h1 | h1
    · exact hn h1
    · omega).trans (h.block i hi hn)⟩
set_option maxHeartbeats 16000000 in
set_option maxRecDepth 100000 in
theorem gather_ok (A : Option Addr) (c : Nat) (l : List Spec) (cv : Value) (C : List Pair) (w : World) (h : Specs w (.slice A l.length c) l) (hC : Pairs w cv C) :
    Calls Tryz.prog 175 #[.slice A l.length c, cv] w fun e w' => (∃ pv, e = .returned (.tuple #[.agg #[.slice A l.length c, pv], .int .i64 0]) ∧ gatherE l C = 0 ∧ SlOf encL 3 w' pv (piecesS l C) ∧ Below w.heap.size w w') ∨ (∃ E, e = .returned (.tuple #[.agg #[.slice none 0 0, .slice none 0 0], .int .i64 E]) ∧ (E = gatherE l C ∧ E ≠ 0) ∧ Below w.heap.size w w') := by
  obtain ⟨W, hW, Hz, hbW, hltW, hcx⟩ := boxed w #[.slice none 0 0, .slice none 0 0] 213
  clear hcx
  have hk : W.heap[w.heap.size]? = some (.cells [.slice none 0 0, .slice none 0 0].toArray 213 (0, 0)) := by rw [← hW]; exact heap_alloc_new _ _
  have h0 := h.below hbW
  obtain ⟨Ac, cc, rfl, _⟩ := id hC
  have HC := Lib.hid (SCheck_ok _ l W h0)
  have Hh := Lib.hid h0; have HCC := Lib.hid (show Pairs W _ C from hC.below hbW)
  obtain ⟨E, hE⟩ : ∃ E, checkE l = E := ⟨_, rfl⟩
  rw [hE] at HC
  have HE := Lib.hid hE
  clear h h0 hC hE
  go_enter Tryz.func175, Tryz.ntmps175
  go_wp2_with fail
  refine HC.out.mono ?_
  rintro e w1 ⟨rfl, hb1⟩
  have hw1 := below_trans hbW hb1
  have hk1 := heap_below hk hb1 (heap_lt hk)
  have Hk1 := Lib.hid hk1
  clear hW hk hk1 HC
  by_cases hE0 : E = 0
  case neg =>
    have t : (E != 0) = true := by simpa using hE0
    have HG : Hid (E = gatherE l C ∧ E ≠ 0) := Lib.hid ⟨by rw [gatherE, if_neg (by rw [HE.out]; exact hE0), HE.out], hE0⟩
    obtain ⟨⟨e0, e1⟩, g0, g1⟩ := cells2' (show w1.heap[w.heap.size]? = some (.cells #[.slice none 0 0, .slice none 0 0] 213 (0, 0)) from Hk1.out)
    clear hE0
    go_wp2_with fail
    exact bodyPost_ret (results_cell_tmp_row rfl _ _ w.heap.size 213 #[.slice none 0 0, .slice none 0 0] (0, 0) _ (by simp) (heap_set2 Hk1.out) Tryz.underlying213 rfl (by kernel_rfl)) rfl (.inr ⟨_, rfl, HG.out, (hw1).grown (setCells_grown w.heap.size [.slice none 0 0, .slice none 0 0] w1 0) (hw1).size (fun j e => by cases e; exact Nat.le_refl _)⟩)
  have t : (E != 0) = false := by simp [hE0]
  have HEz : Hid (checkE l = 0) := Lib.hid (by rw [HE.out, hE0])
  subst hE0
  by_cases hl : l.length ≤ 24 ∧ C.length ≤ 64
  case neg =>
    have HG : Hid ((6 : Int) = gatherE l C ∧ (6 : Int) ≠ 0) := Lib.hid ⟨by rw [gatherE, if_pos HEz.out, if_neg hl], by decide⟩
    obtain ⟨⟨e0, e1⟩, g0, g1⟩ := cells2' (show w1.heap[w.heap.size]? = some (.cells #[.slice none 0 0, .slice none 0 0] 213 (0, 0)) from Hk1.out)
    by_cases h1 : l.length ≤ 24
    · have t1 : decide ((24 : Int) < (l.length : Int)) = false := by simp; omega
      have t2 : decide ((64 : Int) < (C.length : Int)) = true := by simp; omega
      have t3 : (l.length : Int) ≤ 24 := by omega
      have t4 : (64 : Int) < (C.length : Int) := by omega
      clear hl h1
      go_wp2_with fail
      exact bodyPost_ret (results_cell_tmp_row rfl _ _ w.heap.size 213 #[.slice none 0 0, .slice none 0 0] (0, 0) _ (by simp) (heap_set2 Hk1.out) Tryz.underlying213 rfl (by kernel_rfl)) rfl (.inr ⟨_, rfl, HG.out, (hw1).grown (setCells_grown w.heap.size [.slice none 0 0, .slice none 0 0] w1 0) (hw1).size (fun j e => by cases e; exact Nat.le_refl _)⟩)
    · have t1 : decide ((24 : Int) < (l.length : Int)) = true := by simp; omega
      have t3 : (24 : Int) < (l.length : Int) := by omega
      clear hl h1
      go_wp2_with fail
      exact bodyPost_ret (results_cell_tmp_row rfl _ _ w.heap.size 213 #[.slice none 0 0, .slice none 0 0] (0, 0) _ (by simp) (heap_set2 Hk1.out) Tryz.underlying213 rfl (by kernel_rfl)) rfl (.inr ⟨_, rfl, HG.out, (hw1).grown (setCells_grown w.heap.size [.slice none 0 0, .slice none 0 0] w1 0) (hw1).size (fun j e => by cases e; exact Nat.le_refl _)⟩)
  obtain ⟨hl24, hC64⟩ := hl
  have t1 : decide ((24 : Int) < (l.length : Int)) = false := by simp; omega
  have t2 : decide ((64 : Int) < (C.length : Int)) = false := by simp; omega
  have t3 : (l.length : Int) ≤ 24 := by omega
  have t4 : (C.length : Int) ≤ 64 := by omega
  obtain ⟨V1, V2, hV1, hV2, HzV2, hkV1, hkV2, hbV2, hltV2⟩ := fresh w1 [.slice none 0 0, .slice none 0 0] [.slice A l.length c, .slice none 0 0] 213 rfl
  have hsV2 : (V1.setCell ⟨w1.heap.size, 0, none⟩ (.slice A l.length c)).setCell ⟨w1.heap.size, 1, none⟩ (.slice none 0 0) = V2 := hV2
  clear hV2
  obtain ⟨⟨z0, z1⟩, f0, f1⟩ := cells2 hkV1
  have hw2 := below_trans hw1 hbV2
  have Hk2 := Lib.hid (heap_below Hk1.out hbV2 (heap_lt Hk1.out))
  have HEv : Hid (EvS V2 V2 w1.heap.size (.slice A l.length c) (.slice none 0 0) (sidesK l 0)) := Lib.hid ⟨hkV2, own_nil _ _ _ _ _, Touch.refl _ _, hltV2⟩
  have hgw : w.heap.size < w1.heap.size := Nat.lt_of_lt_of_le hltW hb1.size
  clear hkV1 hkV2
  go_wp2_with fail
  clear z0 z1 f0 f1 hsV2 hV1 t
  obtain ⟨iP, hiP, hzP, hkP, hbP⟩ := info_parts infoPc
  go_loopw [34] (fun i wr => ∃ (k : Nat) (pv : Value), k ≤ 2 ∧ i = .int .i64 k ∧ EvS V2 wr w1.heap.size (.slice A l.length c) pv (sidesK l k)) (fun i _ => 2 - (intOf i).toNat)
  case atStart => exact ⟨0, _, by omega, rfl, HEv.out⟩
  case round =>
    obtain ⟨k, pv, hk, rfl, hev⟩ := hrel
    have hwr1 : Below w1.heap.size w1 wr := ((touch_below hbV2 [w1.heap.size]).trans hev.touch).below (by simp) (Nat.le_refl _)
    have hwr := below_trans hw1 hwr1
    by_cases hlt : k < 2
    case pos =>
      have HB := Lib.hid (wBefore_ok _ l (k : Int) wr (Hh.out.below (below_trans hb1 hwr1)) HEz.out (by omega))
      have hlt2 : (k : Int) < 2 := by omega
      have hQl := sidesK_len l hl24 k
      have hXl := arcs_len (k : Int) l hl24
      have hss := sidesK_succ l k
      obtain ⟨Q, hQ⟩ : ∃ Q, sidesK l k = Q := ⟨_, rfl⟩
      obtain ⟨X, hX⟩ : ∃ X, arcsW (k : Int) l l = X := ⟨_, rfl⟩
      rw [hX] at HB hXl hss
      rw [hQ] at hev hQl hss
      have Hss := Lib.hid hss; have Hev := Lib.hid hev
      clear hss hQ hX hev
      go_wp2_with fail
      refine HB.out.mono ?_
      rintro e w3 ⟨u, rfl, hu, hb3⟩
      have Hev3 := Lib.hid (Hev.out.below hb3)
      have Hu := Lib.hid hu
      obtain ⟨Au, cu, rfl, _⟩ := id hu.slOf
      have hwz : w1.heap.size < wr.heap.size := by have := Hev.out.touch.size; omega
      have hpz : ∀ q, pv.ownBlock = some q → q < wr.heap.size := fun q hq => (Hev.out.own.lt q hq).2
      have Hpz := Lib.hid hpz
      clear hu hpz
      go_wp2_with fail
      go_loopw [45] (fun i wr => ∃ (j : Nat) (pv' : Value), j ≤ X.length ∧ i = .int .i64 j ∧ EvS V2 wr w1.heap.size (.slice A l.length c) pv' (Q ++ (X.take j).map (arcP (k : Int))) ∧ Touch w3 wr (w1.heap.size :: pv.ownBlock.toList) ∧ Hid (∀ q, pv'.ownBlock = some q → q ∈ w1.heap.size :: pv.ownBlock.toList ∨ w3.heap.size ≤ q)) (fun i _ => X.length - (intOf i).toNat)
      case atStart => exact ⟨0, pv, Nat.zero_le _, rfl, by simpa using Hev3.out, Touch.refl _ _, Lib.hid (fun q hq => .inl (by simp [hq]))⟩
      case round =>
        obtain ⟨wt, hwt0⟩ : ∃ z, z = wr := ⟨_, rfl⟩
        subst hwt0
        obtain ⟨j, pv', hj, rfl, hev', hT, Hq⟩ := hrel
        by_cases hltj : j < X.length
        case neg =>
          have HN : Hid (sidesK l (k + 1) = Q ++ (X.take j).map (arcP (k : Int))) := Lib.hid (by rw [Hss.out, List.take_of_length_le (by omega)])
          have HE' := Lib.hid hev'
          clear hev' hT
          go_wp2_with fail
          refine ⟨?rel, ?measure⟩
          case rel => exact ⟨k + 1, pv', by omega, by go_num, by rw [HN.out]; exact HE'.out⟩
          case measure => first | (simp [intOf]; done) | (simp [intOf]; omega)
        obtain ⟨x, hx⟩ := get_of_lt hltj
        rcases Hu.out.cases with ⟨_, h2⟩ | ⟨q, cap, hv, hBq, hql, _, _⟩
        · rw [h2] at hltj; simp at hltj
        obtain ⟨rfl, rfl⟩ : Au = some ⟨q, 0, none⟩ ∧ cu = cap := by simpa using hv
        have hqS : q ∉ w1.heap.size :: pv.ownBlock.toList := by
          rw [List.mem_cons]
          rintro (e | e)
          · omega
          · cases ho : pv.ownBlock with
            | none => rw [ho] at e; simp at e
            | some z => rw [ho] at e; simp at e; have := Hpz.out z ho; omega
        have c0 := (Hu.out.cellsAt lenP rfl hx (j := 0) (u := .int .i64 x.a) rfl).1
        have c1 := (Hu.out.cellsAt lenP rfl hx (j := 1) (u := .int .i64 x.b) rfl).1
        have y0 := cell_off hT (a := ⟨q, j * 2 + 0, none⟩) hqS c0; have y1 := cell_off hT (a := ⟨q, j * 2 + 1, none⟩) hqS c1
        simp only [Nat.add_zero] at y0
        obtain ⟨Z1, Z2, hZ1, hZ2, HzZ2, hkZ1, hkZ2, hbZ2, hltZ2⟩ := fresh wt [.int .i64 0, .int .i64 0] [.int .i64 x.a, .int .i64 x.b] 177 rfl
        have hsZ2 : (Z1.setCell ⟨wt.heap.size, 0, none⟩ (.int .i64 x.a)).setCell ⟨wt.heap.size, 1, none⟩ (.int .i64 x.b) = Z2 := hZ2
        clear hZ2
        obtain ⟨⟨z0, z1⟩, f0, f1⟩ := cells2 hkZ1
        obtain ⟨⟨s0, s1⟩, _⟩ := cells2 hkZ2
        have hev2 := hev'.below hbZ2
        obtain ⟨⟨p0, p1⟩, _⟩ := cells2 hev2.row
        have hown2 := hev2.own
        have hPl : (Q ++ (X.take j).map (arcP (k : Int))).length ≤ 1728 := by rw [List.length_append, List.length_map, List.length_take]; omega
        have htk : (X.take (j + 1)).map (arcP (k : Int)) = (X.take j).map (arcP (k : Int)) ++ [arcP (k : Int) x] := by rw [take_snoc' hx, List.map_append]; rfl
        have Hev2 := Lib.hid hev2; have HTz := Lib.hid (hT.trans (touch_below hbZ2 (w1.heap.size :: pv.ownBlock.toList)))
        have Htk := Lib.hid htk
        have hj1 : (j : Int) < (X.length : Int) := by omega
        have hj0 : (0 : Int) ≤ (j : Int) := by omega
        have hzV : V2.heap.size ≤ Z2.heap.size := Hev2.out.touch.size
        clear hv hx c0 c1 hkZ1 hkZ2 hev2 hev' hT htk
        go_wp2_with (at_builtin; refine wpList_append1 (enc := encL) (size := 3) (B := V2.heap.size) rfl (.tmp 50) (.tmp 57) _ rfl 254 iP _ 24 Tryz.underlying211 hiP hzP hkP hbP rfl (by decide) rfl hown2 (arcP (k : Int) x) _ rfl lenL oneL _ rfl rfl (by omega) (by omega) hzV ?_; intro v' w7 hown' hgrow hat; obtain ⟨Av, cv9, rfl, _⟩ := id hown'.slOf; obtain ⟨nn, hnn⟩ : ∃ nn, (Q ++ (X.take j).map (arcP (k : Int)) ++ [arcP (k : Int) x]).length = nn := ⟨_, rfl⟩; rw [hnn] at hown' hat ⊢; clear hnn; obtain ⟨hr7, ht7⟩ := Hev2.out.grow hgrow; obtain ⟨⟨r0, r1⟩, e0, e1⟩ := cells2' (show w7.heap[w1.heap.size]? = some (.cells #[.slice A l.length c, pv'] 213 (0, 0)) from hr7); have HE7 := Lib.hid (Hev2.out.put hgrow hown'); have HG7 := Lib.hid hgrow; have HA7 := Lib.hid hat; clear hr7 ht7 hgrow hat)
        have HqN : Hid (∀ q', (Value.slice Av nn cv9).ownBlock = some q' → q' ∈ w1.heap.size :: pv.ownBlock.toList ∨ w3.heap.size ≤ q') := Lib.hid fun q' hq' => by
          rcases HA7.out with e | e
          · rw [e] at hq'; exact Hq.out q' hq'
          · rw [e] at hq'; cases hq'; exact .inr (by have := HTz.out.size; omega)
        have HTN := Lib.hid ((touch_own' HTz.out HG7.out (fun j' e => Hq.out j' e)).trans (touch_set (a := ⟨w1.heap.size, 1, none⟩) (x := .slice Av nn cv9) (S := w1.heap.size :: pv.ownBlock.toList) rfl (by simp)))
        have HQE : Hid (Q ++ (X.take (j + 1)).map (arcP (k : Int)) = Q ++ (X.take j).map (arcP (k : Int)) ++ [arcP (k : Int) x]) := Lib.hid (by rw [Htk.out, List.append_assoc])
        refine ⟨?rel, ?measure⟩
        case rel => exact ⟨j + 1, _, by omega, by go_num, by rw [HQE.out]; exact HE7.out, HTN.out, HqN⟩
        case measure => simp [intOf]; omega
    have hk2 : k = 2 := by omega
    subst hk2
    rw [sidesK_two] at hev
    have Hev := Lib.hid hev
    obtain ⟨QS, hQS⟩ : ∃ Q, sidesS l = Q := ⟨_, rfl⟩
    rw [hQS] at Hev
    have HQS := Lib.hid hQS
    have hQl : QS.length ≤ 1152 := by rw [← hQS, ← sidesK_two]; exact sidesK_len l hl24 2
    clear hev hQS
    go_wp2_with fail
    go_loopw [13, 64] (fun bv i wr => ∃ (j : Nat) (pv' : Value), j ≤ C.length ∧ bv = .bool (sameK l C j) ∧ i = .int .i64 j ∧ missK l C j ∧ EvS V2 wr w1.heap.size (.slice A l.length c) pv' (QS ++ claK l C j)) (fun _ i _ => C.length - (intOf i).toNat)
    case atStart => exact ⟨0, pv, Nat.zero_le _, rfl, rfl, rfl, by simpa [claK] using Hev.out⟩
    case round =>
      clear hwr hwr1 Hev
      obtain ⟨wt, hwt0⟩ : ∃ z, z = wr := ⟨_, rfl⟩
      subst hwt0
      obtain ⟨j, pv', hj, rfl, rfl, Hm0, hev⟩ := hrel
      have Hm : Hid ((C.take j).any (missB l) = false) := Lib.hid Hm0
      clear Hm0
      have hwr1 : Below w1.heap.size w1 wt := ((touch_below hbV2 [w1.heap.size]).trans hev.touch).below (by simp) (Nat.le_refl _)
      have hwr := below_trans hw1 hwr1
      have hWt := below_trans hb1 hwr1
      have Hkr := Lib.hid ((hev.touch.block w.heap.size (heap_lt Hk2.out) (by simp; omega)).trans Hk2.out)
      by_cases hltj : j < C.length
      case neg =>
        have hte : C.take j = C := List.take_of_length_le (by omega)
        rw [hte] at Hm
        rw [claK, hte] at hev
        rw [sameK, hte]
        have hP : QS ++ C.map (claP l) = piecesS l C := by rw [piecesS, HQS.out]
        rw [hP] at hev
        obtain ⟨T, hT⟩ : ∃ T, C.any (sameB l) = T := ⟨_, rfl⟩
        rw [hT]
        have hgE : gatherE l C = if T = true then 1 else 0 := by rw [gatherE, if_pos HEz.out, if_pos ⟨hl24, hC64⟩, if_neg (by rw [Hm.out]; simp), hT]
        obtain ⟨⟨e0, e1⟩, g0, g1⟩ := cells2' (show wt.heap[w.heap.size]? = some (.cells #[.slice none 0 0, .slice none 0 0] 213 (0, 0)) from Hkr.out)
        obtain ⟨⟨p0, p1⟩, _⟩ := cells2 hev.row
        obtain ⟨Ap, cp, rfl, _⟩ := id hev.own.slOf
        have Hev := Lib.hid hev; have HgE := Lib.hid hgE
        clear hte hP hT hev hgE
        cases T
        · have HO := Lib.hid (Hev.out.own.touch (S := [w.heap.size]) (grown_touch (setCells_grown w.heap.size [.slice A l.length c, .slice Ap (piecesS l C).length cp] wt 0) (by simp)) (fun b hb => by rw [List.mem_singleton] at hb; subst hb; have := hltV2; omega)).slOf
          go_wp2_with fail
          exact bodyPost_ret (results_cell_tmp_row rfl _ _ w.heap.size 213 #[.slice A l.length c, .slice Ap (piecesS l C).length cp] (0, 0) _ (by simp) (heap_set2 Hkr.out) Tryz.underlying213 rfl (by kernel_rfl)) rfl (.inl ⟨_, rfl, HgE.out, HO.out, hwr.grown (setCells_grown w.heap.size [.slice A l.length c, .slice Ap (piecesS l C).length cp] wt 0) hwr.size (fun j e => by cases e; exact Nat.le_refl _)⟩)
        · have HG : Hid ((1 : Int) = gatherE l C ∧ (1 : Int) ≠ 0) := Lib.hid ⟨HgE.out.symm, by decide⟩
          go_wp2_with fail
          exact bodyPost_ret (results_cell_tmp_row rfl _ _ w.heap.size 213 #[.slice none 0 0, .slice none 0 0] (0, 0) _ (by simp) (heap_set2 Hkr.out) Tryz.underlying213 rfl (by kernel_rfl)) rfl (.inr ⟨_, rfl, HG.out, (hwr).grown (setCells_grown w.heap.size [.slice none 0 0, .slice none 0 0] wt 0) (hwr).size (fun j e => by cases e; exact Nat.le_refl _)⟩)
      obtain ⟨x, hx⟩ := get_of_lt hltj
      obtain ⟨_, _, ex, _, _, hcc⟩ := HCC.out.cells
      cases ex
      obtain ⟨bo, o, rfl, _, hcb⟩ := hcc j hltj
      obtain ⟨y0, y1⟩ := hcb wt hWt j x hx
      obtain ⟨Z1, Z2, hZ1, hZ2, HzZ2, hkZ1, hkZ2, hbZ2, hltZ2⟩ := fresh wt [.int .i64 0, .int .i64 0] [.int .i64 x.a, .int .i64 x.b] 87 rfl
      have hsZ2 : (Z1.setCell ⟨wt.heap.size, 0, none⟩ (.int .i64 x.a)).setCell ⟨wt.heap.size, 1, none⟩ (.int .i64 x.b) = Z2 := hZ2
      clear hZ2
      obtain ⟨⟨z0, z1⟩, f0, f1⟩ := cells2 hkZ1
      obtain ⟨⟨s0, s1⟩, _⟩ := cells2 hkZ2
      have hj1 : (j : Int) < (C.length : Int) := by omega
      have hj0 : (0 : Int) ≤ (j : Int) := by omega
      have Hev := Lib.hid hev; have Hx := Lib.hid hx
      have hwZ := below_trans hWt hbZ2
      have hplA := fun w9 (hh : Specs w9 (.slice A l.length c) l) => placeL_ok _ l x.a w9 hh
      have hplB := fun w9 (hh : Specs w9 (.slice A l.length c) l) => placeL_ok _ l x.b w9 hh
      obtain ⟨pa, hpa⟩ : ∃ p, plS l x.a = p := ⟨_, rfl⟩
      obtain ⟨pb, hpb⟩ : ∃ p, plS l x.b = p := ⟨_, rfl⟩
      rw [show firstI (fun s : Spec => s.id == x.a) l = pa from hpa] at hplA
      rw [show firstI (fun s : Spec => s.id == x.b) l = pb from hpb] at hplB
      have HA := Lib.hid hplA; have HB := Lib.hid hplB
      have Hpa := Lib.hid hpa; have Hpb := Lib.hid hpb
      clear hcc hcb hx hev hplA hplB hkZ1 hkZ2 hpa hpb
      go_upto_region 21 with fail
      clear z0 z1 f0 f1 hsZ2 hZ1 y0 y1
      go_cut [16] (fun pv16 wc => ∃ b, pv16 = .pointer (some ⟨b, 0, none⟩) ∧ wc.heap[b]? = some (.cells [.int .i64 2, .int .i64 pa, .int .i64 pb].toArray 254 (0, 0)) ∧ Below Z2.heap.size Z2 wc)
      case first =>
        have hba : Below Z2.heap.size Z2 Z2.drew := (Below.refl _ _).drew
        obtain ⟨wa, hwa⟩ : ∃ W, Z2.drew = W := ⟨_, rfl⟩
        rw [hwa] at hba
        have HhS := Lib.hid fun (w9 : World) (hb : Below wa.heap.size wa w9) => Hh.out.below (below_trans (below_trans hwZ hba) hb)
        have HSt := Lib.hid fun (w9 : World) (hb : Below wa.heap.size wa w9) => (show (fun w' : World => Below wa.heap.size wa w' ∧ w'.cell? ⟨wt.heap.size, 0, none⟩ = some (.int .i64 x.a) ∧ w'.cell? ⟨wt.heap.size, 1, none⟩ = some (.int .i64 x.b)) w9 from ⟨hb, cell_later hb (cell_later hba s0), cell_later hb (cell_later hba s1)⟩)
        have hHeld := HSt.out wa (Below.refl _ _)
        have bwa : Below wa.heap.size wa wa := Below.refl _ _
        have hza := hba.size
        refine wp_region_S 10 (fun w' : World => Below wa.heap.size wa w' ∧ w'.cell? ⟨wt.heap.size, 0, none⟩ = some (.int .i64 x.a) ∧ w'.cell? ⟨wt.heap.size, 1, none⟩ = some (.int .i64 x.b)) (by kernel_rfl) (by decide) ?_
        rw [hwa]
        clear hwa s0 s1
        refine wpAnyS_takeD 0 (some 68) (.slice A l.length c) (by rfl) (by rfl) (by kernel_rfl) (by exact fun _ _ _ h => h) (by rfl) (fun w' hS => by go_simp) hHeld ?_
        simp only [Act.put, List.setIfInBounds_toArray, List.set_cons_succ, List.set_cons_zero]
        refine wpAnyS_takeD 1 (some 69) (.pointer (some ⟨wt.heap.size, 0, none⟩)) (by rfl) (by rfl) (by kernel_rfl) (by exact fun _ _ _ h => h) (by rfl) (fun w' hS => by go_simp) hHeld ?_
        simp only [Act.put, List.setIfInBounds_toArray, List.set_cons_succ, List.set_cons_zero]
        refine wpAnyS_takeD 2 (some 70) (.int .i64 x.a) (by rfl) (by rfl) (by kernel_rfl) (by exact fun _ _ _ h => h) (by rfl) (fun w' hS => by (obtain ⟨_, x0, x1⟩ := hS; go_simp)) hHeld ?_
        simp only [Act.put, List.setIfInBounds_toArray, List.set_cons_succ, List.set_cons_zero]
        refine wpAnyS_takeD 4 (some 72) (.slice A l.length c) (by rfl) (by rfl) (by kernel_rfl) (by exact fun _ _ _ h => h) (by rfl) (fun w' hS => by go_simp) hHeld ?_
        simp only [Act.put, List.setIfInBounds_toArray, List.set_cons_succ, List.set_cons_zero]
        refine wpAnyS_takeD 5 (some 73) (.pointer (some ⟨wt.heap.size, 1, none⟩)) (by rfl) (by rfl) (by kernel_rfl) (by exact fun _ _ _ h => h) (by rfl) (fun w' hS => by go_simp) hHeld ?_
        simp only [Act.put, List.setIfInBounds_toArray, List.set_cons_succ, List.set_cons_zero]
        refine wpAnyS_takeD 6 (some 74) (.int .i64 x.b) (by rfl) (by rfl) (by kernel_rfl) (by exact fun _ _ _ h => h) (by rfl) (fun w' hS => by (obtain ⟨_, x0, x1⟩ := hS; go_simp)) hHeld ?_
        simp only [Act.put, List.setIfInBounds_toArray, List.set_cons_succ, List.set_cons_zero]
        clear hHeld
        refine wpAnyS_two 3 9 (by kernel_rfl) (by rfl) (by rfl) (by decide) (by decide) (fun K hK => ?_) (fun K hK => ?_)
        · have HK := Lib.hid hK
          clear hK
          rw [if_pos (by rfl)]
          go_simp
          refine (HA.out _ (HhS.out _ bwa)).mono ?_
          rintro e q1 ⟨rfl, sq1⟩
          have bq1 : Below wa.heap.size wa q1 := below_trans bwa sq1
          refine HK.out _ _ (HSt.out _ bq1) ?_
          clear HK
          refine wpAnyS_two 7 9 (by kernel_rfl) (by rfl) (by rfl) (by decide) (by decide) (fun K hK => ?_) (fun K hK => ?_)
          · have HK := Lib.hid hK
            clear hK
            rw [if_pos (by rfl)]
            go_simp
            refine (HB.out _ (HhS.out _ bq1)).mono ?_
            rintro e q2 ⟨rfl, sq2⟩
            have bq2 : Below wa.heap.size wa q2 := below_trans bq1 sq2
            refine HK.out _ _ (HSt.out _ bq2) ?_
            clear HK
            have hHeld := HSt.out _ bq2
            refine wpAnyS_takeD 8 (some 76) (.agg #[.int .i64 2, .int .i64 pa, .int .i64 pb]) (by rfl) (by rfl) (by kernel_rfl) (by exact fun _ _ _ h => h) (by rfl) (fun w' hS => by go_simp) hHeld ?_
            simp only [Act.put, List.setIfInBounds_toArray]
            clear hHeld
            refine wpAnyS_one 9 (by kernel_rfl) (by rfl) (by decide) (fun K hK => ?_)
            have HK := Lib.hid hK; clear hK
            rw [if_pos (by rfl)]
            go_simp
            obtain ⟨q3, hq3⟩ : ∃ z, World.alloc q2 (.cells #[.int .i64 0, .int .i64 0, .int .i64 0] 254) = z := ⟨_, rfl⟩
            have sq3 : Below (q2).heap.size q2 q3 := by rw [← hq3]; exact (Below.refl _ _).alloc (Nat.le_refl _) _
            have bq3 : Below wa.heap.size wa q3 := below_trans bq2 sq3
            have rq3 : (q3).heap[(q2).heap.size]? = some (.cells [.int .i64 0, .int .i64 0, .int .i64 0].toArray 254 (0, 0)) := by rw [← hq3]; exact heap_alloc_new _ _
            have qq3 : wa.heap.size ≤ (q2).heap.size := bq2.size
            rw [hq3]
            refine HK.out _ _ (HSt.out _ bq3) ?_
            clear HK hq3
            refine (show tailOf _ _ _ _ _ _ _ _ from ⟨by kernel_rfl, ?_⟩)
            simp only [List.drop_succ_cons, List.drop_zero]
            obtain ⟨⟨z0, z1, z2⟩, f0, f1, f2⟩ := cells3 rq3
            have HF := Lib.hid (heap_setCells [.int .i64 2, .int .i64 pa, .int .i64 pb] [] [.int .i64 0, .int .i64 0, .int .i64 0] q3 rq3 rfl)
            have HBF := Lib.hid (bq3.grown (setCells_grown (q2.heap.size) [.int .i64 2, .int .i64 pa, .int .i64 pb] q3 0) bq3.size (fun j e => by cases e; omega))
            go_wp2_with fail
            go_meet
            exact ⟨_, rfl, HF.out, below_trans hba HBF.out⟩
          · have HK := Lib.hid hK
            clear hK
            rw [if_pos (by rfl)]
            go_simp
            obtain ⟨q2, hq2⟩ : ∃ z, World.alloc q1 (.cells #[.int .i64 0, .int .i64 0, .int .i64 0] 254) = z := ⟨_, rfl⟩
            have sq2 : Below (q1).heap.size q1 q2 := by rw [← hq2]; exact (Below.refl _ _).alloc (Nat.le_refl _) _
            have bq2 : Below wa.heap.size wa q2 := below_trans bq1 sq2
            have rq2 : (q2).heap[(q1).heap.size]? = some (.cells [.int .i64 0, .int .i64 0, .int .i64 0].toArray 254 (0, 0)) := by rw [← hq2]; exact heap_alloc_new _ _
            have qq2 : wa.heap.size ≤ (q1).heap.size := bq1.size
            rw [hq2]
            refine HK.out _ _ (HSt.out _ bq2) ?_
            clear HK hq2
            refine wpAnyS_one 7 (by kernel_rfl) (by rfl) (by decide) (fun K hK => ?_)
            have HK := Lib.hid hK; clear hK
            rw [if_pos (by rfl)]
            go_simp
            refine (HB.out _ (HhS.out _ bq2)).mono ?_
            rintro e q3 ⟨rfl, sq3⟩
            have bq3 : Below wa.heap.size wa q3 := below_trans bq2 sq3
            refine HK.out _ _ (HSt.out _ bq3) ?_
            clear HK
            have hHeld := HSt.out _ bq3
            refine wpAnyS_takeD 8 (some 76) (.agg #[.int .i64 2, .int .i64 pa, .int .i64 pb]) (by rfl) (by rfl) (by kernel_rfl) (by exact fun _ _ _ h => h) (by rfl) (fun w' hS => by go_simp) hHeld ?_
            simp only [Act.put, List.setIfInBounds_toArray]
            clear hHeld
            have rr := heap_below rq2 sq3 (heap_lt rq2)
            refine (show tailOf _ _ _ _ _ _ _ _ from ⟨by kernel_rfl, ?_⟩)
            simp only [List.drop_succ_cons, List.drop_zero]
            obtain ⟨⟨z0, z1, z2⟩, f0, f1, f2⟩ := cells3 rr
            have HF := Lib.hid (heap_setCells [.int .i64 2, .int .i64 pa, .int .i64 pb] [] [.int .i64 0, .int .i64 0, .int .i64 0] q3 rr rfl)
            have HBF := Lib.hid (bq3.grown (setCells_grown (q1.heap.size) [.int .i64 2, .int .i64 pa, .int .i64 pb] q3 0) bq3.size (fun j e => by cases e; omega))
            go_wp2_with fail
            go_meet
            exact ⟨_, rfl, HF.out, below_trans hba HBF.out⟩
        · have HK := Lib.hid hK
          clear hK
          rw [if_pos (by rfl)]
          go_simp
          obtain ⟨q1, hq1⟩ : ∃ z, World.alloc wa (.cells #[.int .i64 0, .int .i64 0, .int .i64 0] 254) = z := ⟨_, rfl⟩
          have sq1 : Below (wa).heap.size wa q1 := by rw [← hq1]; exact (Below.refl _ _).alloc (Nat.le_refl _) _
          have bq1 : Below wa.heap.size wa q1 := below_trans bwa sq1
          have rq1 : (q1).heap[(wa).heap.size]? = some (.cells [.int .i64 0, .int .i64 0, .int .i64 0].toArray 254 (0, 0)) := by rw [← hq1]; exact heap_alloc_new _ _
          have qq1 : wa.heap.size ≤ (wa).heap.size := bwa.size
          rw [hq1]
          refine HK.out _ _ (HSt.out _ bq1) ?_
          clear HK hq1
          refine wpAnyS_one 3 (by kernel_rfl) (by rfl) (by decide) (fun K hK => ?_)
          have HK := Lib.hid hK; clear hK
          rw [if_pos (by rfl)]
          go_simp
          refine (HA.out _ (HhS.out _ bq1)).mono ?_
          rintro e q2 ⟨rfl, sq2⟩
          have bq2 : Below wa.heap.size wa q2 := below_trans bq1 sq2
          refine HK.out _ _ (HSt.out _ bq2) ?_
          clear HK
          refine wpAnyS_one 7 (by kernel_rfl) (by rfl) (by decide) (fun K hK => ?_)
          have HK := Lib.hid hK; clear hK
          rw [if_pos (by rfl)]
          go_simp
          refine (HB.out _ (HhS.out _ bq2)).mono ?_
          rintro e q3 ⟨rfl, sq3⟩
          have bq3 : Below wa.heap.size wa q3 := below_trans bq2 sq3
          refine HK.out _ _ (HSt.out _ bq3) ?_
          clear HK
          have hHeld := HSt.out _ bq3
          refine wpAnyS_takeD 8 (some 76) (.agg #[.int .i64 2, .int .i64 pa, .int .i64 pb]) (by rfl) (by rfl) (by kernel_rfl) (by exact fun _ _ _ h => h) (by rfl) (fun w' hS => by go_simp) hHeld ?_
          simp only [Act.put, List.setIfInBounds_toArray]
          clear hHeld
          have rr := heap_below (heap_below rq1 sq2 (heap_lt rq1)) sq3 (heap_lt (heap_below rq1 sq2 (heap_lt rq1)))
          refine (show tailOf _ _ _ _ _ _ _ _ from ⟨by kernel_rfl, ?_⟩)
          simp only [List.drop_succ_cons, List.drop_zero]
          obtain ⟨⟨z0, z1, z2⟩, f0, f1, f2⟩ := cells3 rr
          have HF := Lib.hid (heap_setCells [.int .i64 2, .int .i64 pa, .int .i64 pb] [] [.int .i64 0, .int .i64 0, .int .i64 0] q3 rr rfl)
          have HBF := Lib.hid (bq3.grown (setCells_grown (wa.heap.size) [.int .i64 2, .int .i64 pa, .int .i64 pb] q3 0) bq3.size (fun j e => by cases e; omega))
          go_wp2_with fail
          go_meet
          exact ⟨_, rfl, HF.out, below_trans hba HBF.out⟩
      case rest =>
        obtain ⟨b, rfl, hkb, hbc⟩ := hcut
        obtain ⟨⟨m0, m1, m2⟩, _⟩ := cells3 hkb
        have hbwc := below_trans hbZ2 hbc
        have hwrc := below_trans hwr hbwc
        have Hevc := Lib.hid (Hev.out.below hbwc)
        have Hkc := Lib.hid (heap_below Hkr.out hbwc (heap_lt Hkr.out))
        have hmx : missB l x = (decide (pa < 0) || decide (pb < 0)) := by rw [missB, Hpa.out, Hpb.out]
        clear hkb s0 s1
        by_cases c1 : pa < 0 ∨ pb < 0
        case pos =>
          have HG : Hid ((7 : Int) = gatherE l C ∧ (7 : Int) ≠ 0) := Lib.hid ⟨by
            have : C.any (missB l) = true := List.any_eq_true.2 ⟨x, List.mem_of_getElem? Hx.out, by rw [hmx]; rcases c1 with h | h <;> simp [h]⟩
            rw [gatherE, if_pos HEz.out, if_pos ⟨hl24, hC64⟩, if_pos this], by decide⟩
          obtain ⟨⟨e0, e1⟩, g0, g1⟩ := cells2' (show wc.heap[w.heap.size]? = some (.cells #[.slice none 0 0, .slice none 0 0] 213 (0, 0)) from Hkc.out)
          by_cases c2 : pa < 0
          · have t1 : decide (pa < 0) = true := decide_eq_true c2
            clear c1 hmx
            go_wp2_with fail
            exact bodyPost_ret (results_cell_tmp_row rfl _ _ w.heap.size 213 #[.slice none 0 0, .slice none 0 0] (0, 0) _ (by simp) (heap_set2 Hkc.out) Tryz.underlying213 rfl (by kernel_rfl)) rfl (.inr ⟨_, rfl, HG.out, (hwrc).grown (setCells_grown w.heap.size [.slice none 0 0, .slice none 0 0] wc 0) (hwrc).size (fun j e => by cases e; exact Nat.le_refl _)⟩)
          · have t1 : decide (pa < 0) = false := decide_eq_false c2
            have t2 : decide (pb < 0) = true := decide_eq_true (by omega)
            clear c1 hmx
            go_wp2_with fail
            exact bodyPost_ret (results_cell_tmp_row rfl _ _ w.heap.size 213 #[.slice none 0 0, .slice none 0 0] (0, 0) _ (by simp) (heap_set2 Hkc.out) Tryz.underlying213 rfl (by kernel_rfl)) rfl (.inr ⟨_, rfl, HG.out, (hwrc).grown (setCells_grown w.heap.size [.slice none 0 0, .slice none 0 0] wc 0) (hwrc).size (fun j e => by cases e; exact Nat.le_refl _)⟩)
        have t1 : decide (pa < 0) = false := decide_eq_false (by omega)
        have t2 : decide (pb < 0) = false := decide_eq_false (by omega)
        have Hm2 : Hid (missK l C (j + 1)) := Lib.hid (by
          unfold missK
          rw [take_snoc' Hx.out, List.any_append, Hm.out]
          simp [hmx, t1, t2])
        have hss : sameK l C (j + 1) = (sameK l C j || sameB l x) := by rw [sameK, take_snoc' Hx.out, List.any_append]; simp [sameK]
        obtain ⟨D, hD⟩ : ∃ D, (pa == pb) = D := ⟨_, rfl⟩
        have hsx : sameB l x = D := by rw [sameB, Hpa.out, Hpb.out]; exact hD
        rw [hsx] at hss
        obtain ⟨T, hT⟩ : ∃ T, sameK l C j = T := ⟨_, rfl⟩
        rw [hT] at hss ⊢
        have Hss := Lib.hid hss
        have hRe : QS ++ claK l C (j + 1) = QS ++ claK l C j ++ [(⟨2, pa, pb⟩ : Link)] := by
          rw [claK, take_snoc' Hx.out, List.map_append, ← List.append_assoc]
          simp [claP, claK, Hpa.out, Hpb.out]
        have hRl : (QS ++ claK l C j).length ≤ 1216 := by rw [claK, List.length_append, List.length_map, List.length_take]; omega
        obtain ⟨R, hR⟩ : ∃ R, QS ++ claK l C j = R := ⟨_, rfl⟩
        rw [hR] at hRe hRl Hevc
        have HRe := Lib.hid hRe
        obtain ⟨⟨p0, p1⟩, _⟩ := cells2 Hevc.out.row
        have hownc := Hevc.out.own
        have hzc : V2.heap.size ≤ wc.heap.size := Hevc.out.touch.size
        clear c1 hmx hss hsx hT hRe hR
        cases T
        · go_wp2_with (at_builtin; refine wpList_append1 (enc := encL) (size := 3) (B := V2.heap.size) rfl (.tmp 95) (.tmp 97) _ rfl 254 iP _ 24 Tryz.underlying211 hiP hzP hkP hbP rfl (by decide) rfl hownc (⟨2, pa, pb⟩ : Link) _ rfl lenL oneL _ rfl rfl (by omega) (by omega) hzc ?_; intro v' w7 hown' hgrow hat; obtain ⟨Av, cv9, rfl, _⟩ := id hown'.slOf; obtain ⟨nn, hnn⟩ : ∃ nn, (R ++ [(⟨2, pa, pb⟩ : Link)]).length = nn := ⟨_, rfl⟩; rw [hnn] at hown' ⊢; clear hnn hat; obtain ⟨hr7, _⟩ := Hevc.out.grow hgrow; obtain ⟨⟨r0, r1⟩, e0, e1⟩ := cells2' (show w7.heap[w1.heap.size]? = some (.cells #[.slice A l.length c, pv'] 213 (0, 0)) from hr7); have HE7 := Lib.hid (Hevc.out.put hgrow hown'); clear hr7 hgrow)
          go_simp
          refine ⟨?rel, ?measure⟩
          case rel => exact ⟨_, _, _, _, _, ⟨j + 1, by omega, by rw [Hss.out]; rfl, by go_num, Hm2.out, _, by rw [HRe.out]; exact HE7.out⟩, rfl, rfl, rfl, rfl, rfl⟩
          case measure => simp [intOf]; omega
        · go_wp2_with (at_builtin; refine wpList_append1 (enc := encL) (size := 3) (B := V2.heap.size) rfl (.tmp 95) (.tmp 97) _ rfl 254 iP _ 24 Tryz.underlying211 hiP hzP hkP hbP rfl (by decide) rfl hownc (⟨2, pa, pb⟩ : Link) _ rfl lenL oneL _ rfl rfl (by omega) (by omega) hzc ?_; intro v' w7 hown' hgrow hat; obtain ⟨Av, cv9, rfl, _⟩ := id hown'.slOf; obtain ⟨nn, hnn⟩ : ∃ nn, (R ++ [(⟨2, pa, pb⟩ : Link)]).length = nn := ⟨_, rfl⟩; rw [hnn] at hown' ⊢; clear hnn hat; obtain ⟨hr7, _⟩ := Hevc.out.grow hgrow; obtain ⟨⟨r0, r1⟩, e0, e1⟩ := cells2' (show w7.heap[w1.heap.size]? = some (.cells #[.slice A l.length c, pv'] 213 (0, 0)) from hr7); have HE7 := Lib.hid (Hevc.out.put hgrow hown'); clear hr7 hgrow)
          go_simp
          refine ⟨?rel, ?measure⟩
          case rel => exact ⟨_, _, _, _, _, ⟨j + 1, by omega, by rw [Hss.out]; rfl, by go_num, Hm2.out, _, by rw [HRe.out]; exact HE7.out⟩, rfl, rfl, rfl, rfl, rfl⟩
          case measure => simp [intOf]; omega
end Go.Proofs.YthnckicnnhkkaaaGreat
/- Chains of proofs, plain: numbers of pieces to a place. No program in sight, no condition. -/
namespace Go.Proofs.YthnckicnnhkkaaaGreat
open Go.RowKit

/-- f tells how many pieces lead at least from each place to a place; -1 if none do. -/
structure FarP (P : List Link) (t : Int) (f : Int → Int) : Prop where
  rng : ∀ x, -1 ≤ f x
  zero : f t = 0
  only : ∀ x, f x = 0 → x = t
  pred : ∀ x, 0 < f x → ∃ p ∈ P, p.obv = x ∧ f p.rev = f x - 1
  clo : ∀ p ∈ P, 0 ≤ f p.rev → 0 ≤ f p.obv ∧ f p.obv ≤ f p.rev + 1
section
variable {P : List Link} {t : Int} {f g : Int → Int}
end
/-- The best of some pieces: nearest, then least Id, then least kind. -/
def keyLt (f : Int → Int) (I : Int → Int) (p q : Link) : Bool :=
  decide (f p.rev < f q.rev) || (decide (f p.rev = f q.rev) && (decide (I p.rev < I q.rev) || (decide (I p.rev = I q.rev) && decide (p.id < q.id))))
def candB (f : Int → Int) (x : Int) (p : Link) : Bool := decide (p.obv = x) && decide (0 ≤ f p.rev)
def bestS (f : Int → Int) (I : Int → Int) (x : Int) (b : Option Link) (p : Link) : Option Link :=
  if candB f x p = true then (match b with
    | none => some p
    | some q => if keyLt f I p q = true then some p else some q) else b
def bestF (f : Int → Int) (I : Int → Int) (x : Int) (P : List Link) : Option Link := P.foldl (bestS f I x) none
def BestOf (f : Int → Int) (I : Int → Int) (x : Int) (P : List Link) (p : Link) : Prop := p ∈ P ∧ candB f x p = true ∧ ∀ q ∈ P, candB f x q = true → keyLt f I q p = false
section
variable {P : List Link} {t x : Int} {f I : Int → Int} {p q r : Link}
theorem keyLt_iff : keyLt f I p q = true ↔ f p.rev < f q.rev ∨ (f p.rev = f q.rev ∧ (I p.rev < I q.rev ∨ (I p.rev = I q.rev ∧ p.id < q.id))) := by
  simp [keyLt]
theorem keyLt_no : keyLt f I p q = false ↔ ¬ (f p.rev < f q.rev ∨ (f p.rev = f q.rev ∧ (I p.rev < I q.rev ∨ (I p.rev = I q.rev ∧ p.id < q.id)))) := by
  rw [← keyLt_iff]; simp
theorem cand_iff : candB f x p = true ↔ p.obv = x ∧ 0 ≤ f p.rev := by simp [candB]
/-- What the fold keeps. -/
def BestI (f : Int → Int) (I : Int → Int) (x : Int) (P : List Link) (b : Option Link) : Prop :=
  match b with
  | none => ∀ q ∈ P, candB f x q = false
  | some p => BestOf f I x P p
theorem best_snoc {b : Option Link} (h : BestI f I x P b) (p : Link) : BestI f I x (P ++ [p]) (bestS f I x b p) := by
  unfold bestS
  by_cases hc : candB f x p = true
  · rw [if_pos hc]
    cases b with
    | none =>
      refine ⟨by simp, hc, fun q hq hqc => ?_⟩
      rcases List.mem_append.1 hq with hq | hq
      · rw [h q hq] at hqc; cases hqc
      · rw [List.mem_singleton] at hq; subst hq; rw [keyLt_no]; omega
    | some r =>
      show BestI f I x (P ++ [p]) (if keyLt f I p r = true then some p else some r)
      by_cases hk : keyLt f I p r = true
      · rw [if_pos hk]
        refine ⟨by simp, hc, fun q hq hqc => ?_⟩
        rcases List.mem_append.1 hq with hq | hq
        · have h1 := keyLt_no.1 (h.2.2 q hq hqc)
          have h2 := keyLt_iff.1 hk
          rw [keyLt_no]; omega
        · rw [List.mem_singleton] at hq; subst hq; rw [keyLt_no]; omega
      · rw [if_neg hk]
        refine ⟨List.mem_append_left _ h.1, h.2.1, fun q hq hqc => ?_⟩
        rcases List.mem_append.1 hq with hq | hq
        · exact h.2.2 q hq hqc
        · rw [List.mem_singleton] at hq; subst hq; simpa using hk
  · rw [if_neg hc]
    cases b with
    | none =>
      intro q hq
      rcases List.mem_append.1 hq with hq | hq
      · exact h q hq
      · rw [List.mem_singleton] at hq; subst hq; simpa using hc
    | some r =>
      refine ⟨List.mem_append_left _ h.1, h.2.1, fun q hq hqc => ?_⟩
      rcases List.mem_append.1 hq with hq | hq
      · exact h.2.2 q hq hqc
      · rw [List.mem_singleton] at hq; subst hq; exact absurd hqc hc
theorem best_take (f I : Int → Int) (x : Int) (P : List Link) : ∀ k, k ≤ P.length → BestI f I x (P.take k) (bestF f I x (P.take k))
  | 0, _ => by intro q hq; simp at hq
  | k + 1, hk => by
    obtain ⟨p, hp⟩ := get_of_lt (show k < P.length by omega)
    have := best_snoc (best_take f I x P k (by omega)) p
    rw [take_snoc' hp, bestF, List.foldl_append]
    exact this
theorem best_is (f I : Int → Int) (x : Int) (P : List Link) : BestI f I x P (bestF f I x P) := by
  have := best_take f I x P P.length (Nat.le_refl _)
  rwa [List.take_length] at this
/-- A piece with a number leads on. -/
theorem best_next (hf : FarP P t f) (h : 0 < f x) : ∃ p, bestF f I x P = some p ∧ f p.rev = f x - 1 := by
  obtain ⟨r, hr, h1, h2⟩ := hf.pred x h
  have hc : candB f x r = true := cand_iff.2 ⟨h1, by omega⟩
  have hb := best_is f I x P
  cases hB : bestF f I x P with
  | none => rw [hB] at hb; have := hb r hr; rw [hc] at this; cases this
  | some p =>
    rw [hB] at hb
    refine ⟨p, rfl, ?_⟩
    have h3 := keyLt_no.1 (hb.2.2 r hr hc)
    have h4 := cand_iff.1 hb.2.1
    have h5 := (hf.clo p hb.1 h4.2).2
    rw [h4.1] at h5
    omega
end
/-- The chain of the best pieces from a place on. -/
def chainK (f I : Int → Int) (P : List Link) (t : Int) : Nat → Int → List Link
  | 0, _ => []
  | n + 1, x => match bestF f I x P with
    | none => []
    | some p => p :: (if p.rev = t then [] else chainK f I P t n p.rev)
/-- The search for the numbers of pieces, step by step: what a row of numbers and a queue are like. -/
structure BfsP (P : List Link) (t : Int) (f : Int → Int) (Q : List Int) (n : Int) : Prop where
  rng : ∀ x, -1 ≤ f x
  zero : f t = 0
  only : ∀ x, f x = 0 → x = t
  pred : ∀ x, 0 < f x → ∃ p ∈ P, p.obv = x ∧ f p.rev = f x - 1
  nn : 0 ≤ n
  que : ∀ x ∈ Q, n ≤ f x ∧ f x ≤ n + 1
  asc : Q.Pairwise fun x y => f x ≤ f y
  old : ∀ x, 0 ≤ f x → x ∉ Q → f x ≤ n
  clo : ∀ p ∈ P, 0 ≤ f p.rev → p.rev ∉ Q → 0 ≤ f p.obv ∧ f p.obv ≤ f p.rev + 1
section
variable {P : List Link} {t d n : Int} {f : Int → Int} {Q : List Int} {p : Link}
end
theorem plS_at {l : List Spec} {a : Int} (h : 0 ≤ plS l a) : ∃ (k : Nat) (x : Spec), plS l a = k ∧ l[k]? = some x ∧ x.id = a := by
  by_cases ha : l.all (fun x => !(fun s : Spec => s.id == a) x) = true
  · have h1 : plS l a = -1 := firstI_miss ha
    omega
  · obtain ⟨i, x, h1, h2, h3⟩ := first_hit ha
    exact ⟨i, x, firstI_hit h1 h2 h3, h1, by simpa using h3⟩
end Go.Proofs.YthnckicnnhkkaaaGreat
/- Package precedence: steps in general. Condition: the pieces are between places. -/
namespace Go.Proofs.YthnckicnnhkkaaaGreat
open Go.RowKit Go.Maps Go.Shelf

/-- The row of a function of places. -/
def rowF (n : Nat) (f : Int → Int) : List Int := (List.range n).map fun (i : Nat) => f (i : Int)
def negR (n : Nat) (f : Int → Int) : Nat := ((rowF n f).filter fun x => decide (x < 0)).length
end Go.Proofs.YthnckicnnhkkaaaGreat
/- Why, plain: what a chain of proofs is; rounds of numbers. No program in sight, no condition. -/
namespace Go.Proofs.YthnckicnnhkkaaaGreat
open Go.RowKit

theorem mem_row {o : Int} {s : Spec} {i : Nat} {l : List Spec} {p : Pair} (h : p ∈ rowW o s i l) : p.a = i ∧ 0 ≤ p.b ∧ p.b < l.length := by
  unfold rowW at h
  obtain ⟨⟨y, j⟩, h1, h2⟩ := List.mem_filterMap.1 h
  split at h2
  · cases h2
    have := lt_of_get (List.mem_zipIdx_iff_getElem?.1 h1)
    exact ⟨rfl, by simp, by simpa using this⟩
  · cases h2
theorem mem_arcs {o : Int} {l : List Spec} {p : Pair} (h : p ∈ arcsW o l l) : (0 ≤ p.a ∧ p.a < l.length) ∧ 0 ≤ p.b ∧ p.b < l.length := by
  unfold arcsW at h
  obtain ⟨⟨y, j⟩, h1, h2⟩ := List.mem_flatMap.1 h
  obtain ⟨h3, h4⟩ := mem_row h2
  have := lt_of_get (List.mem_zipIdx_iff_getElem?.1 h1)
  have h5 : j < l.length := by simpa using this
  exact ⟨by omega, h4⟩
theorem plS_lt {l : List Spec} {a : Int} (h : 0 ≤ plS l a) : plS l a < l.length := by
  obtain ⟨k, x, h1, h2, _⟩ := plS_at h
  have := lt_of_get h2
  omega
theorem gather_zero {l : List Spec} {C : List Pair} (h : gatherE l C = 0) : checkE l = 0 ∧ l.length ≤ 24 ∧ C.length ≤ 64 ∧ C.any (missB l) = false ∧ C.any (sameB l) = false := by
  unfold gatherE at h
  split at h
  · rename_i h1
    split at h
    · rename_i h2
      split at h
      · cases h
      · rename_i h3
        split at h
        · cases h
        · rename_i h4
          exact ⟨h1, h2.1, h2.2, by simpa using h3, by simpa using h4⟩
    · cases h
  · rename_i h1; exact absurd h h1
theorem miss_no {l : List Spec} {c : Pair} (h : missB l c = false) : 0 ≤ plS l c.a ∧ 0 ≤ plS l c.b := by
  unfold missB at h
  rw [Bool.or_eq_false_iff, decide_eq_false_iff_not, decide_eq_false_iff_not] at h
  omega
theorem any_no {α : Type} {p : α → Bool} {xs : List α} (h : xs.any p = false) {x : α} (hx : x ∈ xs) : p x = false := by
  cases hp : p x
  · rfl
  · have := List.any_eq_true.2 ⟨x, hx, hp⟩
    rw [h] at this; cases this
theorem pieces_mem {l : List Spec} {C : List Pair} (hg : gatherE l C = 0) {p : Link} (h : p ∈ piecesS l C) : ((0 ≤ p.obv ∧ p.obv < l.length) ∧ 0 ≤ p.rev ∧ p.rev < l.length) ∧ 0 ≤ p.id ∧ p.id ≤ 2 := by
  obtain ⟨_, _, _, hm, _⟩ := gather_zero hg
  unfold piecesS sidesS at h
  rw [List.mem_append, List.mem_append, List.mem_map, List.mem_map, List.mem_map] at h
  rcases h with (⟨q, h1, rfl⟩ | ⟨q, h1, rfl⟩) | ⟨c, h1, rfl⟩
  · exact ⟨mem_arcs h1, by simp [arcP]⟩
  · exact ⟨mem_arcs h1, by simp [arcP]⟩
  · obtain ⟨h2, h3⟩ := miss_no (any_no hm h1)
    exact ⟨⟨⟨h2, plS_lt h2⟩, h3, plS_lt h3⟩, by simp [claP]⟩
section
variable {P : List Link} {t x : Int} {f I : Int → Int} {p q : Link} {n : Nat}
end
/-- Numbers round by round: what a row of numbers is like in round k, past the first j pieces. -/
structure RndP (P : List Link) (t : Int) (n : Nat) (f : Int → Int) (k : Int) (j : Nat) : Prop where
  rng : ∀ x, -1 ≤ f x
  zero : f t = 0
  only : ∀ x, f x = 0 → x = t
  pred : ∀ x, 0 < f x → ∃ p ∈ P, p.obv = x ∧ f p.rev = f x - 1
  top : ∀ x, f x ≤ k + 1
  neg : ∀ x, f x + (negR n f : Int) + 1 ≤ n
  old : ∀ p ∈ P, 0 ≤ f p.rev → f p.rev < k → 0 ≤ f p.obv ∧ f p.obv ≤ f p.rev + 1
  now : ∀ p ∈ P.take j, f p.rev = k → 0 ≤ f p.obv
section
variable {P : List Link} {t k : Int} {n j : Nat} {f : Int → Int} {p : Link}
end
end Go.Proofs.YthnckicnnhkkaaaGreat
/- Package precedence: Why in general. Condition: the arguments read as such. -/
namespace Go.Proofs.YthnckicnnhkkaaaGreat
open Go.RowKit Go.Maps Go.Shelf

section
variable {P : List Link} {t x x0 : Int} {f I : Int → Int} {p q : Link} {n N : Nat} {acc : List Link} {bo : Option Link}
/-- A chain as it grows: the pieces so far, the place, the rounds left. -/
structure ChS (f I : Int → Int) (P : List Link) (t x0 : Int) (acc : List Link) (x : Int) (N : Nat) : Prop where
  eq : acc ++ (if acc ≠ [] ∧ x = t then [] else chainK f I P t N x) = chainK f I P t 26 x0
  at_ : (acc = [] ∧ x = x0) ∨ (acc ≠ [] ∧ (x = t ∨ 0 < f x) ∧ f x < N)
  len : acc.length + N = 26
theorem ChS.none (hf : FarP P t f) (h : ChS f I P t x0 acc x N) (hgo : acc = [] ∨ x ≠ t) (hb : bestF f I x P = none) : bestF f I x0 P = none := by
  rcases h.at_ with ⟨_, rfl⟩ | ⟨h1, h2, _⟩
  · exact hb
  · have h3 : x ≠ t := hgo.resolve_left h1
    obtain ⟨p, hp, _⟩ := best_next (I := I) hf (h2.resolve_left h3)
    rw [hb] at hp; cases hp
end
end Go.Proofs.YthnckicnnhkkaaaGreat
