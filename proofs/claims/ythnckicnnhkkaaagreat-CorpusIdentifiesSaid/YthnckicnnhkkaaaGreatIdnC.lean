/- Law CorpusIdentifies. -/
import Derived.Test.YthnckicnnhkkaaaGreatIdnP
import Derived.Test.YthnckicnnhkkaaaGreatAwkC
import Derived.Test.YthnckicnnhkkaaaGreatRows
import Derived.Test.YthnckicnnhkkaaaGreatHolIdnC
namespace Go.Proofs.YthnckicnnhkkaaaGreat
open Go.RowKit Go.Shelf Go.ChangeShapes Go.WideShapes Go.ChangeAt Go.Maps

theorem two_boxes (w : World) (a b : Spec) (t : TypeId) : ∃ A1 A2 A3 A4 : World, w.alloc (.cells #[.int .i64 0, .int .i64 0, .int .i64 0, .int .i64 0, .int .i64 0, .int .i64 0, .int .i64 0] t) = A1 ∧ A1.alloc (.cells #[.int .i64 0, .int .i64 0, .int .i64 0, .int .i64 0, .int .i64 0, .int .i64 0, .int .i64 0] t) = A2 ∧ (((((((A2.setCell ⟨w.heap.size, 0, none⟩ (.int .i64 a.id)).setCell ⟨w.heap.size, 1, none⟩ (.int .i64 a.obv)).setCell ⟨w.heap.size, 2, none⟩ (.int .i64 a.rev)).setCell ⟨w.heap.size, 3, none⟩ (.int .i64 a.os)).setCell ⟨w.heap.size, 4, none⟩ (.int .i64 a.rs)).setCell ⟨w.heap.size, 5, none⟩ (.int .i64 a.ax)).setCell ⟨w.heap.size, 6, none⟩ (.int .i64 a.wt)) = A3 ∧ (((((((A3.setCell ⟨A1.heap.size, 0, none⟩ (.int .i64 b.id)).setCell ⟨A1.heap.size, 1, none⟩ (.int .i64 b.obv)).setCell ⟨A1.heap.size, 2, none⟩ (.int .i64 b.rev)).setCell ⟨A1.heap.size, 3, none⟩ (.int .i64 b.os)).setCell ⟨A1.heap.size, 4, none⟩ (.int .i64 b.rs)).setCell ⟨A1.heap.size, 5, none⟩ (.int .i64 b.ax)).setCell ⟨A1.heap.size, 6, none⟩ (.int .i64 b.wt)) = A4 ∧
    A2.heap[w.heap.size]? = some (.cells #[.int .i64 0, .int .i64 0, .int .i64 0, .int .i64 0, .int .i64 0, .int .i64 0, .int .i64 0] t (0, 0)) ∧ A3.heap[A1.heap.size]? = some (.cells #[.int .i64 0, .int .i64 0, .int .i64 0, .int .i64 0, .int .i64 0, .int .i64 0, .int .i64 0] t (0, 0)) ∧ A4.heap[w.heap.size]? = some (.cells #[.int .i64 a.id, .int .i64 a.obv, .int .i64 a.rev, .int .i64 a.os, .int .i64 a.rs, .int .i64 a.ax, .int .i64 a.wt] t (0, 0)) ∧ A4.heap[A1.heap.size]? = some (.cells #[.int .i64 b.id, .int .i64 b.obv, .int .i64 b.rev, .int .i64 b.os, .int .i64 b.rs, .int .i64 b.ax, .int .i64 b.wt] t (0, 0)) ∧ Below w.heap.size w A4 ∧ Below w.heap.size w A1 ∧ Below w.heap.size w A2 ∧ Below w.heap.size w A3 := by
  obtain ⟨A1, hA1, Hz1, hb1, hlt1, _⟩ := boxed w #[.int .i64 0, .int .i64 0, .int .i64 0, .int .i64 0, .int .i64 0, .int .i64 0, .int .i64 0] t
  obtain ⟨A2, hA2, Hz2, hb2, hlt2, _⟩ := boxed A1 #[.int .i64 0, .int .i64 0, .int .i64 0, .int .i64 0, .int .i64 0, .int .i64 0, .int .i64 0] t
  have k0 : A1.heap[w.heap.size]? = some (.cells #[.int .i64 0, .int .i64 0, .int .i64 0, .int .i64 0, .int .i64 0, .int .i64 0, .int .i64 0] t (0, 0)) := by rw [← hA1]; exact heap_alloc_new _ _
  have k0' := heap_below k0 hb2 (heap_lt k0)
  have k1 : A2.heap[A1.heap.size]? = some (.cells #[.int .i64 0, .int .i64 0, .int .i64 0, .int .i64 0, .int .i64 0, .int .i64 0, .int .i64 0] t (0, 0)) := by rw [← hA2]; exact heap_alloc_new _ _
  obtain ⟨A3, hA3⟩ : ∃ z, (((((((A2.setCell ⟨w.heap.size, 0, none⟩ (.int .i64 a.id)).setCell ⟨w.heap.size, 1, none⟩ (.int .i64 a.obv)).setCell ⟨w.heap.size, 2, none⟩ (.int .i64 a.rev)).setCell ⟨w.heap.size, 3, none⟩ (.int .i64 a.os)).setCell ⟨w.heap.size, 4, none⟩ (.int .i64 a.rs)).setCell ⟨w.heap.size, 5, none⟩ (.int .i64 a.ax)).setCell ⟨w.heap.size, 6, none⟩ (.int .i64 a.wt)) = z := ⟨_, rfl⟩
  have g3 : A2.grownBy A3 (some w.heap.size) := by rw [← hA3]; exact setCells_grown w.heap.size [.int .i64 a.id, .int .i64 a.obv, .int .i64 a.rev, .int .i64 a.os, .int .i64 a.rs, .int .i64 a.ax, .int .i64 a.wt] A2 0
  have k2 : A3.heap[w.heap.size]? = some (.cells #[.int .i64 a.id, .int .i64 a.obv, .int .i64 a.rev, .int .i64 a.os, .int .i64 a.rs, .int .i64 a.ax, .int .i64 a.wt] t (0, 0)) := by rw [← hA3]; exact heap_set7 k0'
  have k3 : A3.heap[A1.heap.size]? = some (.cells #[.int .i64 0, .int .i64 0, .int .i64 0, .int .i64 0, .int .i64 0, .int .i64 0, .int .i64 0] t (0, 0)) := (g3.block _ (heap_lt k1) (fun e => by have := Option.some.inj e; omega)).trans k1
  obtain ⟨A4, hA4⟩ : ∃ z, (((((((A3.setCell ⟨A1.heap.size, 0, none⟩ (.int .i64 b.id)).setCell ⟨A1.heap.size, 1, none⟩ (.int .i64 b.obv)).setCell ⟨A1.heap.size, 2, none⟩ (.int .i64 b.rev)).setCell ⟨A1.heap.size, 3, none⟩ (.int .i64 b.os)).setCell ⟨A1.heap.size, 4, none⟩ (.int .i64 b.rs)).setCell ⟨A1.heap.size, 5, none⟩ (.int .i64 b.ax)).setCell ⟨A1.heap.size, 6, none⟩ (.int .i64 b.wt)) = z := ⟨_, rfl⟩
  have g4 : A3.grownBy A4 (some A1.heap.size) := by rw [← hA4]; exact setCells_grown A1.heap.size [.int .i64 b.id, .int .i64 b.obv, .int .i64 b.rev, .int .i64 b.os, .int .i64 b.rs, .int .i64 b.ax, .int .i64 b.wt] A3 0
  have k4 : A4.heap[A1.heap.size]? = some (.cells #[.int .i64 b.id, .int .i64 b.obv, .int .i64 b.rev, .int .i64 b.os, .int .i64 b.rs, .int .i64 b.ax, .int .i64 b.wt] t (0, 0)) := by rw [← hA4]; exact heap_set7 k3
  have k5 : A4.heap[w.heap.size]? = some (.cells #[.int .i64 a.id, .int .i64 a.obv, .int .i64 a.rev, .int .i64 a.os, .int .i64 a.rs, .int .i64 a.ax, .int .i64 a.wt] t (0, 0)) := (g4.block _ (heap_lt k2) (fun e => by have := Option.some.inj e; omega)).trans k2
  have h2 := below_trans hb1 hb2
  have h3 := h2.grown g3 h2.size (fun j e => by cases e; exact Nat.le_refl _)
  have h4 := h3.grown g4 h3.size (fun j e => by cases e; omega)
  exact ⟨A1, A2, A3, A4, hA1, hA2, hA3, hA4, k0', k3, k5, k4, h4, hb1, h2, h3⟩
theorem two_boxesR (w : World) (a b : Spec) (t : TypeId) : ∃ A1 A2 A3 A4 : World, w.alloc (.cells #[.int .i64 0, .int .i64 0, .int .i64 0, .int .i64 0, .int .i64 0, .int .i64 0, .int .i64 0] t) = A1 ∧ A1.alloc (.cells #[.int .i64 0, .int .i64 0, .int .i64 0, .int .i64 0, .int .i64 0, .int .i64 0, .int .i64 0] t) = A2 ∧ (((((((A2.setCell ⟨A1.heap.size, 0, none⟩ (.int .i64 a.id)).setCell ⟨A1.heap.size, 1, none⟩ (.int .i64 a.obv)).setCell ⟨A1.heap.size, 2, none⟩ (.int .i64 a.rev)).setCell ⟨A1.heap.size, 3, none⟩ (.int .i64 a.os)).setCell ⟨A1.heap.size, 4, none⟩ (.int .i64 a.rs)).setCell ⟨A1.heap.size, 5, none⟩ (.int .i64 a.ax)).setCell ⟨A1.heap.size, 6, none⟩ (.int .i64 a.wt)) = A3 ∧ (((((((A3.setCell ⟨w.heap.size, 0, none⟩ (.int .i64 b.id)).setCell ⟨w.heap.size, 1, none⟩ (.int .i64 b.obv)).setCell ⟨w.heap.size, 2, none⟩ (.int .i64 b.rev)).setCell ⟨w.heap.size, 3, none⟩ (.int .i64 b.os)).setCell ⟨w.heap.size, 4, none⟩ (.int .i64 b.rs)).setCell ⟨w.heap.size, 5, none⟩ (.int .i64 b.ax)).setCell ⟨w.heap.size, 6, none⟩ (.int .i64 b.wt)) = A4 ∧
    A2.heap[A1.heap.size]? = some (.cells #[.int .i64 0, .int .i64 0, .int .i64 0, .int .i64 0, .int .i64 0, .int .i64 0, .int .i64 0] t (0, 0)) ∧ A3.heap[w.heap.size]? = some (.cells #[.int .i64 0, .int .i64 0, .int .i64 0, .int .i64 0, .int .i64 0, .int .i64 0, .int .i64 0] t (0, 0)) ∧ A4.heap[A1.heap.size]? = some (.cells #[.int .i64 a.id, .int .i64 a.obv, .int .i64 a.rev, .int .i64 a.os, .int .i64 a.rs, .int .i64 a.ax, .int .i64 a.wt] t (0, 0)) ∧ A4.heap[w.heap.size]? = some (.cells #[.int .i64 b.id, .int .i64 b.obv, .int .i64 b.rev, .int .i64 b.os, .int .i64 b.rs, .int .i64 b.ax, .int .i64 b.wt] t (0, 0)) ∧ Below w.heap.size w A4 ∧ Below w.heap.size w A1 ∧ Below w.heap.size w A2 ∧ Below w.heap.size w A3 := by
  obtain ⟨A1, hA1, Hz1, hb1, hlt1, _⟩ := boxed w #[.int .i64 0, .int .i64 0, .int .i64 0, .int .i64 0, .int .i64 0, .int .i64 0, .int .i64 0] t
  obtain ⟨A2, hA2, Hz2, hb2, hlt2, _⟩ := boxed A1 #[.int .i64 0, .int .i64 0, .int .i64 0, .int .i64 0, .int .i64 0, .int .i64 0, .int .i64 0] t
  have k0 : A1.heap[w.heap.size]? = some (.cells #[.int .i64 0, .int .i64 0, .int .i64 0, .int .i64 0, .int .i64 0, .int .i64 0, .int .i64 0] t (0, 0)) := by rw [← hA1]; exact heap_alloc_new _ _
  have k0' := heap_below k0 hb2 (heap_lt k0)
  have k1 : A2.heap[A1.heap.size]? = some (.cells #[.int .i64 0, .int .i64 0, .int .i64 0, .int .i64 0, .int .i64 0, .int .i64 0, .int .i64 0] t (0, 0)) := by rw [← hA2]; exact heap_alloc_new _ _
  obtain ⟨A3, hA3⟩ : ∃ z, (((((((A2.setCell ⟨A1.heap.size, 0, none⟩ (.int .i64 a.id)).setCell ⟨A1.heap.size, 1, none⟩ (.int .i64 a.obv)).setCell ⟨A1.heap.size, 2, none⟩ (.int .i64 a.rev)).setCell ⟨A1.heap.size, 3, none⟩ (.int .i64 a.os)).setCell ⟨A1.heap.size, 4, none⟩ (.int .i64 a.rs)).setCell ⟨A1.heap.size, 5, none⟩ (.int .i64 a.ax)).setCell ⟨A1.heap.size, 6, none⟩ (.int .i64 a.wt)) = z := ⟨_, rfl⟩
  have g3 : A2.grownBy A3 (some A1.heap.size) := by rw [← hA3]; exact setCells_grown A1.heap.size [.int .i64 a.id, .int .i64 a.obv, .int .i64 a.rev, .int .i64 a.os, .int .i64 a.rs, .int .i64 a.ax, .int .i64 a.wt] A2 0
  have k2 : A3.heap[A1.heap.size]? = some (.cells #[.int .i64 a.id, .int .i64 a.obv, .int .i64 a.rev, .int .i64 a.os, .int .i64 a.rs, .int .i64 a.ax, .int .i64 a.wt] t (0, 0)) := by rw [← hA3]; exact heap_set7 k1
  have k3 : A3.heap[w.heap.size]? = some (.cells #[.int .i64 0, .int .i64 0, .int .i64 0, .int .i64 0, .int .i64 0, .int .i64 0, .int .i64 0] t (0, 0)) := (g3.block _ (heap_lt k0') (fun e => by have := Option.some.inj e; omega)).trans k0'
  obtain ⟨A4, hA4⟩ : ∃ z, (((((((A3.setCell ⟨w.heap.size, 0, none⟩ (.int .i64 b.id)).setCell ⟨w.heap.size, 1, none⟩ (.int .i64 b.obv)).setCell ⟨w.heap.size, 2, none⟩ (.int .i64 b.rev)).setCell ⟨w.heap.size, 3, none⟩ (.int .i64 b.os)).setCell ⟨w.heap.size, 4, none⟩ (.int .i64 b.rs)).setCell ⟨w.heap.size, 5, none⟩ (.int .i64 b.ax)).setCell ⟨w.heap.size, 6, none⟩ (.int .i64 b.wt)) = z := ⟨_, rfl⟩
  have g4 : A3.grownBy A4 (some w.heap.size) := by rw [← hA4]; exact setCells_grown w.heap.size [.int .i64 b.id, .int .i64 b.obv, .int .i64 b.rev, .int .i64 b.os, .int .i64 b.rs, .int .i64 b.ax, .int .i64 b.wt] A3 0
  have k4 : A4.heap[w.heap.size]? = some (.cells #[.int .i64 b.id, .int .i64 b.obv, .int .i64 b.rev, .int .i64 b.os, .int .i64 b.rs, .int .i64 b.ax, .int .i64 b.wt] t (0, 0)) := by rw [← hA4]; exact heap_set7 k3
  have k5 : A4.heap[A1.heap.size]? = some (.cells #[.int .i64 a.id, .int .i64 a.obv, .int .i64 a.rev, .int .i64 a.os, .int .i64 a.rs, .int .i64 a.ax, .int .i64 a.wt] t (0, 0)) := (g4.block _ (heap_lt k2) (fun e => by have := Option.some.inj e; omega)).trans k2
  have h2 := below_trans hb1 hb2
  have h3 := h2.grown g3 h2.size (fun j e => by cases e; omega)
  have h4 := h3.grown g4 h3.size (fun j e => by cases e; exact Nat.le_refl _)
  exact ⟨A1, A2, A3, A4, hA1, hA2, hA3, hA4, k1, k3, k5, k4, h4, hb1, h2, h3⟩
set_option maxHeartbeats 16000000 in
set_option maxRecDepth 100000 in
theorem idnC_walk (v : Value) (l : List OpC) (m1 m2 : Nat) (w : World) (h : OpsC w v l) (hm1 : m1 < 256) (hm2 : m2 < 256) :
    Calls Tryz.prog 6 #[v, .int .u8 m1, .int .u8 m2] w fun e w' => e = .returned (.bool true) ∧ Below w.heap.size w w' := by
  have HOp := Lib.hid h
  obtain ⟨A, c, rfl, _⟩ := h.at
  obtain ⟨X, hX⟩ : ∃ x, doAll l = x := ⟨_, rfl⟩
  have HG := Lib.hid (good_all l)
  rw [hX] at HG
  have HX := Lib.hid hX
  clear hX h
  obtain ⟨L, D, K⟩ := X
  go_enter Tryz.func6, Tryz.ntmps6
  go_wp2_with fail
  refine (wake52_ok _).mono ?_
  rintro e w0 ⟨rfl, hb0⟩
  by_cases hfew : (30 : Int) < ((l.length : Nat) : Int)
  · go_wp2_with fail
    refine (wake52_ok _).mono ?_
    rintro e w1 ⟨rfl, hb1⟩
    go_wp2_with fail
    go_ret
    exact ⟨rfl, below_trans hb0 hb1⟩
  have hbk := hb0
  clear hb0
  go_wp2_with fail
  have HM := Lib.hid (made_ok _ l _ ⟨HOp.out.1.below hbk, HOp.out.2⟩)
  rw [HX.out] at HM
  clear HOp HX
  refine HM.out.mono ?_
  rintro e w1 ⟨p, q, S, T, rfl, hc, hr, _, _, _, hb1⟩
  have hw1 := below_trans hbk hb1
  have HC := Lib.hid hc; have HR := Lib.hid hr
  obtain ⟨U, ql, vl, hR⟩ := hr
  obtain ⟨⟨_, r1⟩, _⟩ := cellsM hR.row
  have HL := Lib.hid hR.led
  clear hc hR HM
  have hE := Effective_ok _ L D K w1 HC.out.O
  obtain ⟨St, hSt⟩ : ∃ z, standL D K = z := ⟨_, rfl⟩
  rw [hSt] at hE
  obtain ⟨Ef, hEf⟩ : ∃ z, effL St L = z := ⟨_, rfl⟩
  rw [hEf] at hE
  have HEf := Lib.hid hEf; have HSt := Lib.hid hSt
  have HSl : Hid (St.length ≤ 200) := Lib.hid (by rw [← hSt]; exact Nat.le_trans (List.length_filter_le _ _) HG.out.ok.lenD)
  have HE := Lib.hid hE
  clear hEf hSt hE
  go_wp2_with fail
  refine HE.out.mono ?_
  clear HE
  rintro e w2 ⟨uE, rfl, hoE, hb2⟩
  obtain ⟨AE, cE, rfl, _, hcE, hxE⟩ := Specs.cells hoE.slOf
  have HoE := Lib.hid hoE.slOf; have HxE := Lib.hid hxE
  clear hoE hxE
  go_wp2_with fail
  refine (RSpecs_ok T q L D K w2 (HR.out.below hb2)).mono ?_
  rintro e w3 ⟨uS, rfl, hoS, hb3⟩
  obtain ⟨AS, cS, rfl, _, hcS, hxS⟩ := Specs.cells hoS.slOf
  have HoS := Lib.hid hoS.slOf; have HxS := Lib.hid hxS
  have hb23 := below_trans hb2 hb3
  replace r1 := cell_later hb23 r1
  have hLd := rStand_ok U ql D K w3 (HL.out.below hb23)
  rw [HSt.out] at hLd
  have HLd := Lib.hid hLd
  clear hoS hxS hLd
  go_wp2_with fail
  refine HLd.out.mono ?_
  clear HLd
  rintro e w4 ⟨uD, rfl, hoD, hb4⟩
  obtain ⟨AD, cD, rfl, _, hcD, _⟩ := Decs.cells hoD.slOf
  have HoD := Lib.hid hoD.slOf
  have hb24 := below_trans hb3 hb4
  have hw4 := below_trans hw1 (below_trans hb2 hb24)
  have HQ := Lib.hid (baseSpecs_ok _ _ Ef L w4 (HoE.out.below hb24) (HoS.out.below hb4))
  clear hoD r1
  cases tz : (((St.length : Nat) : Int) == 0)
  case' true =>
    have hSn : St = [] := List.eq_nil_of_length_eq_zero (by simpa using tz)
    have hEL : Ef = L := by rw [← HEf.out, hSn]; exact eff_none
    rw [show decide (Ef = L) = true from decide_eq_true hEL] at HQ
    clear hSn hEL
    go_wp2_with fail
    refine HQ.out.mono ?_
    rintro e w5 ⟨rfl, hb5⟩
  case' false =>
    obtain ⟨w5, hw5⟩ : ∃ z, z = w4 := ⟨_, rfl⟩
    have hb5 : Below w4.heap.size w4 w5 := by rw [hw5]; exact Below.refl _ _
    rw [← hw5]
    clear hw5
  all_goals
    have hw5 := below_trans hw4 hb5
    have hb25' := below_trans hb24 hb5
    clear HQ HC HR HL
    by_cases hz : Ef.length = 0
    case pos =>
      have hLn : L = [] := eff_ne (L := St) (by rw [HEf.out]; exact List.eq_nil_of_length_eq_zero hz)
      have t1 : (((Ef.length : Nat) : Int) == 0) = true := by rw [hz]; rfl
      have t2 : (((L.length : Nat) : Int) == 0) = true := by rw [hLn]; rfl
      clear hz hLn
      go_wp2_with fail
      go_ret
      exact ⟨rfl, hw5⟩
    have t1 : (((Ef.length : Nat) : Int) == 0) = false := beq_eq_false_iff_ne.2 (by omega)
    have hne : ¬ Ef = [] := fun e => hz (by rw [e]; rfl)
    have hc1 : IntKind.i64.wrap (m1 : Int) = (m1 : Int) := IntWalk.i64_in _ (by omega)
    have hc2 : IntKind.i64.wrap (m2 : Int) = (m2 : Int) := IntWalk.i64_in _ (by omega)
    have hkp : m1 % Ef.length < Ef.length := Nat.mod_lt _ (by omega)
    have hkq : m2 % Ef.length < Ef.length := Nat.mod_lt _ (by omega)
    obtain ⟨ka, hka⟩ : ∃ k, m1 % Ef.length = k := ⟨_, rfl⟩
    obtain ⟨kb, hkb⟩ : ∃ k, m2 % Ef.length = k := ⟨_, rfl⟩
    rw [hka] at hkp
    rw [hkb] at hkq
    have hmodA : (m1 : Int).tmod (Ef.length : Int) = (ka : Int) := by rw [← hka]; rfl
    have hmodB : (m2 : Int).tmod (Ef.length : Int) = (kb : Int) := by rw [← hkb]; rfl
    obtain ⟨sa, hsa⟩ := get_of_lt hkp
    obtain ⟨sb, hsb⟩ := get_of_lt hkq
    obtain ⟨be, oe, rfl, _, hxe⟩ := HxE.out ka hkp
    obtain ⟨a0, a1, a2, a3, a4, a5, a6⟩ := hxe w5 hb25' ka sa hsa
    obtain ⟨b0, b1, b2, b3, b4, b5, b6⟩ := hxe w5 hb25' kb sb hsb
    have hka1 : (ka : Int) < (Ef.length : Int) := by omega
    have hka0 : (0 : Int) ≤ (ka : Int) := by omega
    have hkb1 : (kb : Int) < (Ef.length : Int) := by omega
    have hkb0 : (0 : Int) ≤ (kb : Int) := by omega
    have hlz : ¬ (Ef.length : Int) = 0 := by omega
    have HSa : Hid (sa ∈ effL St L) := Lib.hid (by rw [HEf.out]; exact List.mem_of_getElem? hsa)
    have HSb : Hid (sb ∈ effL St L) := Lib.hid (by rw [HEf.out]; exact List.mem_of_getElem? hsb)
    clear hz hxe hsa hsb hka hkb HEf HxE HoE HSt
    go_wp2_with fail
    clear t1
    have hba : Below (w5).heap.size (w5) (w5).drew := (Below.refl _ _).drew
    obtain ⟨wa, hwa⟩ : ∃ W, (w5).drew = W := ⟨_, rfl⟩
    rw [hwa] at hba
    have HSt := Lib.hid fun (w9 : World) (hb : Below wa.heap.size wa w9) => (show (fun w' : World => Below wa.heap.size wa w' ∧ w'.cell? ⟨be, oe + ka * 7, none⟩ = some (.int .i64 sa.id) ∧ w'.cell? ⟨be, oe + ka * 7 + 1, none⟩ = some (.int .i64 sa.obv) ∧ w'.cell? ⟨be, oe + ka * 7 + 2, none⟩ = some (.int .i64 sa.rev) ∧ w'.cell? ⟨be, oe + ka * 7 + 3, none⟩ = some (.int .i64 sa.os) ∧ w'.cell? ⟨be, oe + ka * 7 + 4, none⟩ = some (.int .i64 sa.rs) ∧ w'.cell? ⟨be, oe + ka * 7 + 5, none⟩ = some (.int .i64 sa.ax) ∧ w'.cell? ⟨be, oe + ka * 7 + 6, none⟩ = some (.int .i64 sa.wt) ∧ w'.cell? ⟨be, oe + kb * 7, none⟩ = some (.int .i64 sb.id) ∧ w'.cell? ⟨be, oe + kb * 7 + 1, none⟩ = some (.int .i64 sb.obv) ∧ w'.cell? ⟨be, oe + kb * 7 + 2, none⟩ = some (.int .i64 sb.rev) ∧ w'.cell? ⟨be, oe + kb * 7 + 3, none⟩ = some (.int .i64 sb.os) ∧ w'.cell? ⟨be, oe + kb * 7 + 4, none⟩ = some (.int .i64 sb.rs) ∧ w'.cell? ⟨be, oe + kb * 7 + 5, none⟩ = some (.int .i64 sb.ax) ∧ w'.cell? ⟨be, oe + kb * 7 + 6, none⟩ = some (.int .i64 sb.wt)) w9 from ⟨hb, cell_later hb (cell_later hba a0), cell_later hb (cell_later hba a1), cell_later hb (cell_later hba a2), cell_later hb (cell_later hba a3), cell_later hb (cell_later hba a4), cell_later hb (cell_later hba a5), cell_later hb (cell_later hba a6), cell_later hb (cell_later hba b0), cell_later hb (cell_later hba b1), cell_later hb (cell_later hba b2), cell_later hb (cell_later hba b3), cell_later hb (cell_later hba b4), cell_later hb (cell_later hba b5), cell_later hb (cell_later hba b6)⟩)
    have hHeld := HSt.out wa (Below.refl _ _)
    refine wp_region_S 19 (fun w' : World => Below wa.heap.size wa w' ∧ w'.cell? ⟨be, oe + ka * 7, none⟩ = some (.int .i64 sa.id) ∧ w'.cell? ⟨be, oe + ka * 7 + 1, none⟩ = some (.int .i64 sa.obv) ∧ w'.cell? ⟨be, oe + ka * 7 + 2, none⟩ = some (.int .i64 sa.rev) ∧ w'.cell? ⟨be, oe + ka * 7 + 3, none⟩ = some (.int .i64 sa.os) ∧ w'.cell? ⟨be, oe + ka * 7 + 4, none⟩ = some (.int .i64 sa.rs) ∧ w'.cell? ⟨be, oe + ka * 7 + 5, none⟩ = some (.int .i64 sa.ax) ∧ w'.cell? ⟨be, oe + ka * 7 + 6, none⟩ = some (.int .i64 sa.wt) ∧ w'.cell? ⟨be, oe + kb * 7, none⟩ = some (.int .i64 sb.id) ∧ w'.cell? ⟨be, oe + kb * 7 + 1, none⟩ = some (.int .i64 sb.obv) ∧ w'.cell? ⟨be, oe + kb * 7 + 2, none⟩ = some (.int .i64 sb.rev) ∧ w'.cell? ⟨be, oe + kb * 7 + 3, none⟩ = some (.int .i64 sb.os) ∧ w'.cell? ⟨be, oe + kb * 7 + 4, none⟩ = some (.int .i64 sb.rs) ∧ w'.cell? ⟨be, oe + kb * 7 + 5, none⟩ = some (.int .i64 sb.ax) ∧ w'.cell? ⟨be, oe + kb * 7 + 6, none⟩ = some (.int .i64 sb.wt)) (by kernel_rfl) (by decide) ?_
    rw [hwa]
    clear hwa
    clear a0 a1 a2 a3 a4 a5 a6 b0 b1 b2 b3 b4 b5 b6
    refine wpAnyS_takeD 0 (some 53) (.slice (some ⟨be, oe, none⟩) Ef.length cE) (by rfl) (by rfl) (by kernel_rfl) (by exact fun _ _ _ h => h) (by rfl) (fun w' hS => by go_simp) hHeld ?_
    simp only [Act.put, List.setIfInBounds_toArray, List.set_cons_succ, List.set_cons_zero]
    refine wpAnyS_takeD 1 (some 54) (.int .u8 m1) (by rfl) (by rfl) (by kernel_rfl) (by exact fun _ _ _ h => h) (by rfl) (fun w' hS => by go_simp) hHeld ?_
    simp only [Act.put, List.setIfInBounds_toArray, List.set_cons_succ, List.set_cons_zero]
    refine wpAnyS_takeD 2 (some 55) (.int .i64 m1) (by rfl) (by rfl) (by kernel_rfl) (by exact fun _ _ _ h => h) (by rfl) (fun w' hS => by go_simp) hHeld ?_
    simp only [Act.put, List.setIfInBounds_toArray, List.set_cons_succ, List.set_cons_zero]
    refine wpAnyS_takeD 3 (some 56) (.slice (some ⟨be, oe, none⟩) Ef.length cE) (by rfl) (by rfl) (by kernel_rfl) (by exact fun _ _ _ h => h) (by rfl) (fun w' hS => by go_simp) hHeld ?_
    simp only [Act.put, List.setIfInBounds_toArray, List.set_cons_succ, List.set_cons_zero]
    refine wpAnyS_takeD 4 (some 57) (.int .i64 Ef.length) (by rfl) (by rfl) (by kernel_rfl) (by exact fun _ _ _ h => h) (by rfl) (fun w' hS => by go_simp) hHeld ?_
    simp only [Act.put, List.setIfInBounds_toArray, List.set_cons_succ, List.set_cons_zero]
    refine wpAnyS_takeD 5 (some 58) (.int .i64 ka) (by rfl) (by rfl) (by kernel_rfl) (by exact fun _ _ _ h => h) (by rfl) (fun w' hS => by go_simp) hHeld ?_
    simp only [Act.put, List.setIfInBounds_toArray, List.set_cons_succ, List.set_cons_zero]
    refine wpAnyS_takeD 6 (some 59) (.pointer (some ⟨be, oe + ka * 7, none⟩)) (by rfl) (by rfl) (by kernel_rfl) (by exact fun _ _ _ h => h) (by rfl) (fun w' hS => by go_simp) hHeld ?_
    simp only [Act.put, List.setIfInBounds_toArray, List.set_cons_succ, List.set_cons_zero]
    refine wpAnyS_takeD 7 (some 60) (.agg #[.int .i64 sa.id, .int .i64 sa.obv, .int .i64 sa.rev, .int .i64 sa.os, .int .i64 sa.rs, .int .i64 sa.ax, .int .i64 sa.wt]) (by rfl) (by rfl) (by kernel_rfl) (by exact fun _ _ _ h => h) (by rfl) (fun w' hS => by (obtain ⟨_, x0, x1, x2, x3, x4, x5, x6, _⟩ := hS; go_simp)) hHeld ?_
    simp only [Act.put, List.setIfInBounds_toArray, List.set_cons_succ, List.set_cons_zero]
    refine wpAnyS_takeD 8 (some 61) (.slice (some ⟨be, oe, none⟩) Ef.length cE) (by rfl) (by rfl) (by kernel_rfl) (by exact fun _ _ _ h => h) (by rfl) (fun w' hS => by go_simp) hHeld ?_
    simp only [Act.put, List.setIfInBounds_toArray, List.set_cons_succ, List.set_cons_zero]
    refine wpAnyS_takeD 9 (some 62) (.int .u8 m2) (by rfl) (by rfl) (by kernel_rfl) (by exact fun _ _ _ h => h) (by rfl) (fun w' hS => by go_simp) hHeld ?_
    simp only [Act.put, List.setIfInBounds_toArray, List.set_cons_succ, List.set_cons_zero]
    refine wpAnyS_takeD 10 (some 63) (.int .i64 m2) (by rfl) (by rfl) (by kernel_rfl) (by exact fun _ _ _ h => h) (by rfl) (fun w' hS => by go_simp) hHeld ?_
    simp only [Act.put, List.setIfInBounds_toArray, List.set_cons_succ, List.set_cons_zero]
    refine wpAnyS_takeD 11 (some 64) (.slice (some ⟨be, oe, none⟩) Ef.length cE) (by rfl) (by rfl) (by kernel_rfl) (by exact fun _ _ _ h => h) (by rfl) (fun w' hS => by go_simp) hHeld ?_
    simp only [Act.put, List.setIfInBounds_toArray, List.set_cons_succ, List.set_cons_zero]
    refine wpAnyS_takeD 12 (some 65) (.int .i64 Ef.length) (by rfl) (by rfl) (by kernel_rfl) (by exact fun _ _ _ h => h) (by rfl) (fun w' hS => by go_simp) hHeld ?_
    simp only [Act.put, List.setIfInBounds_toArray, List.set_cons_succ, List.set_cons_zero]
    refine wpAnyS_takeD 13 (some 66) (.int .i64 kb) (by rfl) (by rfl) (by kernel_rfl) (by exact fun _ _ _ h => h) (by rfl) (fun w' hS => by go_simp) hHeld ?_
    simp only [Act.put, List.setIfInBounds_toArray, List.set_cons_succ, List.set_cons_zero]
    refine wpAnyS_takeD 14 (some 67) (.pointer (some ⟨be, oe + kb * 7, none⟩)) (by rfl) (by rfl) (by kernel_rfl) (by exact fun _ _ _ h => h) (by rfl) (fun w' hS => by go_simp) hHeld ?_
    simp only [Act.put, List.setIfInBounds_toArray, List.set_cons_succ, List.set_cons_zero]
    refine wpAnyS_takeD 15 (some 68) (.agg #[.int .i64 sb.id, .int .i64 sb.obv, .int .i64 sb.rev, .int .i64 sb.os, .int .i64 sb.rs, .int .i64 sb.ax, .int .i64 sb.wt]) (by rfl) (by rfl) (by kernel_rfl) (by exact fun _ _ _ h => h) (by rfl) (fun w' hS => by (obtain ⟨_, _, _, _, _, _, _, _, x0, x1, x2, x3, x4, x5, x6⟩ := hS; go_simp)) hHeld ?_
    simp only [Act.put, List.setIfInBounds_toArray, List.set_cons_succ, List.set_cons_zero]
    clear hHeld
    refine wpAnyS_two 16 17  (by kernel_rfl) (by rfl) (by rfl) (by decide) (by decide) (fun K hK => ?_) (fun K hK => ?_)
    case' refine_1 =>
      obtain ⟨A1, A2, A3, A4, hA1, hA2, hA3, hA4, k1, k2, k3, k4, hb6, hbA1, hbA2, hbA3⟩ := two_boxes wa sa sb 31
      obtain ⟨⟨z0, z1, z2, z3, z4, z5, z6⟩, f0, f1, f2, f3, f4, f5, f6⟩ := cellsS k1
      obtain ⟨⟨y0, y1, y2, y3, y4, y5, y6⟩, e0, e1, e2, e3, e4, e5, e6⟩ := cellsS k2
      obtain ⟨⟨a0, a1, a2, a3, a4, a5, a6⟩, _⟩ := cellsS k3
      obtain ⟨⟨b0, b1, b2, b3, b4, b5, b6⟩, _⟩ := cellsS k4
      have HK := Lib.hid hK
      clear hK k1 k2 k3 k4
      rw [if_pos (by rfl)]
      go_simp
      refine HK.out _ _ (HSt.out _ hbA1) ?_
      clear HK
      refine wpAnyS_one 17 (by kernel_rfl) (by rfl) (by decide) (fun K hK => ?_)
      have HK := Lib.hid hK; clear hK
      rw [if_pos (by rfl)]
      go_simp
      refine HK.out _ _ (HSt.out _ hbA2) ?_
      clear HK
      refine wpAnyS_one 18 (by kernel_rfl) (by rfl) (by decide) (fun K hK => ?_)
      have HK := Lib.hid hK; clear hK
      rw [if_pos (by rfl)]
      go_simp
      refine HK.out _ _ (HSt.out _ hbA3) ?_
      clear HK
      have HA : Hid (Below w1.heap.size w1 A4) := Lib.hid (below_trans hb2 (below_trans hb25' (below_trans hba hb6)))
      have HBA : Hid (Below w5.heap.size w5 A4) := Lib.hid (below_trans hba hb6)
      refine (show tailOf _ _ _ _ _ _ _ _ from ⟨by kernel_rfl, ?_⟩)
      simp only [List.drop_succ_cons, List.drop_zero]
      go_wp2_with fail
      clear z0 z1 z2 z3 z4 z5 z6 f0 f1 f2 f3 f4 f5 f6 y0 y1 y2 y3 y4 y5 y6 e0 e1 e2 e3 e4 e5 e6 hA2 hA3 hA4 hmodA hmodB hc1 hc2 hka1 hka0 hkb1 hkb0 hlz
      clear hA1
      generalize wa.heap.size = ga at a0 a1 a2 a3 a4 a5 a6 ⊢
      generalize A1.heap.size = gb at b0 b1 b2 b3 b4 b5 b6 ⊢
    case' refine_2 =>
      obtain ⟨A1, A2, A3, A4, hA1, hA2, hA3, hA4, k1, k2, k3, k4, hb6, hbA1, hbA2, hbA3⟩ := two_boxesR wa sa sb 31
      obtain ⟨⟨z0, z1, z2, z3, z4, z5, z6⟩, f0, f1, f2, f3, f4, f5, f6⟩ := cellsS k1
      obtain ⟨⟨y0, y1, y2, y3, y4, y5, y6⟩, e0, e1, e2, e3, e4, e5, e6⟩ := cellsS k2
      obtain ⟨⟨a0, a1, a2, a3, a4, a5, a6⟩, _⟩ := cellsS k3
      obtain ⟨⟨b0, b1, b2, b3, b4, b5, b6⟩, _⟩ := cellsS k4
      have HK := Lib.hid hK
      clear hK k1 k2 k3 k4
      rw [if_pos (by rfl)]
      go_simp
      refine HK.out _ _ (HSt.out _ hbA1) ?_
      clear HK
      refine wpAnyS_one 16 (by kernel_rfl) (by rfl) (by decide) (fun K hK => ?_)
      have HK := Lib.hid hK; clear hK
      rw [if_pos (by rfl)]
      go_simp
      refine HK.out _ _ (HSt.out _ hbA2) ?_
      clear HK
      refine wpAnyS_one 18 (by kernel_rfl) (by rfl) (by decide) (fun K hK => ?_)
      have HK := Lib.hid hK; clear hK
      rw [if_pos (by rfl)]
      go_simp
      refine HK.out _ _ (HSt.out _ hbA3) ?_
      clear HK
      have HA : Hid (Below w1.heap.size w1 A4) := Lib.hid (below_trans hb2 (below_trans hb25' (below_trans hba hb6)))
      have HBA : Hid (Below w5.heap.size w5 A4) := Lib.hid (below_trans hba hb6)
      refine (show tailOf _ _ _ _ _ _ _ _ from ⟨by kernel_rfl, ?_⟩)
      simp only [List.drop_succ_cons, List.drop_zero]
      go_wp2_with fail
      clear z0 z1 z2 z3 z4 z5 z6 f0 f1 f2 f3 f4 f5 f6 y0 y1 y2 y3 y4 y5 y6 e0 e1 e2 e3 e4 e5 e6 hA2 hA3 hA4 hmodA hmodB hc1 hc2 hka1 hka0 hkb1 hkb0 hlz
      clear hA1
      generalize A1.heap.size = ga at a0 a1 a2 a3 a4 a5 a6 ⊢
      generalize wa.heap.size = gb at b0 b1 b2 b3 b4 b5 b6 ⊢
    all_goals
      clear a3 a4 a5 a6 b3 b4 b5 b6
      have HB3 : Hid (Below w3.heap.size w3 A4) := Lib.hid (below_trans hb4 (below_trans hb5 HBA.out))
      have HB4 : Hid (Below w4.heap.size w4 A4) := Lib.hid (below_trans hb5 HBA.out)
      have hwA : Below w.heap.size w A4 := below_trans hw1 HA.out
      clear hba hb6 HA HBA hb5 hb25'
      go_loopw [14] (fun t wr => ∃ n : Nat, n ≤ L.length ∧ t = .int .i64 n ∧ Below A4.heap.size A4 wr) (fun t _ => L.length - (intOf t).toNat)
      case atStart => exact ⟨0, Nat.zero_le _, rfl, Below.refl _ _⟩
      case round =>
        obtain ⟨n, hn, rfl, hb⟩ := hrel
        obtain ⟨wo, hwo0⟩ : ∃ z, z = wr := ⟨_, rfl⟩
        subst hwo0
        by_cases hlt : n < L.length
        case neg =>
          have HCl := Lib.hid (Class_ok (.slice AD St.length cD) St 4 sa.id)
          replace a0 := cell_later hb a0; replace b0 := cell_later hb b0
          have hwn := below_trans hwA hb
          have hb4n := below_trans HB4.out hb
          clear a1 a2 b1 b2
          cases t5 : (sa.id == sb.id)
          case true =>
            have Y1 := Later.cell_all a0; have Y2 := Later.cell_all b0
            go_wp2_with fail
            refine wp_region_later (by kernel_rfl) (by kernel_rfl) ?_
            repeat (go_big_quiet_step (first | fail))
            refine wpQuiet_nil ?_
            intro _ hw'
            obtain ⟨xq, hw''⟩ := hw'
            subst hw''
            have hbq := xq.h
            generalize xq.to = wq at hbq ⊢
            clear Y1 Y2 a0 b0
            go_wp2_with fail
            go_ret
            exact ⟨rfl, below_trans hwn hbq⟩
          have HCo := Lib.hid (eff_coin HSa.out HSb.out (by simpa using t5))
          go_wp2_with fail
          have hba : Below (wo).heap.size (wo) (wo).drew := (Below.refl _ _).drew
          obtain ⟨wa, hwa⟩ : ∃ W, (wo).drew = W := ⟨_, rfl⟩
          rw [hwa] at hba
          have HSt := Lib.hid fun (w9 : World) (hb : Below wa.heap.size wa w9) => (show (fun w' : World => Below wa.heap.size wa w' ∧ w'.cell? ⟨ga, 0, none⟩ = some (.int .i64 sa.id) ∧ w'.cell? ⟨gb, 0, none⟩ = some (.int .i64 sb.id)) w9 from ⟨hb, cell_later hb (cell_later hba a0), cell_later hb (cell_later hba b0)⟩)
          have hHeld := HSt.out wa (Below.refl _ _)
          refine wp_region_S 14 (fun w' : World => Below wa.heap.size wa w' ∧ w'.cell? ⟨ga, 0, none⟩ = some (.int .i64 sa.id) ∧ w'.cell? ⟨gb, 0, none⟩ = some (.int .i64 sb.id)) (by kernel_rfl) (by decide) ?_
          rw [hwa]
          clear hwa
          clear a0 b0
          refine wpAnyS_takeD 0 (some 139) (.pointer (some ⟨ga, 0, none⟩)) (by rfl) (by rfl) (by kernel_rfl) (by exact fun _ _ _ h => h) (by rfl) (fun w' hS => by go_simp) hHeld ?_
          simp only [Act.put, List.setIfInBounds_toArray, List.set_cons_succ, List.set_cons_zero]
          refine wpAnyS_takeD 1 (some 140) (.int .i64 sa.id) (by rfl) (by rfl) (by kernel_rfl) (by exact fun _ _ _ h => h) (by rfl) (fun w' hS => by (obtain ⟨_, x0, x1⟩ := hS; go_simp)) hHeld ?_
          simp only [Act.put, List.setIfInBounds_toArray, List.set_cons_succ, List.set_cons_zero]
          refine wpAnyS_takeD 2 (some 141) (.pointer (some ⟨gb, 0, none⟩)) (by rfl) (by rfl) (by kernel_rfl) (by exact fun _ _ _ h => h) (by rfl) (fun w' hS => by go_simp) hHeld ?_
          simp only [Act.put, List.setIfInBounds_toArray, List.set_cons_succ, List.set_cons_zero]
          refine wpAnyS_takeD 3 (some 142) (.int .i64 sb.id) (by rfl) (by rfl) (by kernel_rfl) (by exact fun _ _ _ h => h) (by rfl) (fun w' hS => by (obtain ⟨_, x0, x1⟩ := hS; go_simp)) hHeld ?_
          simp only [Act.put, List.setIfInBounds_toArray, List.set_cons_succ, List.set_cons_zero]
          refine wpAnyS_takeD 4 (some 143) (.bool false) (by rfl) (by rfl) (by kernel_rfl) (by exact fun _ _ _ h => h) (by rfl) (fun w' hS => by go_simp) hHeld ?_
          simp only [Act.put, List.setIfInBounds_toArray, List.set_cons_succ, List.set_cons_zero]
          refine wpAnyS_takeD 5 (some 144) (.bool false) (by rfl) (by rfl) (by kernel_rfl) (by exact fun _ _ _ h => h) (by rfl) (fun w' hS => by go_simp) hHeld ?_
          simp only [Act.put, List.setIfInBounds_toArray, List.set_cons_succ, List.set_cons_zero]
          refine wpAnyS_takeG 6 (some 145) (.slice AD St.length cD) (by rfl) (by rfl) (by kernel_rfl) (by exact fun _ _ _ h => h) (by rfl) (fun w' hS => by go_simp) hHeld ?_
          simp only [Act.put, List.setIfInBounds_toArray, List.set_cons_succ, List.set_cons_zero]
          refine wpAnyS_takeG 7 (some 146) (.pointer (some ⟨ga, 0, none⟩)) (by rfl) (by rfl) (by kernel_rfl) (by exact fun _ _ _ h => h) (by rfl) (fun w' hS => by go_simp) hHeld ?_
          simp only [Act.put, List.setIfInBounds_toArray, List.set_cons_succ, List.set_cons_zero]
          refine wpAnyS_takeG 8 (some 147) (.int .i64 sa.id) (by rfl) (by rfl) (by kernel_rfl) (by exact fun _ _ _ h => h) (by rfl) (fun w' hS => by (obtain ⟨_, x0, x1⟩ := hS; go_simp)) hHeld ?_
          simp only [Act.put, List.setIfInBounds_toArray, List.set_cons_succ, List.set_cons_zero]
          refine wpAnyS_takeG 10 (some 149) (.pointer (some ⟨gb, 0, none⟩)) (by rfl) (by rfl) (by kernel_rfl) (by exact fun _ _ _ h => h) (by rfl) (fun w' hS => by go_simp) hHeld ?_
          simp only [Act.put, List.setIfInBounds_toArray, List.set_cons_succ, List.set_cons_zero]
          refine wpAnyS_takeG 11 (some 150) (.int .i64 sb.id) (by rfl) (by rfl) (by kernel_rfl) (by exact fun _ _ _ h => h) (by rfl) (fun w' hS => by (obtain ⟨_, x0, x1⟩ := hS; go_simp)) hHeld ?_
          simp only [Act.put, List.setIfInBounds_toArray, List.set_cons_succ, List.set_cons_zero]
          refine wpAnyS_one 9 (by kernel_rfl) (by rfl) (by decide) (fun K hK => ?_)
          have HK := Lib.hid hK; clear hK
          rw [if_pos (by rfl)]
          go_simp
          refine (HCl.out wa (HoD.out.below (below_trans hb4n hba)) HSl.out).mono ?_
          rintro e w7 ⟨u, out, rfl, ho, hco, _, _, hb7⟩
          clear hHeld
          have hHeld := HSt.out _ hb7
          refine HK.out _ _ hHeld ?_
          clear HK
          have hcn := class_has (y := sb.id) hco
          rw [HCo.out] at hcn
          have HH := Has_ok u out sb.id w7 ho.slOf
          rw [hcn] at HH
          have HHs := Lib.hid HH
          clear ho hco hcn HH
          refine wpAnyS_one 12 (by kernel_rfl) (by rfl) (by decide) (fun K hK => ?_)
          have HK := Lib.hid hK; clear hK
          rw [if_pos (by rfl)]
          go_simp
          refine HHs.out.mono ?_
          rintro e w8 ⟨rfl, rfl⟩
          refine HK.out _ _ hHeld ?_
          clear HK
          refine wpAnyS_takeG 13 (some 152) (.bool true) (by rfl) (by rfl) (by kernel_rfl) (by exact fun _ _ _ h => h) (by rfl) (fun w' hS => by go_simp) hHeld ?_
          simp only [Act.put, List.setIfInBounds_toArray, List.set_cons_succ, List.set_cons_zero]
          clear hHeld
          refine (show tailOf _ _ _ _ _ _ _ _ from ⟨by kernel_rfl, ?_⟩)
          simp only [List.drop_succ_cons, List.drop_zero]
          go_wp2_with fail
          go_ret
          exact ⟨rfl, below_trans hwn (below_trans hba hb7)⟩
        have hl1 : (n : Int) < (L.length : Int) := by omega
        go_wp2_with fail
        go_loopw [15] (fun t wr => ∃ m : Nat, m ≤ L.length ∧ t = .int .i64 m ∧ Below A4.heap.size A4 wr) (fun t _ => L.length - (intOf t).toNat)
        case atStart => exact ⟨0, Nat.zero_le _, rfl, hb⟩
        case round =>
          clear hb
          obtain ⟨m, hm, rfl, hbr⟩ := hrel
          by_cases hlt2 : m < L.length
          case neg =>
            clear a0 a1 a2 b0 b1 b2
            go_wp2_with fail
            refine ⟨?rel, ?measure⟩
            case rel => exact ⟨n + 1, by omega, by go_num, hbr⟩
            case measure => first | (simp [intOf]; done) | (simp [intOf]; omega)
          have hl2 : (m : Int) < (L.length : Int) := by omega
          have hn0 : (0 : Int) ≤ (n : Int) := by omega
          have hm0 : (0 : Int) ≤ (m : Int) := by omega
          obtain ⟨x, hx⟩ := get_of_lt hlt
          obtain ⟨y, hy⟩ := get_of_lt hlt2
          obtain ⟨bs, os, rfl, _, hxs⟩ := HxS.out n hlt
          have hb3r := below_trans HB3.out hbr
          obtain ⟨x0, x1, x2, _⟩ := hxs wr hb3r n x hx
          obtain ⟨y0, y1, y2, _⟩ := hxs wr hb3r m y hy
          replace a0 := cell_later hbr a0; replace a1 := cell_later hbr a1; replace a2 := cell_later hbr a2
          replace b0 := cell_later hbr b0; replace b1 := cell_later hbr b1; replace b2 := cell_later hbr b2
          have Y1 := Later.cell_all a0; have Y2 := Later.cell_all b0; have Y3 := Later.cell_all x0; have Y4 := Later.cell_all y0
          have HXm : Hid (x ∈ L ∧ y ∈ L) := Lib.hid ⟨List.mem_of_getElem? hx, List.mem_of_getElem? hy⟩
          have hb4r := below_trans HB4.out hbr
          clear hxs hx hy
          cases t3 : (x.id != sa.id)
          case true =>
            go_wp2_with fail
            refine wp_region_later (by kernel_rfl) (by kernel_rfl) ?_
            repeat (go_big_quiet_step (first | fail))
            refine wpQuiet_nil ?_
            intro _ hw'
            obtain ⟨xq, hw''⟩ := hw'
            subst hw''
            have hbq := xq.h
            generalize xq.to = wq at hbq ⊢
            clear Y1 Y2 Y3 Y4 a0 a1 a2 b0 b1 b2 x0 x1 x2 y0 y1 y2
            go_wp2_with fail
            refine ⟨?rel, ?measure⟩
            case rel => exact ⟨m + 1, by omega, by go_num, below_trans hbr hbq⟩
            case measure => first | (simp [intOf]; done) | (simp [intOf]; omega)
          cases t4 : (y.id != sb.id)
          case true =>
            go_wp2_with fail
            refine wp_region_later (by kernel_rfl) (by kernel_rfl) ?_
            repeat (go_big_quiet_step (first | fail))
            refine wpQuiet_nil ?_
            intro _ hw'
            obtain ⟨xq, hw''⟩ := hw'
            subst hw''
            have hbq := xq.h
            generalize xq.to = wq at hbq ⊢
            clear Y1 Y2 Y3 Y4 a0 a1 a2 b0 b1 b2 x0 x1 x2 y0 y1 y2
            go_wp2_with fail
            refine ⟨?rel, ?measure⟩
            case rel => exact ⟨m + 1, by omega, by go_num, below_trans hbr hbq⟩
            case measure => first | (simp [intOf]; done) | (simp [intOf]; omega)
          have hef := eff_same HG.out.ok.lis.srt HSa.out HSb.out HXm.out.1 HXm.out.2 (by simpa using t3) (by simpa using t4)
          obtain ⟨D1, hD1⟩ : ∃ z, decide (nameK St 1 y.obv = nameK St 1 x.obv) = z := ⟨_, rfl⟩
          obtain ⟨D2, hD2⟩ : ∃ z, decide (nameK St 2 y.rev = nameK St 2 x.rev) = z := ⟨_, rfl⟩
          rw [hD1, hD2] at hef
          have HD1 := Lib.hid hD1; have HD2 := Lib.hid hD2; have HEf2 := Lib.hid hef
          clear hD1 hD2 hef
          go_wp2_with fail
          refine wp_region_later (by kernel_rfl) (by kernel_rfl) ?_
          repeat (go_big_quiet_step (first | fail))
          refine wpQuiet_nil ?_
          intro _ hw'
          obtain ⟨xq, hw''⟩ := hw'
          subst hw''
          have hbq := xq.h
          generalize xq.to = wq at hbq ⊢
          clear Y1 Y2 Y3 Y4 t3 t4 a0 b0 x0 y0
          replace a1 := cell_later hbq a1; replace a2 := cell_later hbq a2; replace b1 := cell_later hbq b1; replace b2 := cell_later hbq b2
          replace x1 := cell_later hbq x1; replace x2 := cell_later hbq x2; replace y1 := cell_later hbq y1; replace y2 := cell_later hbq y2
          have hb4q := below_trans hb4r hbq
          have HCl := Lib.hid fun ki i => Class_ok (.slice AD St.length cD) St ki i
          obtain ⟨hE1, hE2⟩ := HEf2.out
          go_wp2_with fail
          have hba : Below (wq).heap.size (wq) (wq).drew := (Below.refl _ _).drew
          obtain ⟨wa, hwa⟩ : ∃ W, (wq).drew = W := ⟨_, rfl⟩
          rw [hwa] at hba
          have HSt := Lib.hid fun (w9 : World) (hb : Below wa.heap.size wa w9) => (show (fun w' : World => Below wa.heap.size wa w' ∧ w'.cell? ⟨ga, 1, none⟩ = some (.int .i64 sa.obv) ∧ w'.cell? ⟨ga, 2, none⟩ = some (.int .i64 sa.rev) ∧ w'.cell? ⟨gb, 1, none⟩ = some (.int .i64 sb.obv) ∧ w'.cell? ⟨gb, 2, none⟩ = some (.int .i64 sb.rev) ∧ w'.cell? ⟨bs, os + n * 7 + 1, none⟩ = some (.int .i64 x.obv) ∧ w'.cell? ⟨bs, os + n * 7 + 2, none⟩ = some (.int .i64 x.rev) ∧ w'.cell? ⟨bs, os + m * 7 + 1, none⟩ = some (.int .i64 y.obv) ∧ w'.cell? ⟨bs, os + m * 7 + 2, none⟩ = some (.int .i64 y.rev)) w9 from ⟨hb, cell_later hb (cell_later hba a1), cell_later hb (cell_later hba a2), cell_later hb (cell_later hba b1), cell_later hb (cell_later hba b2), cell_later hb (cell_later hba x1), cell_later hb (cell_later hba x2), cell_later hb (cell_later hba y1), cell_later hb (cell_later hba y2)⟩)
          have hHeld := HSt.out wa (Below.refl _ _)
          refine wp_region_S 39 (fun w' : World => Below wa.heap.size wa w' ∧ w'.cell? ⟨ga, 1, none⟩ = some (.int .i64 sa.obv) ∧ w'.cell? ⟨ga, 2, none⟩ = some (.int .i64 sa.rev) ∧ w'.cell? ⟨gb, 1, none⟩ = some (.int .i64 sb.obv) ∧ w'.cell? ⟨gb, 2, none⟩ = some (.int .i64 sb.rev) ∧ w'.cell? ⟨bs, os + n * 7 + 1, none⟩ = some (.int .i64 x.obv) ∧ w'.cell? ⟨bs, os + n * 7 + 2, none⟩ = some (.int .i64 x.rev) ∧ w'.cell? ⟨bs, os + m * 7 + 1, none⟩ = some (.int .i64 y.obv) ∧ w'.cell? ⟨bs, os + m * 7 + 2, none⟩ = some (.int .i64 y.rev)) (by kernel_rfl) (by decide) ?_
          rw [hwa]
          clear hwa
          clear a1 a2 b1 b2 x1 x2 y1 y2
          refine wpAnyS_takeD 0 (some 99) (.pointer (some ⟨ga, 1, none⟩)) (by rfl) (by rfl) (by kernel_rfl) (by exact fun _ _ _ h => h) (by rfl) (fun w' hS => by go_simp) hHeld ?_
          simp only [Act.put, List.setIfInBounds_toArray, List.set_cons_succ, List.set_cons_zero]
          refine wpAnyS_takeD 1 (some 100) (.int .i64 sa.obv) (by rfl) (by rfl) (by kernel_rfl) (by exact fun _ _ _ h => h) (by rfl) (fun w' hS => by (obtain ⟨_, c0, c1, c2, c3, c4, c5, c6, c7⟩ := hS; go_simp)) hHeld ?_
          simp only [Act.put, List.setIfInBounds_toArray, List.set_cons_succ, List.set_cons_zero]
          refine wpAnyS_takeD 2 (some 101) (.pointer (some ⟨gb, 1, none⟩)) (by rfl) (by rfl) (by kernel_rfl) (by exact fun _ _ _ h => h) (by rfl) (fun w' hS => by go_simp) hHeld ?_
          simp only [Act.put, List.setIfInBounds_toArray, List.set_cons_succ, List.set_cons_zero]
          refine wpAnyS_takeD 3 (some 102) (.int .i64 sb.obv) (by rfl) (by rfl) (by kernel_rfl) (by exact fun _ _ _ h => h) (by rfl) (fun w' hS => by (obtain ⟨_, c0, c1, c2, c3, c4, c5, c6, c7⟩ := hS; go_simp)) hHeld ?_
          simp only [Act.put, List.setIfInBounds_toArray, List.set_cons_succ, List.set_cons_zero]
          refine wpAnyS_takeD 4 (some 103) (.bool D1) (by rfl) (by rfl) (by kernel_rfl) (by exact fun _ _ _ h => h) (by rfl) (fun w' hS => by go_simp) hHeld ?_
          simp only [Act.put, List.setIfInBounds_toArray, List.set_cons_succ, List.set_cons_zero]
          refine wpAnyS_takeD 5 (some 104) (.slice AD St.length cD) (by rfl) (by rfl) (by kernel_rfl) (by exact fun _ _ _ h => h) (by rfl) (fun w' hS => by go_simp) hHeld ?_
          simp only [Act.put, List.setIfInBounds_toArray, List.set_cons_succ, List.set_cons_zero]
          refine wpAnyS_takeD 6 (some 105) (.slice (some ⟨bs, os, none⟩) L.length cS) (by rfl) (by rfl) (by kernel_rfl) (by exact fun _ _ _ h => h) (by rfl) (fun w' hS => by go_simp) hHeld ?_
          simp only [Act.put, List.setIfInBounds_toArray, List.set_cons_succ, List.set_cons_zero]
          refine wpAnyS_takeD 7 (some 106) (.int .i64 n) (by rfl) (by rfl) (by kernel_rfl) (by exact fun _ _ _ h => h) (by rfl) (fun w' hS => by go_simp) hHeld ?_
          simp only [Act.put, List.setIfInBounds_toArray, List.set_cons_succ, List.set_cons_zero]
          refine wpAnyS_takeD 8 (some 107) (.pointer (some ⟨bs, os + n * 7, none⟩)) (by rfl) (by rfl) (by kernel_rfl) (by exact fun _ _ _ h => h) (by rfl) (fun w' hS => by go_simp) hHeld ?_
          simp only [Act.put, List.setIfInBounds_toArray, List.set_cons_succ, List.set_cons_zero]
          refine wpAnyS_takeD 9 (some 108) (.pointer (some ⟨bs, os + n * 7 + 1, none⟩)) (by rfl) (by rfl) (by kernel_rfl) (by exact fun _ _ _ h => h) (by rfl) (fun w' hS => by go_simp) hHeld ?_
          simp only [Act.put, List.setIfInBounds_toArray, List.set_cons_succ, List.set_cons_zero]
          refine wpAnyS_takeD 10 (some 109) (.int .i64 x.obv) (by rfl) (by rfl) (by kernel_rfl) (by exact fun _ _ _ h => h) (by rfl) (fun w' hS => by (obtain ⟨_, c0, c1, c2, c3, c4, c5, c6, c7⟩ := hS; go_simp)) hHeld ?_
          simp only [Act.put, List.setIfInBounds_toArray, List.set_cons_succ, List.set_cons_zero]
          refine wpAnyS_takeD 12 (some 111) (.slice (some ⟨bs, os, none⟩) L.length cS) (by rfl) (by rfl) (by kernel_rfl) (by exact fun _ _ _ h => h) (by rfl) (fun w' hS => by go_simp) hHeld ?_
          simp only [Act.put, List.setIfInBounds_toArray, List.set_cons_succ, List.set_cons_zero]
          refine wpAnyS_takeD 13 (some 112) (.int .i64 m) (by rfl) (by rfl) (by kernel_rfl) (by exact fun _ _ _ h => h) (by rfl) (fun w' hS => by go_simp) hHeld ?_
          simp only [Act.put, List.setIfInBounds_toArray, List.set_cons_succ, List.set_cons_zero]
          refine wpAnyS_takeD 14 (some 113) (.pointer (some ⟨bs, os + m * 7, none⟩)) (by rfl) (by rfl) (by kernel_rfl) (by exact fun _ _ _ h => h) (by rfl) (fun w' hS => by go_simp) hHeld ?_
          simp only [Act.put, List.setIfInBounds_toArray, List.set_cons_succ, List.set_cons_zero]
          refine wpAnyS_takeD 15 (some 114) (.pointer (some ⟨bs, os + m * 7 + 1, none⟩)) (by rfl) (by rfl) (by kernel_rfl) (by exact fun _ _ _ h => h) (by rfl) (fun w' hS => by go_simp) hHeld ?_
          simp only [Act.put, List.setIfInBounds_toArray, List.set_cons_succ, List.set_cons_zero]
          refine wpAnyS_takeD 16 (some 115) (.int .i64 y.obv) (by rfl) (by rfl) (by kernel_rfl) (by exact fun _ _ _ h => h) (by rfl) (fun w' hS => by (obtain ⟨_, c0, c1, c2, c3, c4, c5, c6, c7⟩ := hS; go_simp)) hHeld ?_
          simp only [Act.put, List.setIfInBounds_toArray, List.set_cons_succ, List.set_cons_zero]
          refine wpAnyS_one 11 (by kernel_rfl) (by rfl) (by decide) (fun K hK => ?_)
          have HK := Lib.hid hK; clear hK
          rw [if_pos (by rfl)]
          go_simp
          refine (HCl.out 1 x.obv wa (HoD.out.below (below_trans hb4q hba)) HSl.out).mono ?_
          rintro e w7 ⟨u, out, rfl, ho, hco, _, _, hb7⟩
          clear hHeld
          have hHeld := HSt.out _ hb7
          refine HK.out _ _ hHeld ?_
          clear HK
          have hcn := class_has (y := y.obv) hco
          rw [HD1.out] at hcn
          have HH := Has_ok u out y.obv w7 ho.slOf
          rw [hcn] at HH
          have HHs := Lib.hid HH
          clear ho hco hcn HH
          refine wpAnyS_one 17 (by kernel_rfl) (by rfl) (by decide) (fun K hK => ?_)
          have HK := Lib.hid hK; clear hK
          rw [if_pos (by rfl)]
          go_simp
          refine HHs.out.mono ?_
          rintro e w8 ⟨rfl, rfl⟩
          refine HK.out _ _ hHeld ?_
          clear HK HHs
          refine wpAnyS_takeD 18 (some 117) (.bool false) (by rfl) (by rfl) (by kernel_rfl) (by exact fun _ _ _ h => h) (by rfl) (fun w' hS => by go_simp) hHeld ?_
          simp only [Act.put, List.setIfInBounds_toArray, List.set_cons_succ, List.set_cons_zero]
          refine wpAnyS_takeD 19 (some 118) (.bool false) (by rfl) (by rfl) (by kernel_rfl) (by exact fun _ _ _ h => h) (by rfl) (fun w' hS => by go_simp) hHeld ?_
          simp only [Act.put, List.setIfInBounds_toArray, List.set_cons_succ, List.set_cons_zero]
          refine wpAnyS_takeG 20 (some 119) (.pointer (some ⟨ga, 2, none⟩)) (by rfl) (by rfl) (by kernel_rfl) (by exact fun _ _ _ h => h) (by rfl) (fun w' hS => by go_simp) hHeld ?_
          simp only [Act.put, List.setIfInBounds_toArray, List.set_cons_succ, List.set_cons_zero]
          refine wpAnyS_takeG 21 (some 120) (.int .i64 sa.rev) (by rfl) (by rfl) (by kernel_rfl) (by exact fun _ _ _ h => h) (by rfl) (fun w' hS => by (obtain ⟨_, c0, c1, c2, c3, c4, c5, c6, c7⟩ := hS; go_simp)) hHeld ?_
          simp only [Act.put, List.setIfInBounds_toArray, List.set_cons_succ, List.set_cons_zero]
          refine wpAnyS_takeG 22 (some 121) (.pointer (some ⟨gb, 2, none⟩)) (by rfl) (by rfl) (by kernel_rfl) (by exact fun _ _ _ h => h) (by rfl) (fun w' hS => by go_simp) hHeld ?_
          simp only [Act.put, List.setIfInBounds_toArray, List.set_cons_succ, List.set_cons_zero]
          refine wpAnyS_takeG 23 (some 122) (.int .i64 sb.rev) (by rfl) (by rfl) (by kernel_rfl) (by exact fun _ _ _ h => h) (by rfl) (fun w' hS => by (obtain ⟨_, c0, c1, c2, c3, c4, c5, c6, c7⟩ := hS; go_simp)) hHeld ?_
          simp only [Act.put, List.setIfInBounds_toArray, List.set_cons_succ, List.set_cons_zero]
          refine wpAnyS_takeG 24 (some 123) (.bool D2) (by rfl) (by rfl) (by kernel_rfl) (by exact fun _ _ _ h => h) (by rfl) (fun w' hS => by go_simp) hHeld ?_
          simp only [Act.put, List.setIfInBounds_toArray, List.set_cons_succ, List.set_cons_zero]
          refine wpAnyS_takeG 25 (some 124) (.slice AD St.length cD) (by rfl) (by rfl) (by kernel_rfl) (by exact fun _ _ _ h => h) (by rfl) (fun w' hS => by go_simp) hHeld ?_
          simp only [Act.put, List.setIfInBounds_toArray, List.set_cons_succ, List.set_cons_zero]
          refine wpAnyS_takeG 26 (some 125) (.slice (some ⟨bs, os, none⟩) L.length cS) (by rfl) (by rfl) (by kernel_rfl) (by exact fun _ _ _ h => h) (by rfl) (fun w' hS => by go_simp) hHeld ?_
          simp only [Act.put, List.setIfInBounds_toArray, List.set_cons_succ, List.set_cons_zero]
          refine wpAnyS_takeG 27 (some 126) (.int .i64 n) (by rfl) (by rfl) (by kernel_rfl) (by exact fun _ _ _ h => h) (by rfl) (fun w' hS => by go_simp) hHeld ?_
          simp only [Act.put, List.setIfInBounds_toArray, List.set_cons_succ, List.set_cons_zero]
          refine wpAnyS_takeG 28 (some 127) (.pointer (some ⟨bs, os + n * 7, none⟩)) (by rfl) (by rfl) (by kernel_rfl) (by exact fun _ _ _ h => h) (by rfl) (fun w' hS => by go_simp) hHeld ?_
          simp only [Act.put, List.setIfInBounds_toArray, List.set_cons_succ, List.set_cons_zero]
          refine wpAnyS_takeG 29 (some 128) (.pointer (some ⟨bs, os + n * 7 + 2, none⟩)) (by rfl) (by rfl) (by kernel_rfl) (by exact fun _ _ _ h => h) (by rfl) (fun w' hS => by go_simp) hHeld ?_
          simp only [Act.put, List.setIfInBounds_toArray, List.set_cons_succ, List.set_cons_zero]
          refine wpAnyS_takeG 30 (some 129) (.int .i64 x.rev) (by rfl) (by rfl) (by kernel_rfl) (by exact fun _ _ _ h => h) (by rfl) (fun w' hS => by (obtain ⟨_, c0, c1, c2, c3, c4, c5, c6, c7⟩ := hS; go_simp)) hHeld ?_
          simp only [Act.put, List.setIfInBounds_toArray, List.set_cons_succ, List.set_cons_zero]
          refine wpAnyS_takeG 32 (some 131) (.slice (some ⟨bs, os, none⟩) L.length cS) (by rfl) (by rfl) (by kernel_rfl) (by exact fun _ _ _ h => h) (by rfl) (fun w' hS => by go_simp) hHeld ?_
          simp only [Act.put, List.setIfInBounds_toArray, List.set_cons_succ, List.set_cons_zero]
          refine wpAnyS_takeG 33 (some 132) (.int .i64 m) (by rfl) (by rfl) (by kernel_rfl) (by exact fun _ _ _ h => h) (by rfl) (fun w' hS => by go_simp) hHeld ?_
          simp only [Act.put, List.setIfInBounds_toArray, List.set_cons_succ, List.set_cons_zero]
          refine wpAnyS_takeG 34 (some 133) (.pointer (some ⟨bs, os + m * 7, none⟩)) (by rfl) (by rfl) (by kernel_rfl) (by exact fun _ _ _ h => h) (by rfl) (fun w' hS => by go_simp) hHeld ?_
          simp only [Act.put, List.setIfInBounds_toArray, List.set_cons_succ, List.set_cons_zero]
          refine wpAnyS_takeG 35 (some 134) (.pointer (some ⟨bs, os + m * 7 + 2, none⟩)) (by rfl) (by rfl) (by kernel_rfl) (by exact fun _ _ _ h => h) (by rfl) (fun w' hS => by go_simp) hHeld ?_
          simp only [Act.put, List.setIfInBounds_toArray, List.set_cons_succ, List.set_cons_zero]
          refine wpAnyS_takeG 36 (some 135) (.int .i64 y.rev) (by rfl) (by rfl) (by kernel_rfl) (by exact fun _ _ _ h => h) (by rfl) (fun w' hS => by (obtain ⟨_, c0, c1, c2, c3, c4, c5, c6, c7⟩ := hS; go_simp)) hHeld ?_
          simp only [Act.put, List.setIfInBounds_toArray, List.set_cons_succ, List.set_cons_zero]
          refine wpAnyS_one 31 (by kernel_rfl) (by rfl) (by decide) (fun K hK => ?_)
          have HK := Lib.hid hK; clear hK
          rw [if_pos (by rfl)]
          go_simp
          refine (HCl.out 2 x.rev w7 (HoD.out.below (below_trans hb4q (below_trans hba hb7))) HSl.out).mono ?_
          rintro e w9 ⟨u2, out2, rfl, ho, hco, _, _, hb9⟩
          have hb79 := below_trans hb7 hb9
          clear hHeld
          have hHeld := HSt.out _ hb79
          refine HK.out _ _ hHeld ?_
          clear HK
          have hcn := class_has (y := y.rev) hco
          rw [HD2.out] at hcn
          have HH := Has_ok u2 out2 y.rev w9 ho.slOf
          rw [hcn] at HH
          have HHs := Lib.hid HH
          clear ho hco hcn HH
          refine wpAnyS_one 37 (by kernel_rfl) (by rfl) (by decide) (fun K hK => ?_)
          have HK := Lib.hid hK; clear hK
          rw [if_pos (by rfl)]
          go_simp
          refine HHs.out.mono ?_
          rintro e w8 ⟨rfl, rfl⟩
          refine HK.out _ _ hHeld ?_
          clear HK HHs
          refine wpAnyS_takeG 38 (some 137) (.bool false) (by rfl) (by rfl) (by kernel_rfl) (by exact fun _ _ _ h => h) (by rfl) (fun w' hS => by go_simp) hHeld ?_
          simp only [Act.put, List.setIfInBounds_toArray, List.set_cons_succ, List.set_cons_zero]
          clear hHeld
          refine (show tailOf _ _ _ _ _ _ _ _ from ⟨by kernel_rfl, ?_⟩)
          simp only [List.drop_succ_cons, List.drop_zero]
          clear hE1 hE2
          go_wp2_with fail
          refine ⟨?rel, ?measure⟩
          case rel => exact ⟨m + 1, by omega, by go_num, below_trans hbr (below_trans hbq (below_trans hba hb79))⟩
          case measure => first | (simp [intOf]; done) | (simp [intOf]; omega)

theorem u8_natC {n : Int} (h : (Lit.int .u8 n).wf = true) : ∃ k : Nat, n = (k : Int) ∧ k ≤ 255 := by
  have e1 : IntKind.u8.min = 0 := by decide
  have e2 : IntKind.u8.max = 255 := by decide
  have h0 : IntKind.u8.min ≤ n ∧ n ≤ IntKind.u8.max := by simpa [Lit.wf] using h
  exact ⟨n.toNat, by omega, by omega⟩
set_option maxHeartbeats 16000000 in
set_option maxRecDepth 100000 in
theorem idnC_walkI (v : Value) (l : List OpC) (n1 n2 : Int) (w : World) (h : OpsC w v l) (h1 : (Lit.int .u8 n1).wf = true) (h2 : (Lit.int .u8 n2).wf = true) :
    Calls Tryz.prog 6 #[v, .int .u8 n1, .int .u8 n2] w fun e w' => e = .returned (.bool true) ∧ Below w.heap.size w w' := by
  obtain ⟨m1, rfl, hm1⟩ := u8_natC h1
  obtain ⟨m2, rfl, hm2⟩ := u8_natC h2
  exact idnC_walk v l m1 m2 w h (by omega) (by omega)

set_option maxRecDepth 100000 in
theorem idnC_lifted (os : Os) (started : os.Started) (H : Type) (enc : TypeId × Value → H) :
    ReturnsInHanded {} Tryz.checked os 6 .any (Rows.corpusIdentifiesSpec.pre6 enc Tryz.prog Tryz.f6 Rows.corpusIdentifiesRow.domain false) (Rows.corpusIdentifiesSpec.post enc Tryz.prog Tryz.f6 false true false false) := by
  refine returnsInHanded_of_change (C := Tryz.checked) Try.own started (by kernel_rfl) Tryz.func6
    (ChangeSpec.witness6 (enc := enc) (C := Tryz.checked) false ⟨#[], #[.slice none 0 0, .int .u8 0, .int .u8 0], []⟩ 8 (by kernel_rfl) (by kernel_rfl) (by kernel_rfl) (by kernel_rfl)) ?_
  intro W base args ds gs before hval0 hW hcnd _
  have hval : ∀ (j : Nat) t v, Tryz.f6.params[j]? = some t → args[j]? = some v → Value.okWide Tryz.prog W .any base t v := hval0
  have hW' := hW
  obtain ⟨p, q, hA0, hV, rfl, hfz, hnd⟩ := hW
  have hA : DataW.TrodAll enc Tryz.prog W 0 (fun _ => true) true Tryz.f6.params.toList args.toList ds p := hA0
  rw [Tryz.params6] at hA hval
  obtain ⟨v0, v1, v2, d0, d1, d2, p0, p1, p2, rfl, rfl, rfl, h0, h1, h2⟩ := trodAll_three hA
  obtain ⟨rfl, rfl⟩ := trodVars_none hV
  have k0 := h0
  have lt0 : ∀ x ∈ p0, x.block < W.heap.size := by obtain ⟨m, hm⟩ := k0; exact DataW.trod_lt m _ _ _ hm
  obtain ⟨x0, hx0⟩ := opens_opsC (hval 0 22 v0 rfl rfl) h0
  obtain ⟨n1, rfl, rfl, rfl, wn1⟩ := open_int Tryz.underlying5 (hval 1 5 v1 rfl rfl) h1
  obtain ⟨n2, rfl, rfl, rfl, wn2⟩ := open_int Tryz.underlying5 (hval 2 5 v2 rfl rfl) h2
  clear hA0 hval0
  refine (idnC_walkI v0 x0 n1 n2 W hx0 wn1 wn2).mono fun e W' ⟨he, bel⟩ => ?_
  subst he
  exact ⟨_, rfl, _, _, _, [], _, [], hW', trodAll_mk1 (shut_bool Tryz.underlying4 _), trodAll_mk3 (Below.trod Try.laidOut (by kernel_rfl) (of_decide_eq_true (by kernel_rfl)) k0 bel lt0) (shut_int Tryz.underlying5 wn1) (shut_int Tryz.underlying5 wn2), rfl, bel.frame _, fun h => by cases h⟩

theorem idnC_holds : Rows.CorpusIdentifiesSaid :=
  OpenClaim.holds_of_wide 6 Tryz.f6 rfl rfl rfl rfl rfl rfl rfl ⟨rfl, rfl, rfl, rfl, rfl⟩ rfl rfl rfl rfl rfl (by kernel_rfl) Tryz.func6 holIdnC_closed
    (of_decide_eq_true (by kernel_rfl)) (by unfold Func.isWrapper; first | (rw [if_pos (by decide +kernel)]; kernel_rfl) | (rw [if_neg (by decide +kernel)]; exact ⟨rfl, rfl⟩))
    (fun os started H enc _ => idnC_lifted os started H enc)
end Go.Proofs.YthnckicnnhkkaaaGreat
