/- precedence.Consistent; Corpus: Consistent. Condition: the arguments read as lists; the corpus reads as such, or it is nil. -/
import Derived.Test.YthnckicnnhkkaaaGreatBuiA
import Derived.Test.YthnckicnnhkkaaaGreatPosB
import Derived.Test.YthnckicnnhkkaaaGreatCorO
namespace Go.Proofs.YthnckicnnhkkaaaGreat
open Go.RowKit Go.Maps Go.Shelf

set_option maxHeartbeats 4000000 in
set_option maxRecDepth 100000 in
theorem pCons_ok (v : Value) (l : List Spec) (cv : Value) (C : List Pair) (w : World) (h : Specs w v l) (hC : Pairs w cv C) :
    Calls Tryz.prog 87 #[v, cv] w fun e w' => e = .returned (.tuple #[.bool (decide (gatherE l C = 0) && consB l C), .int .i64 (gatherE l C)]) ∧ Below w.heap.size w w' := by
  obtain ⟨A, c, rfl, _⟩ := h.cells
  have HB := Lib.hid (Build_ok A c l cv C w h hC)
  obtain ⟨Ac, cc, rfl, _⟩ := hC.cells
  clear h hC
  obtain ⟨G, hG⟩ : ∃ z, gatherE l C = z := ⟨_, rfl⟩
  obtain ⟨R, hR⟩ : ∃ z, (decide (G = 0) && consB l C) = z := ⟨_, rfl⟩
  rw [hG] at HB
  rw [hG, hR]
  have HG := Lib.hid hG; have HR := Lib.hid hR
  clear hG hR
  go_enter Tryz.func87, Tryz.ntmps87
  go_wp2_with fail
  refine HB.out.mono ?_
  rintro e w1 ⟨u, out, rfl, hu, hcl, hb1⟩
  by_cases hz : G = 0
  · have hcl' := hcl hz
    have HA := Lib.hid (pAcyc_ok l.length u out w1 hu (dig_of (by rw [HG.out]; exact hz) hcl'))
    rw [cons_cla hcl', show consB l C = R from by rw [← HR.out, hz]; simp] at HA
    obtain ⟨Au, cu, rfl, _⟩ := hu.cells
    subst hz
    clear hcl hcl' hu
    go_wp2_with fail
    refine HA.out.mono ?_
    rintro e w2 ⟨rfl, hb2⟩
    go_wp2_with fail
    go_ret2
    exact ⟨rfl, below_trans hb1 hb2⟩
  · have t1 : (G == 0) = false := by simpa using hz
    have HZ : Hid (R = false) := Lib.hid (by rw [← HR.out]; simp [hz])
    obtain ⟨Au, cu, rfl, _⟩ := hu.cells
    clear hz hcl hu
    go_wp2_with fail
    go_ret2
    exact ⟨by rw [HZ.out]; rfl, hb1⟩
set_option maxHeartbeats 4000000 in
set_option maxRecDepth 100000 in
theorem CCons_ok (v : Value) (l : List Spec) (D : List Dec) (W : List Mrk) (w : World) (h : CorO w v l D W) :
    Calls Tryz.prog 37 #[v] w fun e w' => ∃ C, ClaL (rawC (standL D W) l) C ∧ e = .returned (.tuple #[.bool (decide (gatherE (effL (standL D W) l) C = 0) && consB (effL (standL D W) l) C), .int .i64 (gatherE (effL (standL D W) l) C)]) ∧ Below w.heap.size w w' := by
  have HE := Lib.hid (Effective_ok v l D W w h)
  have HC := Lib.hid fun w1 (hb : Below w.heap.size w w1) => Claims_ok v l D W w1 (h.below hb)
  obtain ⟨q, rfl⟩ : ∃ q, v = .pointer q := by
    rcases h with ⟨rfl, _⟩ | ⟨S, p, rfl, _⟩
    · exact ⟨_, rfl⟩
    · exact ⟨_, rfl⟩
  generalize effL (standL D W) l = E at HE ⊢
  generalize rawC (standL D W) l = R at HC ⊢
  clear h
  go_enter Tryz.func37, Tryz.ntmps37
  go_wp2_with fail
  refine HE.out.mono ?_
  rintro e w1 ⟨u, rfl, ho, hb1⟩
  have Ho := Lib.hid ho.slOf
  clear ho
  go_wp2_with fail
  refine (HC.out w1 hb1).mono ?_
  rintro e w2 ⟨u2, C, rfl, ho2, hcl, _, hb2⟩
  have HP := Lib.hid (pCons_ok u E u2 C w2 (Ho.out.below hb2) ho2.slOf)
  have Hcl := Lib.hid hcl
  obtain ⟨Au, cu, rfl, _⟩ := id Ho.out
  obtain ⟨Av, cv, rfl, _⟩ := id ho2.slOf
  clear ho2 hcl
  obtain ⟨G, hG⟩ : ∃ z, gatherE E C = z := ⟨_, rfl⟩
  rw [hG] at HP
  have HG := Lib.hid hG
  clear hG
  go_wp2_with fail
  refine HP.out.mono ?_
  rintro e w3 ⟨rfl, hb3⟩
  go_wp2_with fail
  go_ret2
  exact ⟨C, Hcl.out, by rw [HG.out]; rfl, below_trans hb1 (below_trans hb2 hb3)⟩
end Go.Proofs.YthnckicnnhkkaaaGreat
