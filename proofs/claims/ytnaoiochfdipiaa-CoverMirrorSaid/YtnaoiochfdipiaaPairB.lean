/- slices.Compact at pairs of the call's own. No condition but a bound of the length. -/
import Derived.Test.YtnaoiochfdipiaaPairA
import Derived.Test.YtnaoiochfdipiaaRow
namespace Go.Proofs.Ytnaoiochfdipiaa
open Go.RowKit Go.Shelf

theorem compInv_take {xs dk : List Pair} {kk : Nat} (h : Lib.CompInv xs.toArray xs.length kk dk.toArray) : dk.take kk = Lib.compact xs := by
  unfold Lib.compact
  have hs := h.size
  have hl := h.lt
  simp at hs
  apply List.ext_getElem?
  intro j
  by_cases hj : j < kk
  · rw [List.getElem?_take_of_lt hj, h.low j hj, getElem!_pos dk.toArray j (by simp; omega), List.getElem?_eq_getElem (by omega)]
    simp
  · rw [List.getElem?_take_eq_none (by omega), List.getElem?_eq_none (by rw [h.len]; omega)]
theorem grown_drewN {w w' : World} {r : Option Nat} (h : w.grownBy w' r) (n : Nat) : w.grownBy (w'.drewN n) r := ⟨h.os, h.tape, h.output, h.size, h.block⟩
theorem arrP {xs : List Pair} {k : Nat} {x : Pair} (h : xs[k]? = some x) : xs.toArray[k]! = x := by
  obtain ⟨h1, rfl⟩ := List.getElem?_eq_some_iff.1 h
  exact arr_get xs k h1
theorem setP (dk : List Pair) (k : Nat) (x : Pair) : dk.toArray.setIfInBounds k x = (dk.set k x).toArray := by simp
theorem zeroP (w : World) : (zeroValue 48).run Try.prog w = .ok (.agg #[.int .i64 0, .int .i64 0]) w := by kernel_rfl

set_option maxHeartbeats 4000000 in
set_option maxRecDepth 100000 in
theorem compactP_ok (B : Nat) (v : Value) (xs : List Pair) (w : World) (h : OwnP B w v xs) (hn : xs.length ≤ 1048576) :
    Calls Try.prog 55 #[v] w fun e w' => ∃ u, e = .returned u ∧ OwnP B w' u (Lib.compact xs) ∧ u.ownBlock = v.ownBlock ∧ w.grownBy w' v.ownBlock := by
  rcases h.cases with ⟨rfl, rfl⟩ | ⟨g, cap, rfl, hg, hgw, hcap, hmx⟩
  · go_enter Try.func55, Try.ntmps55
    go_wp2
    go_ret
    exact ⟨_, rfl, by simpa [Lib.compact, Lib.compactUpTo] using h, rfl, World.grownBy.refl _ _⟩
  have Hall : Hid ((∀ j, j < xs.length → Lib.keeps xs.toArray j = true) → Lib.compact xs = xs) := Lib.compact_all xs
  by_cases h2 : xs.length < 2
  · have hd : decide ((xs.length : Int) < 2) = true := by simp; omega
    have Hc := Lib.hid (Hall.out fun j hj => Lib.keeps_lt_one _ j (by omega))
    go_enter Try.func55, Try.ntmps55
    go_wp2
    go_ret
    exact ⟨_, rfl, by rw [Hc.out]; exact h, rfl, World.grownBy.refl _ _⟩
  have hd : decide ((xs.length : Int) < 2) = false := by simp; omega
  have hmx' : (cap : Int) ≤ 9223372036854775807 := by simp only [maxLen] at hmx; omega
  go_enter Try.func55, Try.ntmps55
  go_wp2
  go_loopw [3] (fun i wr => ∃ k : Nat, 1 ≤ k ∧ k ≤ xs.length ∧ i = .int .i64 k ∧ OwnP B wr (.slice (some ⟨g, 0, none⟩) xs.length cap) xs ∧ w.grownBy wr (some g) ∧ (∀ j, j < k → Lib.keeps xs.toArray j = true)) (fun i _ => xs.length - (intOf i).toNat)
  case atStart => exact ⟨1, by omega, by omega, rfl, h, World.grownBy.refl _ _, Lib.keeps_lt_one _⟩
  case round =>
    obtain ⟨k, hk1, hk, rfl, hown, hgr, hall⟩ := hrel
    have HA := Lib.hid hall; clear hall h
    by_cases hlt : k < xs.length
    · obtain ⟨x, hx⟩ := get_of_lt hlt
      obtain ⟨y, hy⟩ := get_of_lt (show k - 1 < xs.length by omega)
      have c0 := (hown.cellsAt lenP rfl hx (j := 0) rfl).1
      have c1 := (hown.cellsAt lenP rfl hx (j := 1) rfl).1
      have d0 := (hown.cellsAt lenP rfl hy (j := 0) rfl).1
      have d1 := (hown.cellsAt lenP rfl hy (j := 1) rfl).1
      simp only [Nat.add_zero] at c0 d0
      have Hx := Lib.hid (arrP hx); have Hy := Lib.hid (arrP hy); clear hx hy
      have hl1 : (k : Int) < (xs.length : Int) := by omega
      have hl0 : (0 : Int) ≤ (k : Int) := by omega
      have hck : ¬ cap = k := by omega
      have hcI : (k : Int) ≤ (xs.length : Int) := by omega
      have hcJ : (xs.length : Int) ≤ (cap : Int) := by omega
      have eP := eqlPair_
      by_cases hxy : x = y
      · have hdx : eqB x y = true := eqB_yes hxy
        have Hxy := Lib.hid hxy; clear hxy
        have Hown := Lib.hid hown; clear hown
        go_wp2
        go_quiet (fail)
        go_wp2
        clear c0 c1 d0 d1
        go_loopw [3, 5] (fun i j wx => ∃ (kk k2 : Nat) (dk : List Pair), i = .int .i64 kk ∧ j = .int .i64 k2 ∧ 1 ≤ k2 ∧ k + k2 ≤ xs.length ∧ OwnP B wx (.slice (some ⟨g, 0, none⟩) xs.length cap) dk ∧ w.grownBy wx (some g) ∧ Lib.CompInv xs.toArray (k + k2) kk dk.toArray) (fun _ j _ => xs.length - k - (intOf j).toNat)
        case atStart => exact ⟨k, 1, xs, rfl, rfl, Nat.le_refl _, by omega, Hown.out.drewN _, grown_drewN hgr _, Lib.CompInv.start HA.out (Lib.keeps_neg (by omega) (by rw [Hx.out, Hy.out, Hxy.out]))⟩
        case round =>
          clear Hown hgr
          obtain ⟨kk, k2, dk, rfl, rfl, h1, hle, hown, hgr, hI⟩ := hrel
          have hkk := hI.lt
          have hds := hI.size
          simp only [List.size_toArray] at hds
          have Hds := Lib.hid hds.symm; clear hds
          have HI := Lib.hid hI; clear hI
          obtain ⟨g', cap', cur⟩ : True ∧ True ∧ True := ⟨trivial, trivial, trivial⟩
          by_cases hlt2 : k + k2 < xs.length
          · obtain ⟨u, hu⟩ := get_of_lt (show k + k2 < dk.length by have := Hds.out; omega)
            obtain ⟨z, hz⟩ := get_of_lt (show k + k2 - 1 < dk.length by have := Hds.out; omega)
            obtain ⟨t, ht⟩ := get_of_lt (show kk < dk.length by have := Hds.out; omega)
            have c0 := (hown.cellsAt lenP Hds.out hu (j := 0) rfl).1
            have c1 := (hown.cellsAt lenP Hds.out hu (j := 1) rfl).1
            have d0 := (hown.cellsAt lenP Hds.out hz (j := 0) rfl).1
            have d1 := (hown.cellsAt lenP Hds.out hz (j := 1) rfl).1
            have t0 := hown.cellsAt lenP Hds.out ht (j := 0) rfl
            have t1 := hown.cellsAt lenP Hds.out ht (j := 1) rfl
            obtain ⟨t0, f0⟩ := t0
            obtain ⟨t1, f1⟩ := t1
            rw [show (k + k2) * 2 = k * 2 + k2 * 2 by omega] at c0 c1
            rw [show (k + k2 - 1) * 2 = k * 2 + (k2 - 1) * 2 by omega] at d0 d1
            simp only [Nat.add_zero] at c0 d0 t0 f0
            have Hu : Hid (xs.toArray[k + k2]! = u) := by show _ = _; rw [← HI.out.high (k + k2) (by omega)]; exact arrP hu
            have Hz : Hid (xs.toArray[k + k2 - 1]! = z) := by show _ = _; rw [← HI.out.high (k + k2 - 1) (by omega)]; exact arrP hz
            clear hu hz ht
            have hput := hown.put lenP (by omega) Hds.out (i := kk) (by omega) u
            have Hput := Lib.hid hput; have Hown := Lib.hid hown; clear hput hown
            have i1 : (k2 : Int) < ((xs.length - k : Nat) : Int) := by omega
            have i0 : (0 : Int) ≤ (k2 : Int) := by omega
            have i2 : (kk : Int) < (xs.length : Int) := by omega
            have i3 : (0 : Int) ≤ (kk : Int) := by omega
            have nP := neqPair_
            clear eP
            by_cases huv : u = z
            · have hdx2 : neB u z = false := neB_no huv
              have Huv := Lib.hid huv; clear huv
              go_wp2
              go_quiet (fail)
              go_wp2
              refine ⟨?rel, ?measure⟩
              case rel => exact ⟨kk, k2 + 1, dk, rfl, by go_num, by omega, by omega, Hown.out.drewN _, grown_drewN hgr _, HI.out.skip (Lib.keeps_neg (by omega) (by rw [Hu.out, Hz.out, Huv.out]))⟩
              case measure => first | (simp [intOf]; done) | (simp [intOf]; omega)
            · have hdx2 : neB u z = true := neB_yes huv
              have Huv := Lib.hid huv; clear huv
              go_wp2
              go_quiet (fail)
              go_wp2
              refine ⟨?rel, ?measure⟩
              case rel => exact ⟨kk + 1, k2 + 1, dk.set kk u, by go_num, by go_num, by omega, by omega, Hput.out.drewN _, grown_drewN (hgr.trans (setCells_grown g (encP u) _ (kk * 2))) _, by have := HI.out.keep (by simpa using hlt2) (Lib.keeps_pos (by rw [Hu.out, Hz.out]; exact Huv.out)); rw [Hu.out, setP] at this; exact this⟩
              case measure => first | (simp [intOf]; done) | (simp [intOf]; omega)
          · have hend : k + k2 = xs.length := by omega
            have Hend := Lib.hid hend; clear hend
            obtain ⟨cur, hB, hgc, q1, q2, q3, q4⟩ := hown.row Hds.out
            have hcl := fun ty => run_clear_rows (P := Try.prog) wr 37 48 ty (.agg #[.int .i64 0, .int .i64 0]) Try.underlying37 zeroP (by simp [Value.cells, Value.oneCell']) g (kk * 2) (xs.length - kk) (cap - kk) (by omega)
              (fun j hj => by rw [heap_cell hgc]; simp [Value.cells] at hj; rw [Array.getElem?_eq_getElem (by omega)]; rfl) (fun j hj => heap_free hgc)
            obtain ⟨Z, hZ⟩ : ∃ Z, (Builtin.zeroCells (Value.cells (.agg #[.int .i64 0, .int .i64 0])) (xs.length - kk)).toList = Z := ⟨_, rfl⟩
            have hZl : Z.length = (xs.length - kk) * 2 := by rw [← hZ, zeros_len]; rfl
            simp only [hZ] at hcl
            clear hZ
            have HZl := Lib.hid hZl; clear hZl
            have Hown := Lib.hid hown; clear hown q3 q4 hgc
            have i2 : (kk : Int) ≤ (xs.length : Int) := by omega
            have i3 : (0 : Int) ≤ (kk : Int) := by omega
            have i4 : (kk : Int) ≤ (cap : Int) := by omega
            have i5 : ¬ cap = kk := by omega
            have i6 : ¬ (k2 : Int) < ((xs.length - k : Nat) : Int) := by omega
            go_wp2
            go_ret
            have hI := HI.out
            rw [Hend.out] at hI
            have hcut := Hown.out.cut lenP Hds.out (m := kk) (by omega)
            rw [compInv_take hI] at hcut
            exact ⟨_, rfl, hcut.putTail lenP (by unfold Lib.compact; rw [hI.len]) (Nat.le_refl _) Z (by rw [HZl.out]; omega), rfl, hgr.trans (setCells_grown g Z _ (kk * 2))⟩
      · have hdx : eqB x y = false := eqB_no hxy
        have Hxy := Lib.hid hxy; clear hxy
        have Hown := Lib.hid hown; clear hown
        go_wp2
        go_quiet (fail)
        go_wp2
        refine ⟨?rel, ?measure⟩
        case rel => exact ⟨k + 1, by omega, by omega, by go_num, Hown.out.drewN _, grown_drewN hgr _, fun j hj => by by_cases e : j = k; (subst e; exact Lib.keeps_pos (by rw [Hx.out, Hy.out]; exact Hxy.out)); exact HA.out j (by omega)⟩
        case measure => first | (simp [intOf]; done) | (simp [intOf]; omega)
    · have hke : k = xs.length := by omega
      have Hc := Lib.hid (Hall.out fun j hj => HA.out j (by omega))
      clear hke
      go_wp2
      go_ret
      exact ⟨_, rfl, by rw [Hc.out]; exact hown, rfl, hgr⟩
end Go.Proofs.Ytnaoiochfdipiaa
