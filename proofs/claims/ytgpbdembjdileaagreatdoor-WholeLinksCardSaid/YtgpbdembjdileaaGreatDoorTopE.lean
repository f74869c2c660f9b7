/- slices.Compare at numbers; canonical.columns. Condition: the arguments read as such. -/
import Derived.Test.YtgpbdembjdileaaGreatDoorTopA
import Derived.Test.YtgpbdembjdileaaGreatDoorRowsI
import Derived.Test.YtgpbdembjdileaaGreatDoorIterI
import Derived.Test.YtgpbdembjdileaaGreatDoorShelf
import Derived.Test.YtgpbdembjdileaaGreatDoorShelfT
import Derived.Laws.EntriesVeiled
import Derived.Test.YtgpbdembjdileaaGreatDoorGroD
namespace Go.Proofs.YtgpbdembjdileaaGreatDoor
open Go.RowKit Go.Maps Go.Shelf

def cmpL : List Int → List Int → Int
  | [], [] => 0
  | [], _ :: _ => -1
  | _ :: _, [] => 1
  | x :: xs, y :: ys => if Lib.compareInt x y = 0 then cmpL xs ys else Lib.compareInt x y
set_option maxHeartbeats 2000000 in
theorem Compare_ok (v u : Value) (xs ys : List Int) (w : World) (h : Ints w v xs) (h' : Ints w u ys) :
    Calls Tryz.prog 93 #[v, u] w fun e w' => e = .returned (.int .i64 (cmpL xs ys)) ∧ w = w' := by
  obtain ⟨A, c, rfl, _, _, hc⟩ := h.cells
  obtain ⟨A', c', rfl, _, _, hc'⟩ := h'.cells
  have hcm := fun x y W' => AnyG.cmp_Compare_int Tryz.layCmp x y W'
  change ∀ x y W', Calls Tryz.prog 81 _ _ _ at hcm
  have HC := Lib.hid hcm; clear hcm
  go_enter Tryz.func93, Tryz.ntmps93
  go_wp2_with fail
  go_loop [11] (fun iv => ∃ k : Nat, k ≤ xs.length ∧ k ≤ ys.length ∧ iv = .int .i64 k ∧ cmpL xs ys = cmpL (xs.drop k) (ys.drop k)) (fun iv => xs.length - (intOf iv).toNat)
  case atStart => exact ⟨0, Nat.zero_le _, Nat.zero_le _, rfl, by simp⟩
  case round =>
    obtain ⟨k, hk, hky, rfl, hr⟩ := hrel
    by_cases hlt : k < xs.length
    · obtain ⟨b, o, rfl, _, hcb⟩ := hc k hlt
      obtain ⟨x, hx⟩ := get_of_lt hlt
      have y0 := hcb _ (Below.refl _ _) k x hx
      have hl1 : (k : Int) < (xs.length : Int) := by omega
      have hl0 : (0 : Int) ≤ (k : Int) := by omega
      rw [drop_at hx] at hr
      clear hcb hc hx
      by_cases hlt2 : k < ys.length
      · obtain ⟨b', o', rfl, _, hcb'⟩ := hc' k hlt2
        obtain ⟨y, hy⟩ := get_of_lt hlt2
        have y1 := hcb' _ (Below.refl _ _) k y hy
        have hl2 : (k : Int) < (ys.length : Int) := by omega
        have hl3 : ¬ (ys.length : Int) ≤ (k : Int) := by omega
        rw [drop_at hy] at hr
        have hcc := HC.out x y
        clear hcb' hc' hy
        by_cases hz : Lib.compareInt x y = 0
        · rw [cmpL, if_pos hz] at hr
          rw [hz] at hcc
          have HR := Lib.hid hr; have Hcc := Lib.hid hcc
          clear hr hz hcc
          go_wp2_with fail
          refine (Hcc.out _).mono ?_
          rintro e w' ⟨rfl, rfl⟩
          go_wp2_with fail
          refine ⟨?rel, ?measure⟩
          case rel => exact ⟨k + 1, by omega, by omega, by go_num, HR.out⟩
          case measure => first | (simp [intOf]; done) | (simp [intOf]; omega)
        · rw [cmpL, if_neg hz] at hr
          have hd : (Lib.compareInt x y != 0) = true := by simpa using hz
          generalize Lib.compareInt x y = R at hcc hd hr
          have Hcc := Lib.hid hcc; have HR := Lib.hid hr
          clear hr hz hcc
          go_wp2_with fail
          refine (Hcc.out _).mono ?_
          rintro e w' ⟨rfl, rfl⟩
          go_wp2_with fail
          go_ret
          exact ⟨by rw [HR.out]; rfl, rfl⟩
      · have ek : k = ys.length := by omega
        have hl3 : (ys.length : Int) ≤ (k : Int) := by omega
        rw [List.drop_of_length_le (show ys.length ≤ k by omega), cmpL] at hr
        have HR := Lib.hid hr
        clear hc' hr ek
        go_wp2_with fail
        go_ret
        exact ⟨by rw [HR.out]; rfl, rfl⟩
    · have ek : k = xs.length := by omega
      rw [List.drop_of_length_le (show xs.length ≤ k by omega)] at hr
      clear hc hc'
      by_cases hlt2 : xs.length < ys.length
      · have hl2 : (xs.length : Int) < (ys.length : Int) := by omega
        obtain ⟨y, hy⟩ := get_of_lt (show k < ys.length by omega)
        rw [drop_at hy, cmpL] at hr
        have HR := Lib.hid hr
        clear hr hy ek
        go_wp2_with fail
        go_ret
        exact ⟨by rw [HR.out]; rfl, rfl⟩
      · have hl2 : ¬ (xs.length : Int) < (ys.length : Int) := by omega
        rw [List.drop_of_length_le (show ys.length ≤ k by omega), cmpL] at hr
        have HR := Lib.hid hr
        clear hr ek
        go_wp2_with fail
        go_ret
        exact ⟨by rw [HR.out]; rfl, rfl⟩
/-- A column, for the first j places of an order. -/
def colA (M : List (List Int)) (o : List Int) (j c : Nat) : List Int := (o.take j).map fun r => (M.getD r.toNat []).getD c 0
def colsJ (M : List (List Int)) (n : Nat) (o : List Int) (c j : Nat) : List (List Int) := (List.range n).map fun i => if i < c then colA M o o.length i else if i = c then colA M o j i else []
def colsP (M : List (List Int)) (n : Nat) (o : List Int) : List (List Int) := (List.range n).map fun i => colA M o o.length i
theorem colsJ_len (M : List (List Int)) (n : Nat) (o : List Int) (c j : Nat) : (colsJ M n o c j).length = n := by simp [colsJ]
theorem colsJ_zero (M : List (List Int)) (n : Nat) (o : List Int) : colsJ M n o 0 0 = List.replicate n [] := by
  refine List.ext_getElem? fun i => ?_
  rw [colsJ, List.getElem?_map]
  by_cases hi : i < n
  · rw [List.getElem?_range hi, List.getElem?_replicate, if_pos hi]; simp [colA]
  · rw [List.getElem?_eq_none (by simpa using hi), List.getElem?_eq_none (by simpa using hi)]; rfl
theorem colsJ_next (M : List (List Int)) (n : Nat) (o : List Int) (c : Nat) : colsJ M n o c o.length = colsJ M n o (c + 1) 0 := by
  refine List.map_congr_left fun i hi => ?_
  by_cases h1 : i < c
  · rw [if_pos h1, if_pos (by omega)]
  · rw [if_neg h1]
    by_cases h2 : i = c
    · rw [if_pos h2, if_pos (by omega)]
    · rw [if_neg h2, if_neg (by omega)]
      split <;> simp [colA]
theorem colsJ_end (M : List (List Int)) (n : Nat) (o : List Int) : colsJ M n o n 0 = colsP M n o := by
  refine List.map_congr_left fun i hi => ?_
  rw [if_pos (List.mem_range.1 hi)]
theorem colsJ_get {M : List (List Int)} {n c : Nat} {o : List Int} (j : Nat) (h : c < n) : (colsJ M n o c j)[c]? = some (colA M o j c) := by
  rw [colsJ, List.getElem?_map, List.getElem?_range h]; simp
theorem colsJ_set {M : List (List Int)} {n c j : Nat} {o : List Int} {r : Int} {row : List Int} {x : Int} (h : c < n) (hr : o[j]? = some r) (hrow : M[r.toNat]? = some row) (hx : row[c]? = some x) :
    (colsJ M n o c j).set c (colA M o j c ++ [x]) = colsJ M n o c (j + 1) := by
  have e : colA M o j c ++ [x] = colA M o (j + 1) c := by
    rw [colA, colA, take_snoc' hr, List.map_append]
    simp [List.getD_eq_getElem?_getD, hrow, hx]
  rw [e]
  refine List.ext_getElem? fun i => ?_
  rw [List.getElem?_set]
  by_cases e2 : c = i
  · subst e2
    rw [if_pos rfl, if_pos (by rw [colsJ_len]; exact h), colsJ_get _ h]
  · rw [if_neg e2]
    by_cases hi : i < n
    · rw [colsJ, colsJ, List.getElem?_map, List.getElem?_map, List.getElem?_range hi]
      simp only [Option.map_some]
      congr 1
      by_cases h1 : i < c
      · rw [if_pos h1, if_pos h1]
      · rw [if_neg h1, if_neg h1, if_neg (by omega), if_neg (by omega)]
    · rw [List.getElem?_eq_none (by rw [colsJ_len]; omega), List.getElem?_eq_none (by rw [colsJ_len]; omega)]
theorem made_nil (n : Nat) : madeCells #[.slice none 0 0] n = Array.replicate n (Value.slice none 0 0) := by
  apply Array.ext_getElem?
  intro i
  simp only [madeCells, Array.getElem?_map, Array.getElem?_replicate]
  by_cases h : i < n
  · simp [h, Nat.mod_one]
  · simp [h]
theorem roSt_made {B : Nat} {w : World} {g n : Nat} (hB : B ≤ g) (h : w.heap[g]? = some (.cells (Array.replicate n (Value.slice none 0 0)) 26 (0, 0))) (hn : n ≤ 64) :
    RoSt B w (.slice (some ⟨g, 0, none⟩) n n) (List.replicate n ⟨none, 0, 0⟩) (List.replicate n []) := by
  refine ⟨Own.ofRow lenH hB h (Nat.le_refl _) (by simp [maxLen]; omega) (by simp) ?_ (by simp), by simp, fun i x r h1 h2 => ?_, fun i j x y h1 h2 hij => ?_⟩
  · rw [Nat.mul_one]
    have : ∀ m, (List.replicate m (⟨none, 0, 0⟩ : Hdr)).flatMap encH = List.replicate m (Value.slice none 0 0) := fun m => by
      induction m with
      | zero => rfl
      | succ m ih => rw [List.replicate_succ, List.flatMap_cons, ih]; rfl
    rw [this]
    simp
  · rw [List.getElem?_replicate] at h1 h2
    split at h1
    · rename_i hi
      rw [if_pos hi] at h2
      cases h1; cases h2
      exact own_nil _ _ _ _ _
    · cases h1
  · rw [List.getElem?_replicate] at h1
    split at h1
    · cases h1; exact .inl rfl
    · cases h1
set_option maxHeartbeats 8000000 in
set_option maxRecDepth 100000 in
theorem columns_ok (m v : Value) (M : List (List Int)) (n : Nat) (o : List Int) (w : World) (hM : Rows w m M) (hn : n ≤ 6) (hw : ∀ r ∈ M, n ≤ r.length) (ho : Ints w v o) (hor : ∀ r ∈ o, 0 ≤ r ∧ r < M.length) (hol : o.length ≤ 6) :
    Calls Tryz.prog 91 #[m, .int .i64 n, v] w fun e w' => ∃ g hs, e = .returned (.slice (some ⟨g, 0, none⟩) n n) ∧ RoSt w.heap.size w' (.slice (some ⟨g, 0, none⟩) n n) hs (colsP M n o) ∧ Below w.heap.size w w' := by
  obtain ⟨Am, cm, rfl, hcm1, hcm2, hmc⟩ := hM.cells
  obtain ⟨Ao, co, rfl, _, _, hoc⟩ := ho.cells
  have Hw := Lib.hid hw; have Hor := Lib.hid hor
  clear hw hor hM ho
  have hmk := run_make_row' (P := Tryz.prog) 117 26 (.slice none 0 0) 24 Tryz.underlying117 infoHI rfl .i64 .i64 n (by omega) (by omega)
  rw [made_nil] at hmk
  obtain ⟨W0, hW0⟩ : ∃ z, w.alloc (.cells (Array.replicate n (Value.slice none 0 0)) 26) = z := ⟨_, rfl⟩
  have hb0 : Below w.heap.size w W0 := by rw [← hW0]; exact (Below.refl _ _).alloc (Nat.le_refl _) _
  have hS0 : RoSt w.heap.size W0 (.slice (some ⟨w.heap.size, 0, none⟩) n n) (List.replicate n ⟨none, 0, 0⟩) (colsJ M n o 0 0) := by
    rw [colsJ_zero]
    refine roSt_made (Nat.le_refl _) ?_ (by omega)
    rw [← hW0]; exact heap_alloc_new _ _
  obtain ⟨iI, hiI, hzI, hkI, hbI⟩ := info_parts infoI
  obtain ⟨gu, hgu⟩ : ∃ g, w.heap.size = g := ⟨_, rfl⟩
  have Hgu := Lib.hid hgu
  go_enter Tryz.func91, Tryz.ntmps91
  go_wp2_with fail
  rw [hgu] at hS0
  clear hmk hW0 hgu
  go_loopw [15] (fun cv wr => ∃ (c : Nat) (hs : List Hdr), c ≤ n ∧ cv = .int .i64 c ∧ RoSt gu wr (.slice (some ⟨gu, 0, none⟩) n n) hs (colsJ M n o c 0) ∧ Below w.heap.size w wr) (fun cv _ => n - (intOf cv).toNat)
  case atStart => exact ⟨0, _, Nat.zero_le _, rfl, hS0, hb0⟩
  case round =>
    clear hS0 hb0
    obtain ⟨c, hs, hc, rfl, hS, hb⟩ := hrel
    by_cases hlt : c < n
    · have hc1 : (c : Int) < (n : Int) := by omega
      have hc0 : (0 : Int) ≤ (c : Int) := by omega
      go_wp2_with fail
      obtain ⟨wo, hwo⟩ : ∃ z, z = wr := ⟨_, rfl⟩
      subst hwo
      go_loopw [20] (fun jv wr => ∃ (j : Nat) (hs : List Hdr), j ≤ o.length ∧ jv = .int .i64 j ∧ RoSt gu wr (.slice (some ⟨gu, 0, none⟩) n n) hs (colsJ M n o c j) ∧ Below w.heap.size w wr) (fun jv _ => o.length - (intOf jv).toNat)
      case atStart => exact ⟨0, _, Nat.zero_le _, rfl, hS, hb⟩
      case round =>
        clear hS hb
        obtain ⟨j, hs, hj, rfl, hS, hb⟩ := hrel
        by_cases hlt2 : j < o.length
        · obtain ⟨bo, oo, rfl, _, hcb⟩ := hoc j hlt2
          obtain ⟨r, hr⟩ := get_of_lt hlt2
          have y0 := hcb wr hb j r hr
          obtain ⟨hr0, hr1⟩ := Hor.out r (List.mem_of_getElem? hr)
          obtain ⟨rn, rfl⟩ : ∃ rn : Nat, r = rn := ⟨r.toNat, by omega⟩
          have hrn : rn < M.length := by omega
          obtain ⟨bm, om, rfl, _, hmb⟩ := hmc rn hrn
          obtain ⟨row, hrow⟩ := get_of_lt hrn
          obtain ⟨Ar, cr, hIr, hcr1, hcr2, hrc⟩ := hmb rn row hrow
          have hnr := Hw.out row (List.mem_of_getElem? hrow)
          obtain ⟨br, orr, e9, _, hxb⟩ := hIr.at (show c < row.length by omega)
          subst e9
          obtain ⟨x, hx⟩ := get_of_lt (show c < row.length by omega)
          have hx0 := hxb x hx
          have hset := colsJ_set hlt hr (by simpa using hrow) hx
          have Hset := Lib.hid hset
          have HY := Lib.hid (fun w' (hb' : Below w.heap.size w w') => And.intro (hrc w' hb') (cell_later hb' hx0))
          have hj1 : (j : Int) < (o.length : Int) := by omega
          have hj0 : (0 : Int) ≤ (j : Int) := by omega
          have hrl : (row.length : Int) > (c : Int) := by omega
          have hla : (colA M o j c).length ≤ 6 := by simp [colA]; omega
          have hhl : hs.length = n := by rw [hS.len, colsJ_len]
          obtain ⟨h0, hh0⟩ := get_of_lt (show c < hs.length by omega)
          have Hh0 := Lib.hid hh0
          have Hhl := Lib.hid hhl.symm
          have Hg := Lib.hid (colsJ_get (M := M) (o := o) j hlt)
          clear hr hrow hset hmb hcb hIr hxb hx hmc hoc hhl hx0 hrc
          go_wp2_with fail
          have hba : Below wr.heap.size wr wr.drew := (Below.refl _ _).drew
          obtain ⟨wa, hwa⟩ : ∃ W, wr.drew = W := ⟨_, rfl⟩
          rw [hwa] at hba
          have hSA := hS.below hba
          have hbA := below_trans hb hba
          have q0 : wa.cell? ⟨gu, c, none⟩ = some h0.v := by
            have := (hSA.own.cellsAt lenH Hhl.out Hh0.out (j := 0) rfl).1
            simpa using this
          obtain ⟨q1, q2⟩ := HY.out wa hbA
          obtain ⟨ha0, hn0, hc0'⟩ := h0
          have hrow := hSA.row c _ _ Hh0.out Hg.out
          have hHeld : (fun w' : World => w'.cell? ⟨gu, c, none⟩ = some (.slice ha0 hn0 hc0') ∧ w'.cell? ⟨bm, om + rn, none⟩ = some (.slice (some ⟨br, orr, none⟩) row.length cr) ∧ w'.cell? ⟨br, orr + c, none⟩ = some (.int .i64 x)) wa := ⟨q0, q1, q2⟩
          have HH := Lib.hid hHeld
          refine wp_region_S 16 (fun w' => w'.cell? ⟨gu, c, none⟩ = some (.slice ha0 hn0 hc0') ∧ w'.cell? ⟨bm, om + rn, none⟩ = some (.slice (some ⟨br, orr, none⟩) row.length cr) ∧ w'.cell? ⟨br, orr + c, none⟩ = some (.int .i64 x)) (by kernel_rfl) (by decide) ?_
          rw [hwa]
          have hc2' : (c : Int) < (n : Int) := by omega
          have hrn1 : (rn : Int) < (M.length : Int) := by omega
          have hrn0 : (0 : Int) ≤ (rn : Int) := by omega
          have hxc : (c : Int) < (row.length : Int) := by omega
          clear hwa q0 q1 q2 y0 hh0
          refine wpAnyS_takeD 0 (some 24) (.slice (some ⟨gu, 0, none⟩) n n) (by rfl) (by rfl) (by kernel_rfl) (by exact fun _ _ _ h => h) (by rfl) (fun w' hS => by go_simp) hHeld ?_
          simp only [Act.put, List.setIfInBounds_toArray, List.set_cons_succ, List.set_cons_zero]
          refine wpAnyS_takeD 1 (some 25) (.int .i64 (c : Int)) (by rfl) (by rfl) (by kernel_rfl) (by exact fun _ _ _ h => h) (by rfl) (fun w' hS => by go_simp) hHeld ?_
          simp only [Act.put, List.setIfInBounds_toArray, List.set_cons_succ, List.set_cons_zero]
          refine wpAnyS_takeD 2 (some 26) (.slice (some ⟨gu, 0, none⟩) n n) (by rfl) (by rfl) (by kernel_rfl) (by exact fun _ _ _ h => h) (by rfl) (fun w' hS => by go_simp) hHeld ?_
          simp only [Act.put, List.setIfInBounds_toArray, List.set_cons_succ, List.set_cons_zero]
          refine wpAnyS_takeD 3 (some 27) (.int .i64 (c : Int)) (by rfl) (by rfl) (by kernel_rfl) (by exact fun _ _ _ h => h) (by rfl) (fun w' hS => by go_simp) hHeld ?_
          simp only [Act.put, List.setIfInBounds_toArray, List.set_cons_succ, List.set_cons_zero]
          refine wpAnyS_takeD 4 (some 28) (.pointer (some ⟨gu, c, none⟩)) (by rfl) (by rfl) (by kernel_rfl) (by exact fun _ _ _ h => h) (by rfl) (fun w' hS => by go_simp) hHeld ?_
          simp only [Act.put, List.setIfInBounds_toArray, List.set_cons_succ, List.set_cons_zero]
          refine wpAnyS_takeD 5 (some 29) (.slice ha0 hn0 hc0') (by rfl) (by rfl) (by kernel_rfl) (by exact fun _ _ _ h => h) (by rfl) (fun w' hS => by (obtain ⟨x0, x1, x2⟩ := hS; go_simp)) hHeld ?_
          simp only [Act.put, List.setIfInBounds_toArray, List.set_cons_succ, List.set_cons_zero]
          refine wpAnyS_takeD 6 (some 30) (.slice (some ⟨bm, om, none⟩) M.length cm) (by rfl) (by rfl) (by kernel_rfl) (by exact fun _ _ _ h => h) (by rfl) (fun w' hS => by go_simp) hHeld ?_
          simp only [Act.put, List.setIfInBounds_toArray, List.set_cons_succ, List.set_cons_zero]
          refine wpAnyS_takeD 7 (some 31) (.int .i64 (rn : Int)) (by rfl) (by rfl) (by kernel_rfl) (by exact fun _ _ _ h => h) (by rfl) (fun w' hS => by go_simp) hHeld ?_
          simp only [Act.put, List.setIfInBounds_toArray, List.set_cons_succ, List.set_cons_zero]
          refine wpAnyS_takeD 8 (some 32) (.pointer (some ⟨bm, om + rn, none⟩)) (by rfl) (by rfl) (by kernel_rfl) (by exact fun _ _ _ h => h) (by rfl) (fun w' hS => by go_simp) hHeld ?_
          simp only [Act.put, List.setIfInBounds_toArray, List.set_cons_succ, List.set_cons_zero]
          refine wpAnyS_takeD 9 (some 33) (.slice (some ⟨br, orr, none⟩) row.length cr) (by rfl) (by rfl) (by kernel_rfl) (by exact fun _ _ _ h => h) (by rfl) (fun w' hS => by (obtain ⟨x0, x1, x2⟩ := hS; go_simp)) hHeld ?_
          simp only [Act.put, List.setIfInBounds_toArray, List.set_cons_succ, List.set_cons_zero]
          refine wpAnyS_takeD 10 (some 34) (.int .i64 (c : Int)) (by rfl) (by rfl) (by kernel_rfl) (by exact fun _ _ _ h => h) (by rfl) (fun w' hS => by go_simp) hHeld ?_
          simp only [Act.put, List.setIfInBounds_toArray, List.set_cons_succ, List.set_cons_zero]
          refine wpAnyS_takeD 11 (some 35) (.pointer (some ⟨br, orr + c, none⟩)) (by rfl) (by rfl) (by kernel_rfl) (by exact fun _ _ _ h => h) (by rfl) (fun w' hS => by go_simp) hHeld ?_
          simp only [Act.put, List.setIfInBounds_toArray, List.set_cons_succ, List.set_cons_zero]
          refine wpAnyS_takeD 12 (some 36) (.int .i64 x) (by rfl) (by rfl) (by kernel_rfl) (by exact fun _ _ _ h => h) (by rfl) (fun w' hS => by (obtain ⟨x0, x1, x2⟩ := hS; go_simp)) hHeld ?_
          simp only [Act.put, List.setIfInBounds_toArray, List.set_cons_succ, List.set_cons_zero]
          clear hHeld
          obtain ⟨V, hV, HzV, hbV, hltV, _⟩ := boxed wa #[.int .i64 x] 3
          have hkV : V.heap[wa.heap.size]? = some (.cells (encI x).toArray 3 (0, 0)) := by rw [← hV]; exact heap_alloc_new _ _
          have hSV := hSA.below hbV
          have hrowV := hrow.below hbV
          have hbVw := below_trans hbA hbV
          have hVs : gu ≤ V.heap.size := by have := hbVw.size; have := Hgu.out; omega
          refine wpAnyS_one 13 (by kernel_rfl) (by rfl) (by decide) (fun K hK => ?_)
          have HK := Lib.hid hK; clear hK
          rw [if_pos (by rfl)]
          go_simp
          refine HK.out _ _ ⟨cell_later hbV HH.out.1, cell_later hbV HH.out.2.1, cell_later hbV HH.out.2.2⟩ ?_
          clear HK
          refine wpAnyS_one 14 (by kernel_rfl) (by rfl) (by decide) (fun K hK => ?_)
          have HK := Lib.hid hK; clear hK
          refine step_append_sl (by rfl) (.tmp 29) (.tmp 37) _ (by rfl) iI _ 8 Tryz.underlying26 hiI hzI hkI hbI (by rfl) (by decide) oneI (by rfl) hrowV _ 1 1 [x] (by rfl) (by rfl) (sl_one (by rfl) hkV) (by simp; omega) (by simp; omega) hVs ?_
          intro v'' w7 ho7 hg7 hat7
          have hb7 : Below w.heap.size w w7 := hbVw.grown hg7 hbVw.size (fun g e => by have := (hrowV.lt g e).1; have := Hgu.out; omega)
          obtain ⟨cgu, hfree⟩ : w7.cell? ⟨gu, c, none⟩ = some (.slice ha0 hn0 hc0') ∧ w7.frozen? ⟨gu, c, none⟩ = false := by
            have := (hSV.own.kept hg7 (ne_rowi hrowV hSV.own)).cellsAt lenH Hhl.out Hh0.out (j := 0) rfl
            simpa using this
          have hHeld : (fun w' : World => w'.cell? ⟨gu, c, none⟩ = some (.slice ha0 hn0 hc0') ∧ w'.cell? ⟨bm, om + rn, none⟩ = some (.slice (some ⟨br, orr, none⟩) row.length cr) ∧ w'.cell? ⟨br, orr + c, none⟩ = some (.int .i64 x)) w7 := ⟨cgu, (HY.out w7 hb7).1, (HY.out w7 hb7).2⟩
          refine HK.out _ _ hHeld ?_
          clear HK
          refine wpAnyS_takeD 15 (some 39) (.pointer (some ⟨gu, c, none⟩)) (by rfl) (by rfl) (by kernel_rfl) (by exact fun _ _ _ h => h) (by rfl) (fun w' hS => by go_simp) hHeld ?_
          simp only [Act.put, List.setIfInBounds_toArray]
          clear hHeld
          obtain ⟨h1, rfl⟩ := own_hdri ho7
          have hfin := hSV.put Hhl.out Hh0.out Hg.out ho7 hg7 hat7
          rw [Hset.out] at hfin
          have hbF : Below w.heap.size w (w7.setCell ⟨gu, c, none⟩ h1.v) := hb7.grown (setCells_grown gu [h1.v] w7 c) hb7.size (fun g e => by cases e; have := Hgu.out; omega)
          have HF := Lib.hid hfin; have HB := Lib.hid hbF
          refine (show tailOf _ _ _ _ _ _ _ _ from ⟨by kernel_rfl, ?_⟩)
          simp only [List.drop_succ_cons, List.drop_zero]
          go_wp2_with fail
          refine ⟨?rel, ?measure⟩
          case rel => exact ⟨j + 1, _, by omega, by go_num, HF.out, HB.out⟩
          case measure => first | (simp [intOf]; done) | (simp [intOf]; omega)
        · have ej : j = o.length := by omega
          subst ej
          rw [colsJ_next] at hS
          clear hoc hmc
          go_wp2_with fail
          refine ⟨?rel, ?measure⟩
          case rel => exact ⟨c + 1, _, by omega, by go_num, hS, hb⟩
          case measure => first | (simp [intOf]; done) | (simp [intOf]; omega)
    · have ec : c = n := by omega
      subst ec
      rw [colsJ_end] at hS
      clear hoc hmc
      go_wp2_with fail
      go_ret
      exact ⟨gu, hs, rfl, by rw [Hgu.out]; exact hS, hb⟩
end Go.Proofs.YtgpbdembjdileaaGreatDoor
/- canonical.code: its columns sorted. Condition: the arguments read as such. -/
namespace Go.Proofs.YtgpbdembjdileaaGreatDoor
open Go.RowKit Go.Maps Go.Shelf Go.Sort

section
variable {α : Type} [Inhabited α] (lt : α → α → Bool)
theorem insInner_size (a : Nat) : ∀ (j : Nat) (d : Array α), (insInner lt a j d).size = d.size
  | 0, d => rfl
  | j + 1, d => by
    rw [insInner]
    split
    · rw [insInner_size a j, size_swp]
    · rfl
theorem insOuter_size (a b : Nat) : ∀ (m i : Nat) (d : Array α), b - i = m → (insOuter lt a b i d).size = d.size
  | 0, i, d, h => by rw [insOuter, if_neg (by omega)]
  | m + 1, i, d, h => by
    rw [insOuter]
    split
    · rw [insOuter_size a b m (i + 1) _ (by omega), insInner_size]
    · rfl
theorem insSort_size (d : Array α) (a b : Nat) : (insertionSort lt d a b).size = d.size := insOuter_size lt a b _ _ d rfl
end
/-- The places of the rows, sorted by the rows. -/
def placeC (R : List (List Int)) (n : Nat) : Array Nat := insertionSort (ltOf fun i j => cmpL (R.getD i []) (R.getD j [])) (List.range n).toArray 0 n
def sortC (R : List (List Int)) (n : Nat) : List (List Int) := (placeC R n).toList.map fun i => R.getD i []
theorem placeC_size (R : List (List Int)) (n : Nat) : (placeC R n).size = n := by rw [placeC, insSort_size]; simp
abbrev hdrV (hs : List Hdr) (i : Nat) : Value := (hs.getD i ⟨none, 0, 0⟩).v
theorem hdrs_flat (hs : List Hdr) : ((List.range hs.length).toArray.map (hdrV hs)) = (hs.flatMap encH).toArray := by
  have e : hs.flatMap encH = hs.map Hdr.v := by
    induction hs with
    | nil => rfl
    | cons x xs ih => rw [List.flatMap_cons, ih]; rfl
  rw [e, List.map_toArray]
  congr 1
  refine List.ext_getElem? fun i => ?_
  rw [List.getElem?_map, List.getElem?_map]
  by_cases hi : i < hs.length
  · rw [List.getElem?_range hi, List.getElem?_eq_getElem hi]
    simp [hdrV, List.getD_eq_getElem?_getD, hi]
  · rw [List.getElem?_eq_none (by simpa using hi), List.getElem?_eq_none (by omega)]; rfl
theorem roSt_at {B : Nat} {w w' : World} {g n c : Nat} {hs : List Hdr} {R : List (List Int)} (h : RoSt B w (.slice (some ⟨g, 0, none⟩) n c) hs R) (hg : w.grownBy w' (some g)) (i : Nat) : Ints w' (hdrV hs i) (R.getD i []) := by
  rcases Nat.lt_or_ge i hs.length with hi | hi
  · obtain ⟨x, hx⟩ := get_of_lt hi
    obtain ⟨r, hr⟩ := get_of_lt (show i < R.length by rw [← h.len]; exact hi)
    have ho := h.row i x r hx hr
    have := (ho.kept hg (rowi_ne ho h.own)).slOf
    simpa [hdrV, List.getD_eq_getElem?_getD, hx, hr, Ints] using this
  · rw [hdrV, List.getD_eq_getElem?_getD, List.getD_eq_getElem?_getD, List.getElem?_eq_none hi, List.getElem?_eq_none (by rw [← h.len]; exact hi)]
    exact ⟨none, 0, rfl, Nat.le_refl _, by simp [maxLen], Sl.nil _ _ _⟩
theorem bitsLen_ok (n : Nat) (W : World) (h : n ≤ 12) : Calls Tryz.prog 83 #[.int .u64 n] W fun e w' => (∃ l : Int, e = .returned (.int .i64 l)) ∧ w' = W :=
  (Any.bits_Len Tryz.layBits n W (by omega) (by omega)).mono fun _ _ ⟨he, hw⟩ => ⟨⟨_, he⟩, hw⟩
theorem sortRows_ok (B g n c : Nat) (hs : List Hdr) (R : List (List Int)) (w : World) (h : RoSt B w (.slice (some ⟨g, 0, none⟩) n c) hs R) (hn : n = hs.length) (h12 : n ≤ 12) (hg : B ≤ g) (hB : B ≤ w.heap.size) :
    Calls Tryz.prog 92 #[.slice (some ⟨g, 0, none⟩) n c, .func (.func 93) #[] #[]] w fun e w' => e = .returned (.tuple #[]) ∧ Rows w' (.slice (some ⟨g, 0, none⟩) n c) (sortC R n) ∧ Below B w w' := by
  have eg : ∀ args w, (callFunc 93 args).run Tryz.prog w = .ok (.enter 93 args) w := enters_of Tryz.func93 (by kernel_rfl) rfl
  have hgrow : ∀ (m : Nat) (os : Array Obj) (dk : Array Nat), w.grownBy (sortWorld (hdrV hs) w g 0 m dk os) (some g) := fun m os dk => by
    unfold sortWorld
    rw [putRow_id]
    exact grownBy_put _
  have hcmp : CmpReads Tryz.prog 93 #[] (hdrV hs) (fun i j => cmpL (R.getD i []) (R.getD j [])) g 0 (List.range n).toArray.size w := fun m os dk _ x y =>
    (Compare_ok _ _ _ _ _ (roSt_at h (hgrow m os dk) x) (roSt_at h (hgrow m os dk) y)).mono fun _ _ ⟨he, hw⟩ => ⟨he, 0, hw.symm⟩
  have hH : Holds (hdrV hs) w g 0 (List.range n).toArray := by
    rw [holds_id, hn, hdrs_flat]
    subst hn
    exact (ownsRow_holds h.own).1
  have hcon := Any.slices_SortFunc_small Tryz.layRows (hdrV hs) (fun _ => rfl) (fun i j => cmpL (R.getD i []) (R.getD j [])) 93 #[] g 0 c (List.range n).toArray w eg hcmp hH (by simpa using h12) bitsLen_ok
  rw [show (List.range n).toArray.size = n by simp] at hcon
  change Calls Tryz.prog 92 _ _ _ at hcon
  refine hcon.mono ?_
  rintro e w' ⟨he, q, hw'⟩
  have hpl : insertionSort (ltOf fun i j => cmpL (R.getD i []) (R.getD j [])) (List.range n).toArray 0 n = placeC R n := rfl
  rw [hpl, ← sortWorld_none] at hw'
  have hgw := hgrow q #[] (placeC R n)
  rw [← hw'] at hgw
  have hys := hw'
  unfold sortWorld at hys
  rw [putRow_id] at hys
  have hrow := ownsRow_put (q := q) (os := #[]) (m := n) (ys := ((placeC R n).map (hdrV hs)).toList) (by subst hn; exact h.own) (by
    rw [flat_len encH 1 lenH, Nat.mul_one, Array.length_toList, Array.size_map, placeC_size, hn]) (Nat.le_refl _)
  rw [show (((placeC R n).map (hdrV hs)).toList).toArray = (placeC R n).map (hdrV hs) from Array.toArray_toList, ← hys] at hrow
  rw [List.take_of_length_le (by simp [placeC_size])] at hrow
  have hcells := World.ownsRow.cells hrow (g := g) rfl
  obtain ⟨_, hl, hc, hcm⟩ := ownsRow_holds hrow
  refine ⟨he, ⟨some ⟨g, 0, none⟩, c, ((placeC R n).map (hdrV hs)).toList, by simp [sortC, placeC_size], by simpa [sortC, placeC_size] using hc, hcm, ⟨by simp [sortC, placeC_size], fun _ => ⟨g, 0, rfl, hl, fun j u hu => ?_⟩⟩, fun i u xs hu hx => ?_⟩, (Below.refl B w).grown hgw hB fun j e => by cases e; exact hg⟩
  · have := hcells j u hu
    simpa [Addr.add_lit] using this
  · rw [sortC, List.getElem?_map] at hx
    rw [Array.toList_map, List.getElem?_map] at hu
    cases hp : (placeC R n).toList[i]? with
    | none => rw [hp] at hx; cases hx
    | some p =>
      rw [hp] at hx hu
      cases hx; cases hu
      exact roSt_at h hgw p
end Go.Proofs.YtgpbdembjdileaaGreatDoor
/- canonical.code: what it does with an order. Condition: the arguments read as such. -/
namespace Go.Proofs.YtgpbdembjdileaaGreatDoor
open Go.RowKit Go.Maps Go.Shelf

theorem Contains_ok (A : Option Addr) (n c : Nat) (xs : List Int) (x : Int) (w : World) (h : Ints w (.slice A n c) xs) :
    Calls Tryz.prog 44 #[.slice A n c, .int .i64 x] w fun e w' => e = .returned (.bool (hasB xs x)) ∧ w = w' := by
  obtain ⟨A', c', e, h1, h2, h3, h4⟩ := h
  cases e
  rcases Nat.eq_zero_or_pos xs.length with h0 | h0
  · have hcon := AnyG.slices_Contains_int_empty Tryz.layHas A c x w
    change Calls Tryz.prog 44 _ _ _ at hcon
    rw [h0]
    refine hcon.mono fun e w' ⟨he, hw⟩ => ⟨?_, hw.symm⟩
    rw [he, List.length_eq_zero_iff.1 h0]; rfl
  · obtain ⟨b, o, rfl, hb, hc⟩ := h4 h0
    have hcon := AnyG.slices_Contains_int Tryz.layHas b o xs.length c xs x w (Nat.le_refl _) (by simp only [maxLen] at h2; omega) fun j hj => hc j _ (by rw [flatI, List.getElem?_map, List.getElem?_eq_getElem hj]; simp [List.getD_eq_getElem?_getD, hj])
    change Calls Tryz.prog 44 _ _ _ at hcon
    rw [List.take_length] at hcon
    exact hcon.mono fun e w' ⟨he, hw⟩ => ⟨he, hw.symm⟩
/-- The rows of a list of columns. -/
def rowC (S : List (List Int)) (r : Nat) : List Int := S.map fun c => c.getD r 0
def flatJ (S : List (List Int)) (n wd r j : Nat) : List Int := (n : Int) :: (wd : Int) :: ((List.range r).flatMap (rowC S) ++ (rowC S r).take j)
theorem flatJ_zero (S : List (List Int)) (n wd : Nat) : flatJ S n wd 0 0 = [(n : Int), (wd : Int)] := by simp [flatJ]
theorem flatJ_next (S : List (List Int)) (n wd r : Nat) : flatJ S n wd r S.length = flatJ S n wd (r + 1) 0 := by
  rw [flatJ, flatJ, List.range_succ, List.flatMap_append, List.take_of_length_le (by simp [rowC])]
  simp
theorem flatJ_snoc {S : List (List Int)} {n wd r j : Nat} {col : List Int} {x : Int} (hc : S[j]? = some col) (hx : col[r]? = some x) : flatJ S n wd r (j + 1) = flatJ S n wd r j ++ [x] := by
  have : (rowC S r)[j]? = some x := by rw [rowC, List.getElem?_map, hc]; simp [List.getD_eq_getElem?_getD, hx]
  rw [flatJ, flatJ, take_snoc' this]
  simp
theorem flatJ_len (S : List (List Int)) (n wd : Nat) : ∀ r j, (flatJ S n wd r j).length ≤ 2 + r * S.length + S.length
  | r, j => by
    have h1 : ((List.range r).flatMap (rowC S)).length = r * S.length := by
      induction r with
      | zero => simp
      | succ r ih => rw [List.range_succ, List.flatMap_append, List.length_append, ih, Nat.add_mul]; simp [rowC]
    rw [flatJ]
    simp only [List.length_cons, List.length_append, h1, List.length_take]
    have : (rowC S r).length = S.length := by simp [rowC]
    omega
def sortedC (M : List (List Int)) (wd : Nat) (o : List Int) : List (List Int) := sortC (colsP M wd o) wd
def flatP (M : List (List Int)) (wd : Nat) (o : List Int) : List Int := flatJ (sortedC M wd o) M.length wd M.length 0
def bestF (M : List (List Int)) (wd : Nat) (o : List Int) (bl : Option (List Int)) : Option (List Int) :=
  match bl with
  | none => some (flatP M wd o)
  | some b => if cmpL (flatP M wd o) b < 0 then some (flatP M wd o) else some b
/-- The best code so far: none, or a slice of the call's own. -/
def BestIs (B : Nat) (w : World) (bv : Value) : Option (List Int) → Prop
  | none => bv = .slice none 0 0
  | some l => OwnI B w bv l ∧ ∃ b c, bv = .slice (some ⟨b, 0, none⟩) l.length c
theorem sortedC_len (M : List (List Int)) (wd : Nat) (o : List Int) : (sortedC M wd o).length = wd := by simp [sortedC, sortC, placeC_size]
theorem BestIs.base {B B' : Nat} {w : World} {bv : Value} {bl : Option (List Int)} (h : BestIs B w bv bl) (hB : B' ≤ B) : BestIs B' w bv bl := by
  cases bl with
  | none => exact h
  | some l => exact ⟨h.1.base hB, h.2⟩
theorem BestIs.below {B : Nat} {w w' : World} {bv : Value} {bl : Option (List Int)} (h : BestIs B w bv bl) (hb : Below w.heap.size w w') : BestIs B w' bv bl := by
  cases bl with
  | none => exact h
  | some l => exact ⟨h.1.below hb, h.2⟩
theorem BestIs.kept {B : Nat} {w w' : World} {bv : Value} {bl : Option (List Int)} {row : Option Nat} (h : BestIs B w bv bl) (hg : w.grownBy w' row) (hne : bv.ownBlock = none ∨ bv.ownBlock ≠ row) : BestIs B w' bv bl := by
  cases bl with
  | none => exact h
  | some l => exact ⟨h.1.kept hg hne, h.2⟩
theorem insInner_mem {α : Type} [Inhabited α] (lt : α → α → Bool) (a : Nat) : ∀ (j : Nat) (d : Array α), j < d.size → ∀ x, x ∈ (Go.Sort.insInner lt a j d) → x ∈ d
  | 0, d, _, x, h => h
  | j + 1, d, hj, x, h => by
    rw [Go.Sort.insInner] at h
    split at h
    · have := insInner_mem lt a j _ (by rw [Go.Sort.size_swp]; omega) x h
      unfold Go.Sort.swp at this
      rw [getElem!_pos d j (by omega), getElem!_pos d (j + 1) hj] at this
      rcases Array.mem_or_eq_of_mem_setIfInBounds this with h1 | h1
      · rcases Array.mem_or_eq_of_mem_setIfInBounds h1 with h2 | h2
        · exact h2
        · rw [h2]; exact Array.getElem_mem _
      · rw [h1]; exact Array.getElem_mem _
    · exact h
theorem insOuter_mem {α : Type} [Inhabited α] (lt : α → α → Bool) (a b : Nat) : ∀ (m i : Nat) (d : Array α), b - i = m → b ≤ d.size → ∀ x, x ∈ Go.Sort.insOuter lt a b i d → x ∈ d
  | 0, i, d, h, _, x, hx => by rw [Go.Sort.insOuter, if_neg (by omega)] at hx; exact hx
  | m + 1, i, d, h, hb, x, hx => by
    rw [Go.Sort.insOuter] at hx
    split at hx
    · exact insInner_mem lt a i d (by omega) x (insOuter_mem lt a b m (i + 1) _ (by omega) (by rw [insInner_size]; exact hb) x hx)
    · exact hx
theorem sortedC_col {M : List (List Int)} {wd : Nat} {o c : List Int} (h : c ∈ sortedC M wd o) : c.length = o.length := by
  rw [sortedC, sortC, List.mem_map] at h
  obtain ⟨p, hp, rfl⟩ := h
  have hp2 := insOuter_mem _ _ _ _ _ _ rfl (by simp) p (Array.mem_toList_iff.1 hp)
  have hlt : p < wd := by simpa using hp2
  rw [List.getD_eq_getElem?_getD, colsP, List.getElem?_map, List.getElem?_range hlt]
  simp [colA]
end Go.Proofs.YtgpbdembjdileaaGreatDoor
/- canonical.code's closure: one order. Condition: the arguments read as such. -/
namespace Go.Proofs.YtgpbdembjdileaaGreatDoor
open Go.RowKit Go.Maps Go.Shelf

set_option maxHeartbeats 8000000 in
set_option maxRecDepth 100000 in
theorem codeF_ok (M : List (List Int)) (wd : Nat) (o : List Int) (bl : Option (List Int)) (B p2 p3 p5 : Nat) (m v bv : Value) (w : World) (hM : Rows w m M) (hn : M.length ≤ 6) (hwd : wd ≤ 6) (hw : ∀ r ∈ M, wd ≤ r.length) (ho : Ints w v o) (hor : ∀ r ∈ o, 0 ≤ r ∧ r < M.length) (hol : o.length = M.length)
    (c2 : w.cell? ⟨p2, 0, none⟩ = some m) (c3 : w.cell? ⟨p3, 0, none⟩ = some (.int .i64 wd)) (h5 : w.heap[p5]? = some (.cells #[bv] 26 (0, 0))) (hBe : BestIs B w bv bl) (hB : B ≤ w.heap.size) :
    Calls Tryz.prog 90 #[v, .pointer (some ⟨p2, 0, none⟩), .pointer (some ⟨p3, 0, none⟩), .pointer (some ⟨p5, 0, none⟩)] w fun e w' => e = .returned (.bool true) ∧ ∃ bv', w'.heap[p5]? = some (.cells #[bv'] 26 (0, 0)) ∧ BestIs B w' bv' (bestF M wd o bl) ∧ (bv' = bv ∨ ∀ j, bv'.ownBlock = some j → w.heap.size ≤ j) ∧ Touch w w' [p5] := by
  have hM0 := hM
  obtain ⟨Am, cm, rfl, hcm1, hcm2, _⟩ := hM.cells
  obtain ⟨Ao, co, rfl, _⟩ := id ho
  have hp5 := heap_lt h5
  have Hol := Lib.hid hol
  have hol6 : o.length ≤ 6 := by omega
  clear hol
  have c20 := c2; have c30 := c3
  have en1 := fun (w : World) => Lib.run_eql_slice_nil (P := Tryz.prog) w 26 3 none 0 0 0 0 Tryz.underlying26
  have en2 := fun (w : World) (a : Addr) (n c : Nat) => Lib.run_eql_slice_nil (P := Tryz.prog) w 26 3 (some a) n c 0 0 Tryz.underlying26
  simp only [Option.isNone_none, Option.isNone_some] at en1 en2
  go_enter Tryz.func90, Tryz.ntmps90
  go_wp2_with fail
  refine (columns_ok _ _ M wd o _ hM0 hwd hw ho hor hol6).mono ?_
  rintro e w1 ⟨gu, hs, rfl, hS, hb1⟩
  have c2 := cell_later hb1 c2; have c3 := cell_later hb1 c3
  have hgu := (hS.own.lt gu rfl).1
  have hsl : wd = hs.length := by rw [hS.len]; simp [colsP]
  have Hsl := Lib.hid hsl
  have hwd12 : wd ≤ 12 := by omega
  clear hw hor hsl
  go_wp2_with fail
  refine (sortRows_ok w.heap.size gu wd wd hs _ w1 hS Hsl.out hwd12 hgu hb1.size).mono ?_
  rintro e w2 ⟨rfl, hR, hb2⟩
  have hw2 : Below w.heap.size w w2 := hb1.trans hb2
  have c2 := cell_later hw2 c20; have c3 := cell_later hw2 c30
  clear hS Hsl hgu hb1 hb2
  have hcol := fun c (hc : c ∈ sortedC M wd o) => sortedC_col hc
  have hSl := sortedC_len M wd o
  rw [show sortC (colsP M wd o) wd = sortedC M wd o from rfl] at hR
  obtain ⟨S, hSd⟩ : ∃ S, sortedC M wd o = S := ⟨_, rfl⟩
  have HS := Lib.hid hSd
  rw [hSd] at hR hcol hSl
  obtain ⟨A9, c9, e9, _, _, hRc⟩ := hR.cells
  rw [hSl] at e9
  cases e9
  obtain ⟨W3, hW3⟩ : ∃ z, w2.alloc (.cells #[.int .i64 M.length, .int .i64 wd] 3) = z := ⟨_, rfl⟩
  have hb3 : Below w2.heap.size w2 W3 := by rw [← hW3]; exact (Below.refl _ _).alloc (Nat.le_refl _) _
  have hown3 : OwnI w2.heap.size W3 (.slice (some ⟨w2.heap.size, 0, none⟩) 2 2) (flatJ S M.length wd 0 0) := by
    rw [flatJ_zero]
    refine Own.ofRow lenI (Nat.le_refl _) (cur := #[.int .i64 M.length, .int .i64 wd]) ?_ (by omega) (by simp [maxLen]) rfl rfl rfl
    rw [← hW3]; exact heap_alloc_new _ _
  obtain ⟨iI, hiI, hzI, hkI, hbI⟩ := info_parts infoI
  have c2 := cell_later hb3 c2; have c3 := cell_later hb3 c3
  have HSl := Lib.hid hSl
  clear hSd hR hSl
  go_wp2_with fail
  clear hW3
  go_loopw [7, 23] (fun fv rv wr => ∃ r : Nat, r ≤ M.length ∧ rv = .int .i64 r ∧ OwnI w2.heap.size wr fv (flatJ S M.length wd r 0) ∧ Below w2.heap.size w2 wr) (fun _ rv _ => M.length - (intOf rv).toNat)
  case atStart => exact ⟨0, Nat.zero_le _, rfl, hown3, hb3⟩
  case round =>
    clear hown3 hb3
    obtain ⟨r, hr, rfl, hown, hb⟩ := hrel
    by_cases hlt : r < M.length
    · have hr1 : (r : Int) < (M.length : Int) := by omega
      have hr0 : (0 : Int) ≤ (r : Int) := by omega
      go_wp2_with fail
      obtain ⟨wo, hwo⟩ : ∃ z, z = wr := ⟨_, rfl⟩
      subst hwo
      go_loopw [7, 28] (fun fv jv wr => ∃ j : Nat, j ≤ wd ∧ jv = .int .i64 j ∧ OwnI w2.heap.size wr fv (flatJ S M.length wd r j) ∧ Below w2.heap.size w2 wr) (fun _ jv _ => wd - (intOf jv).toNat)
      case atStart => exact ⟨0, Nat.zero_le _, rfl, hown, hb⟩
      case round =>
        clear hown hb
        obtain ⟨j, hj, rfl, hown, hb⟩ := hrel
        by_cases hlt2 : j < wd
        · obtain ⟨b, o', e9, _, hcb⟩ := hRc j (by rw [HSl.out]; exact hlt2)
          cases e9
          obtain ⟨col, hcl⟩ := get_of_lt (show j < S.length by rw [HSl.out]; exact hlt2)
          obtain ⟨Ac, cc, hIc, hcc1, hcc2, hcc3⟩ := hcb j col hcl
          have hclen := (hcol col (List.mem_of_getElem? hcl)).trans Hol.out
          obtain ⟨bc, oc, e9, _, hxb⟩ := hIc.at (show r < col.length by omega)
          subst e9
          obtain ⟨x, hx⟩ := get_of_lt (show r < col.length by omega)
          have y0 := hcc3 wr hb
          rw [Nat.zero_add] at y0
          have y1 := cell_later hb (hxb x hx)
          have hsn := flatJ_snoc (n := M.length) (wd := wd) hcl hx
          have hfl := flatJ_len S M.length wd r j
          rw [HSl.out] at hfl
          have hrw : r * wd ≤ 6 * 6 := Nat.mul_le_mul (by omega) hwd
          have Hsn := Lib.hid hsn
          have hj1 : (j : Int) < (wd : Int) := by omega
          have hj0 : (0 : Int) ≤ (j : Int) := by omega
          have hrc1 : (r : Int) < (col.length : Int) := by omega
          have hBs := hb.size
          clear hcb hcl hIc hcc3 hxb hx hsn hRc hcol
          go_wp2_with (at_builtin; refine wpList_append1 (enc := encI) (size := 1) (B := w2.heap.size) rfl (.tmp 32) (.tmp 37) _ rfl 3 iI _ 8 Tryz.underlying26 hiI hzI hkI hbI rfl (by decide) rfl hown x _ rfl lenI oneI _ rfl rfl (by omega) (by omega) hBs ?_; intro v' w7 hown' hgrow hat)
          refine ⟨?rel, ?measure⟩
          case rel => exact ⟨j + 1, by omega, by go_num, by rw [Hsn.out]; exact hown', hb.trans (below_append hown hgrow hBs)⟩
          case measure => first | (simp [intOf]; done) | (simp [intOf]; omega)
        · have ej : j = S.length := by rw [HSl.out]; omega
          rw [ej, flatJ_next] at hown
          clear hRc hcol ej
          go_wp2_with fail
          refine ⟨?rel, ?measure⟩
          case rel => exact ⟨r + 1, by omega, by go_num, hown, hb⟩
          case measure => first | (simp [intOf]; done) | (simp [intOf]; omega)
    · have er : r = M.length := by omega
      subst er
      have hwr : Below w.heap.size w wr := hw2.trans (hb.mono hw2.size)
      have h5r := heap_below h5 hwr hp5
      have c50 : wr.cell? ⟨p5, 0, none⟩ = some bv := heap_cell (i := 0) h5r
      have f50 := heap_free (i := 0) h5r
      have hBr := hBe.below hwr
      have hT : Ints wr u7 (flatJ S M.length wd M.length 0) := hown.slOf
      have HNN : Hid (∃ b c, u7 = .slice (some ⟨b, 0, none⟩) (flatJ S M.length wd M.length 0).length c) := Lib.hid (by
        rcases hown.cases with ⟨_, e⟩ | ⟨g, cap, e, _⟩
        · simp [flatJ] at e
        · exact ⟨g, cap, e⟩)
      clear hRc hcol h5 hBe c2 c3
      obtain ⟨bn, cn, hun⟩ := HNN.out
      subst hun
      clear HNN
      cases bl with
      | none =>
        obtain rfl : bv = .slice none 0 0 := hBr
        clear hT
        go_wp2_with fail
        have hfin : OwnI w2.heap.size (wr.setCell ⟨p5, 0, none⟩ (Value.slice (some ⟨bn, 0, none⟩) (flatJ S M.length wd M.length 0).length cn)) (Value.slice (some ⟨bn, 0, none⟩) (flatJ S M.length wd M.length 0).length cn) (flatJ S M.length wd M.length 0) := hown.kept (setCells_grown p5 [(Value.slice (some ⟨bn, 0, none⟩) (flatJ S M.length wd M.length 0).length cn)] wr 0) (.inr fun e => by
          have := (hown.lt bn rfl).1
          have := hw2.size
          have : bn = p5 := by simpa [Value.ownBlock] using e
          omega)
        have HF := Lib.hid hfin
        have H5 := Lib.hid (heap_setCell_same wr p5 0 _ _ (Value.slice (some ⟨bn, 0, none⟩) (flatJ S M.length wd M.length 0).length cn) h5r)
        have HT := Lib.hid (((touch_below hwr [p5])).trans (touch_set (a := ⟨p5, 0, none⟩) (x := (Value.slice (some ⟨bn, 0, none⟩) (flatJ S M.length wd M.length 0).length cn)) rfl (by simp)))
        have Hlt := Lib.hid (fun j (h : (Value.slice (some ⟨bn, 0, none⟩) (flatJ S M.length wd M.length 0).length cn).ownBlock = some j) => Nat.le_trans hw2.size (hown.lt j h).1)
        clear hfin h5r hown
        go_wp2_with fail
        go_ret
        refine ⟨rfl, _, by simpa using H5.out, ?_, .inr Hlt.out, HT.out⟩
        rw [bestF, flatP, HS.out]
        exact ⟨HF.out.base (by have := hw2.size; omega), bn, cn, rfl⟩
      | some b =>
        obtain ⟨hob, bb, cb, rfl⟩ := hBr
        have hcp := Compare_ok _ _ _ _ wr hT hob.slOf
        by_cases hlt0 : cmpL (flatJ S M.length wd M.length 0) b < 0
        · have hd : decide (cmpL (flatJ S M.length wd M.length 0) b < 0) = true := decide_eq_true hlt0
          have Hlt0 := Lib.hid hlt0
          generalize cmpL (flatJ S M.length wd M.length 0) b = R at hcp hd
          have Hcp := Lib.hid hcp
          clear hlt0 hcp hT
          go_wp2_with fail
          refine Hcp.out.mono ?_
          rintro e wq ⟨rfl, rfl⟩
          have hfin : OwnI w2.heap.size (wr.setCell ⟨p5, 0, none⟩ (Value.slice (some ⟨bn, 0, none⟩) (flatJ S M.length wd M.length 0).length cn)) (Value.slice (some ⟨bn, 0, none⟩) (flatJ S M.length wd M.length 0).length cn) (flatJ S M.length wd M.length 0) := hown.kept (setCells_grown p5 [(Value.slice (some ⟨bn, 0, none⟩) (flatJ S M.length wd M.length 0).length cn)] wr 0) (.inr fun e => by
            have := (hown.lt bn rfl).1
            have := hw2.size
            have : bn = p5 := by simpa [Value.ownBlock] using e
            omega)
          have HF := Lib.hid hfin
          have H5 := Lib.hid (heap_setCell_same wr p5 0 _ _ (Value.slice (some ⟨bn, 0, none⟩) (flatJ S M.length wd M.length 0).length cn) h5r)
          have HT := Lib.hid (((touch_below hwr [p5])).trans (touch_set (a := ⟨p5, 0, none⟩) (x := (Value.slice (some ⟨bn, 0, none⟩) (flatJ S M.length wd M.length 0).length cn)) rfl (by simp)))
          have Hlt := Lib.hid (fun j (h : (Value.slice (some ⟨bn, 0, none⟩) (flatJ S M.length wd M.length 0).length cn).ownBlock = some j) => Nat.le_trans hw2.size (hown.lt j h).1)
          clear hfin h5r hown
          go_wp2_with fail
          go_ret
          refine ⟨rfl, _, by simpa using H5.out, ?_, .inr Hlt.out, HT.out⟩
          rw [bestF, flatP, HS.out]
          rw [if_pos Hlt0.out]; exact ⟨HF.out.base (by have := hw2.size; omega), bn, cn, rfl⟩
        · have hd : decide (cmpL (flatJ S M.length wd M.length 0) b < 0) = false := decide_eq_false hlt0
          have Hlt0 := Lib.hid hlt0
          generalize cmpL (flatJ S M.length wd M.length 0) b = R at hcp hd
          have Hcp := Lib.hid hcp
          have HT := Lib.hid (touch_below hwr [p5])
          have H5 := Lib.hid h5r
          have Hob := Lib.hid hob
          clear hlt0 hcp hT hown h5r hob
          go_wp2_with fail
          refine Hcp.out.mono ?_
          rintro e wq ⟨rfl, rfl⟩
          go_wp2_with fail
          go_ret
          refine ⟨rfl, _, H5.out, ?_, .inl rfl, HT.out⟩
          rw [bestF, flatP, HS.out, if_neg (by have := Hlt0.out; omega)]
          exact ⟨Hob.out, bb, cb, rfl⟩
end Go.Proofs.YtgpbdembjdileaaGreatDoor
/- canonical.orders, its recursive closure; canonical.code. Condition: the arguments read as such. -/
namespace Go.Proofs.YtgpbdembjdileaaGreatDoor
open Go.RowKit Go.Maps Go.Shelf

theorem Touch.own {w w' w'' : World} {S : List Nat} {row : Option Nat} (h : Touch w w' S) (k : w'.grownBy w'' row) (hr : ∀ j, row = some j → j ∈ S ∨ w.heap.size ≤ j) : Touch w w'' S :=
  ⟨k.os.trans h.os, k.tape.trans h.tape, k.output.trans h.output, Nat.le_trans h.size k.size, fun i hi hn => (k.block i (Nat.lt_of_lt_of_le hi h.size) fun e => by
    rcases hr i e.symm with h1 | h1
    · exact hn h1
    · omega).trans (h.block i hi hn)⟩
theorem Own.off {α : Type} {enc : α → List Value} {k B : Nat} {e : TypeId} {w w' : World} {v : Value} {xs : List α} {S : List Nat} (h : Own enc k e B w v xs) (ht : Touch w w' S) (hS : ∀ j, v.ownBlock = some j → j ∉ S) : Own enc k e B w' v xs :=
  ⟨h.1, h.2.imp id fun ⟨g, cap, cur, hv, hB, hg, r⟩ => ⟨g, cap, cur, hv, hB, (ht.block g (heap_lt hg) (hS g (by rw [hv]; rfl))).trans hg, r⟩⟩
theorem BestIs.blk {B : Nat} {w : World} {bv : Value} {bl : Option (List Int)} (h : BestIs B w bv bl) : ∀ j, bv.ownBlock = some j → B ≤ j ∧ j < w.heap.size := by
  cases bl with
  | none => intro j e; rw [show bv = .slice none 0 0 from h] at e; cases e
  | some l => exact h.1.lt
/-- What the recursion keeps: order's variable (block q4) holds o, best's (block p5) the best code so far. -/
structure PS (Wr : World) (p5 ob q4 : Nat) (w : World) (v bv : Value) (o : List Int) (bl : Option (List Int)) : Prop where
  t : Touch Wr w [p5, q4, ob]
  hv : w.heap[q4]? = some (.cells #[v] 26 (0, 0))
  own : OwnI ob w v o
  blk : ∀ j, v.ownBlock = some j → j = ob ∨ Wr.heap.size ≤ j
  h5 : w.heap[p5]? = some (.cells #[bv] 26 (0, 0))
  best : BestIs Wr.heap.size w bv bl
  ap : ∀ j, v.ownBlock = some j → bv.ownBlock ≠ some j
section
variable {Wr w w' : World} {p5 ob q4 : Nat} {v v' bv : Value} {o : List Int} {bl : Option (List Int)}
theorem ne_of {a : Option Nat} {b : Nat} (h : ∀ j, a = some j → j ≠ b) : a = none ∨ a ≠ some b := by
  cases a with
  | none => exact .inl rfl
  | some j => exact .inr fun e => h j rfl (by cases e; rfl)
theorem PS.push {x : Int} (hd : p5 ≠ q4 ∧ p5 ≠ ob ∧ q4 ≠ ob) (hl : p5 < Wr.heap.size ∧ q4 < Wr.heap.size) (h : PS Wr p5 ob q4 w v bv o bl) (hown : OwnI ob w' v' (o ++ [x])) (hg : w.grownBy w' v.ownBlock) (hat : v'.ownBlock = v.ownBlock ∨ v'.ownBlock = some (w.heap.size + 1)) :
    PS Wr p5 ob q4 (w'.setCell ⟨q4, 0, none⟩ v') v' bv (o ++ [x]) bl := by
  have hz := h.t.size
  have hvn : ∀ b, b < Wr.heap.size → b ≠ ob → ∀ j, v.ownBlock = some j → j ≠ b := fun b hb hne j e => by
    rcases h.blk j e with h1 | h1
    · rw [h1]; exact fun e => hne e.symm
    · omega
  have hvn' : ∀ b, b < Wr.heap.size → b ≠ ob → ∀ j, v'.ownBlock = some j → j ≠ b := fun b hb hne j e => by
    rcases hat with h1 | h1
    · rw [h1] at e; exact hvn b hb hne j e
    · rw [h1] at e; cases e; omega
  have hq4 : w'.heap[q4]? = some (.cells #[v] 26 (0, 0)) := (hg.block q4 (heap_lt h.hv) (fun e => hvn q4 hl.2 hd.2.2 q4 e.symm rfl)).trans h.hv
  have hp5 : w'.heap[p5]? = some (.cells #[bv] 26 (0, 0)) := (hg.block p5 (heap_lt h.h5) (fun e => hvn p5 hl.1 hd.2.1 p5 e.symm rfl)).trans h.h5
  have hset : Touch w' (w'.setCell ⟨q4, 0, none⟩ v') [q4] := touch_set rfl (by simp)
  have hbb := h.best.blk
  refine ⟨(h.t.own hg fun j e => ?_).trans (touch_set rfl (by simp)), by simpa using heap_setCell_same w' q4 0 _ _ v' hq4, hown.off hset fun j e => ?_, fun j e => ?_, (hset.block p5 (heap_lt hp5) (by simpa using hd.1)).trans hp5, ?_, fun j e => ?_⟩
  · rcases h.blk j e with h1 | h1
    · exact .inl (by rw [h1]; simp)
    · exact .inr h1
  · simpa using hvn' q4 hl.2 hd.2.2 j e
  · rcases hat with h1 | h1
    · rw [h1] at e; exact h.blk j e
    · rw [h1] at e; cases e; exact .inr (by omega)
  · have h1 := h.best.kept hg (by
      cases hb : v.ownBlock with
      | none => cases hc : bv.ownBlock <;> simp
      | some j => exact .inr (h.ap j hb))
    exact h1.kept (setCells_grown q4 [v'] w' 0) (ne_of fun j e => by have := (hbb j e).1; omega)
  · rcases hat with h1 | h1
    · rw [h1] at e; exact h.ap j e
    · rw [h1] at e; cases e
      intro e2
      have := (hbb _ e2).2
      omega
theorem PS.pop {x : Int} {A : Option Addr} {n c : Nat} (hd : p5 ≠ q4 ∧ p5 ≠ ob ∧ q4 ≠ ob) (hl : p5 < Wr.heap.size ∧ q4 < Wr.heap.size) (h : PS Wr p5 ob q4 w (.slice A n c) bv (o ++ [x]) bl) :
    PS Wr p5 ob q4 (w.setCell ⟨q4, 0, none⟩ (.slice A o.length c)) (.slice A o.length c) bv o bl := by
  obtain ⟨g, rfl, hn⟩ : ∃ g, A = some ⟨g, 0, none⟩ ∧ n = (o ++ [x]).length := by
    rcases h.own.cases with ⟨_, e⟩ | ⟨g, cap, e, _⟩
    · simp at e
    · cases e; exact ⟨g, rfl, rfl⟩
  have hcut := Own.cut lenI h.own hn (m := o.length) (by rw [hn]; simp)
  rw [List.take_left' rfl] at hcut
  have hset : Touch w (w.setCell ⟨q4, 0, none⟩ (.slice (some ⟨g, 0, none⟩) o.length c)) [q4] := touch_set rfl (by simp)
  have hgq : g ≠ q4 := by
    rcases h.blk g rfl with h1 | h1
    · rw [h1]; exact fun e => hd.2.2 e.symm
    · omega
  have hbb := h.best.blk
  refine ⟨h.t.trans (touch_set rfl (by simp)), by simpa using heap_setCell_same w q4 0 _ _ (.slice (some ⟨g, 0, none⟩) o.length c) h.hv, hcut.off hset fun j e => ?_, fun j e => h.blk j e, (hset.block p5 (heap_lt h.h5) (by simpa using hd.1)).trans h.h5, ?_, fun j e => h.ap j e⟩
  · cases e; simpa using hgq
  · exact h.best.kept (setCells_grown q4 [.slice (some ⟨g, 0, none⟩) o.length c] w 0) (ne_of fun j e => by have := (hbb j e).1; omega)
theorem PS.took {bv' : Value} {bl' : Option (List Int)} (hd : p5 ≠ q4 ∧ p5 ≠ ob ∧ q4 ≠ ob) (hl : p5 < Wr.heap.size ∧ q4 < Wr.heap.size) (h : PS Wr p5 ob q4 w v bv o bl) (h5 : w'.heap[p5]? = some (.cells #[bv'] 26 (0, 0))) (hb : BestIs Wr.heap.size w' bv' bl')
    (hn : bv' = bv ∨ ∀ j, bv'.ownBlock = some j → w.heap.size ≤ j) (ht : Touch w w' [p5]) : PS Wr p5 ob q4 w' v bv' o bl' := by
  refine ⟨⟨ht.os.trans h.t.os, ht.tape.trans h.t.tape, ht.output.trans h.t.output, Nat.le_trans h.t.size ht.size, fun i hi hn => (ht.block i (Nat.lt_of_lt_of_le hi h.t.size) (by simp at hn ⊢; exact hn.1)).trans (h.t.block i hi hn)⟩, (ht.block q4 (heap_lt h.hv) (by simpa using fun e => hd.1 e.symm)).trans h.hv, h.own.off ht fun j e => ?_, h.blk, h5, hb, fun j e e2 => ?_⟩
  · rcases h.blk j e with h1 | h1
    · rw [h1]; simpa using fun e => hd.2.1 e.symm
    · simp; omega
  · rcases hn with h1 | h1
    · subst h1; exact h.ap j e e2
    · have := h1 j e2
      have := (h.own.lt j e).2
      omega
end
/-- The best code behind all orders that begin with o; k places are left. -/
def visitF (M : List (List Int)) (wd : Nat) : Nat → List Int → Option (List Int) → Option (List Int)
  | 0, o, bl => bestF M wd o bl
  | k + 1, o, bl => (List.range M.length).foldl (fun b (i : Nat) => if hasB o (i : Int) = true then b else visitF M wd k (o ++ [(i : Int)]) b) bl
def foldV (M : List (List Int)) (wd k : Nat) (o : List Int) (bl : Option (List Int)) (j : Nat) : Option (List Int) := (List.range j).foldl (fun b (i : Nat) => if hasB o (i : Int) = true then b else visitF M wd k (o ++ [(i : Int)]) b) bl
theorem foldV_succ (M : List (List Int)) (wd k : Nat) (o : List Int) (bl : Option (List Int)) (j : Nat) : foldV M wd k o bl (j + 1) = if hasB o (j : Int) = true then foldV M wd k o bl j else visitF M wd k (o ++ [(j : Int)]) (foldV M wd k o bl j) := by
  rw [foldV, List.range_succ, List.foldl_append]; rfl
/-- What stands still beneath the recursion. -/
structure Pl (w0 Wr : World) (M : List (List Int)) (wd : Nat) (m : Value) (p2 p3 p5 q2 q3 ob q4 q5 : Nat) : Prop where
  hM : Rows w0 m M
  hb : Below w0.heap.size w0 Wr
  lo : w0.heap.size ≤ p5 ∧ w0.heap.size ≤ q4 ∧ w0.heap.size ≤ ob
  c2 : Wr.cell? ⟨p2, 0, none⟩ = some m
  c3 : Wr.cell? ⟨p3, 0, none⟩ = some (.int .i64 wd)
  d2 : Wr.cell? ⟨q2, 0, none⟩ = some (.int .i64 M.length)
  d3 : Wr.cell? ⟨q3, 0, none⟩ = some (.func (.func 90) #[] #[.pointer (some ⟨p2, 0, none⟩), .pointer (some ⟨p3, 0, none⟩), .pointer (some ⟨p5, 0, none⟩)])
  d5 : Wr.cell? ⟨q5, 0, none⟩ = some (.func (.func 113) #[] #[.pointer (some ⟨q4, 0, none⟩), .pointer (some ⟨q2, 0, none⟩), .pointer (some ⟨q3, 0, none⟩), .pointer (some ⟨q5, 0, none⟩)])
  n2 : p2 ∉ [p5, q4, ob]
  n3 : p3 ∉ [p5, q4, ob]
  m2 : q2 ∉ [p5, q4, ob]
  m3 : q3 ∉ [p5, q4, ob]
  m5 : q5 ∉ [p5, q4, ob]
  d : p5 ≠ q4 ∧ p5 ≠ ob ∧ q4 ≠ ob
  l : p5 < Wr.heap.size ∧ q4 < Wr.heap.size
  lob : ob < Wr.heap.size
  n : M.length ≤ 6
  wd6 : wd ≤ 6
  r : ∀ r ∈ M, wd ≤ r.length
set_option maxHeartbeats 8000000 in
set_option maxRecDepth 100000 in
theorem placeO_ok (w0 Wr : World) (M : List (List Int)) (wd : Nat) (m : Value) (p2 p3 p5 q2 q3 ob q4 q5 : Nat) (hP : Pl w0 Wr M wd m p2 p3 p5 q2 q3 ob q4 q5) : ∀ (k : Nat) (o : List Int) (bl : Option (List Int)) (v bv : Value) (w : World), o.length + k = M.length → (∀ r ∈ o, 0 ≤ r ∧ r < M.length) → PS Wr p5 ob q4 w v bv o bl →
    Calls Tryz.prog 113 #[.pointer (some ⟨q4, 0, none⟩), .pointer (some ⟨q2, 0, none⟩), .pointer (some ⟨q3, 0, none⟩), .pointer (some ⟨q5, 0, none⟩)] w fun e w' => e = .returned (.bool true) ∧ ∃ v' bv', PS Wr p5 ob q4 w' v' bv' o (visitF M wd k o bl) := by
  intro k
  induction k with
  | zero =>
    intro o bl v bv w hl hor h
    have HP := Lib.hid hP; have HS := Lib.hid h; have Hor := Lib.hid hor
    have c4 : w.cell? ⟨q4, 0, none⟩ = some v := heap_cell (i := 0) h.hv
    obtain ⟨Ao, co, rfl, _⟩ := h.own.slOf
    have d2 := cell_off h.t hP.m2 hP.d2
    have d3 := cell_off h.t hP.m3 hP.d3
    have hd : ((o.length : Int) == (M.length : Int)) = true := by simp; omega
    have hbw : Below w0.heap.size w0 w := hP.hb.trans (h.t.below (by have := hP.lo; simp; omega) hP.hb.size)
    have hC := codeF_ok M wd o bl Wr.heap.size p2 p3 p5 m (.slice Ao o.length co) bv w (hP.hM.below hbw) hP.n hP.wd6 hP.r h.own.slOf hor (by omega) (cell_off h.t hP.n2 hP.c2) (cell_off h.t hP.n3 hP.c3) h.h5 h.best h.t.size
    have HC := Lib.hid hC
    clear hP h hor hC hl hbw
    go_enter Tryz.func113, Tryz.ntmps113
    go_wp2_with fail
    refine HC.out.mono ?_
    rintro e w1 ⟨rfl, bv', h5, hb, hn, ht⟩
    have HF := Lib.hid (HS.out.took HP.out.d HP.out.l h5 hb hn ht)
    clear h5 hb hn ht
    go_wp2_with fail
    go_ret
    exact ⟨rfl, _, _, HF.out⟩
  | succ k ih =>
    intro o bl v bv w hl hor h
    have HP := Lib.hid hP; have HS := Lib.hid h; have Hor := Lib.hid hor; have IH := Lib.hid ih; have Hl := Lib.hid hl
    have c4 : w.cell? ⟨q4, 0, none⟩ = some v := heap_cell (i := 0) h.hv
    obtain ⟨Ao, co, rfl, _⟩ := h.own.slOf
    have d2 := cell_off h.t hP.m2 hP.d2
    have hd : ((o.length : Int) == (M.length : Int)) = false := by simp; omega
    have hn6 := hP.n
    obtain ⟨iI, hiI, hzI, hkI, hbI⟩ := info_parts infoI
    have hol : o.length ≤ 6 := by omega
    clear hP h hor hl ih
    go_enter Tryz.func113, Tryz.ntmps113
    go_wp2_with fail
    clear c4 d2
    go_loopw [15] (fun jv wr => ∃ (j : Nat) (v bv : Value), j ≤ M.length ∧ jv = .int .i64 j ∧ PS Wr p5 ob q4 wr v bv o (foldV M wd k o bl j)) (fun jv _ => M.length - (intOf jv).toNat)
    case atStart => exact ⟨0, _, _, Nat.zero_le _, rfl, HS.out⟩
    case round =>
      obtain ⟨j, v, bv, hj, rfl, h⟩ := hrel
      by_cases hlt : j < M.length
      · have c4 : wr.cell? ⟨q4, 0, none⟩ = some v := heap_cell (i := 0) h.hv
        have hov := h.own
        obtain ⟨Ao, co, rfl, _⟩ := h.own.slOf
        have hh := Contains_ok Ao o.length co o (j : Int) wr h.own.slOf
        have hj1 : (j : Int) < (M.length : Int) := by omega
        have hsn := foldV_succ M wd k o bl j
        cases hc : hasB o (j : Int)
        · rw [hc] at hh hsn
          rw [if_neg (by simp)] at hsn
          have hor' : ∀ r ∈ o ++ [(j : Int)], 0 ≤ r ∧ r < (M.length : Int) := fun r hr => by
            rcases List.mem_append.1 hr with hr | hr
            · exact Hor.out r hr
            · rw [List.mem_singleton] at hr; omega
          have Hor' := Lib.hid hor'; have Hsn := Lib.hid hsn; have HH := Lib.hid hh; have HS1 := Lib.hid h
          have hq4 := h.hv
          have hq4l := heap_lt hq4
          have hbne : ∀ i, (Value.slice Ao o.length co).ownBlock = some i → i ≠ q4 := fun i e => by
            rcases h.blk i e with h1 | h1
            · rw [h1]; exact fun e => HP.out.d.2.2 e.symm
            · have := HP.out.l.2; omega
          have hobw : ob ≤ wr.heap.size := by have := HP.out.lob; have := h.t.size; omega
          obtain ⟨L, hL⟩ : ∃ L, o ++ [(j : Int)] = L := ⟨_, rfl⟩
          have HL := Lib.hid hL
          have hll : L.length = o.length + 1 := by rw [← hL]; simp
          have hlk : L.length + k = M.length := by have := Hl.out; omega
          have hw1 : IntKind.i64.wrap ((L.length : Int) - 1) = (o.length : Int) := by rw [IntWalk.i64_in _ (by omega)]; omega
          have Hlk := Lib.hid hlk; have Hll := Lib.hid hll
          clear hor' hsn hh h hc hL hll hlk
          go_wp2_with fail
          refine HH.out.mono ?_
          rintro e wq ⟨rfl, rfl⟩
          clear c4
          have c4 : wr.cell? ⟨q4, 0, none⟩ = some (Value.slice Ao o.length co) := heap_cell (i := 0) hq4
          go_wp2_with (at_builtin; refine wpList_append1 (enc := encI) (size := 1) (B := ob) rfl (.tmp 21) (.tmp 23) _ rfl 3 iI _ 8 Tryz.underlying26 hiI hzI hkI hbI rfl (by decide) rfl hov (j : Int) _ rfl lenI oneI _ rfl rfl (by omega) (by omega) hobw ?_; intro v' w7 hown' hgrow hat; have q47 := (hgrow.block q4 hq4l (fun e => hbne q4 e.symm rfl)).trans hq4; have e4 : w7.cell? ⟨q4, 0, none⟩ = some (Value.slice Ao o.length co) := heap_cell (i := 0) q47; have f4 := heap_free (i := 0) q47; have hPS := HS1.out.push HP.out.d HP.out.l hown' hgrow hat; rw [HL.out] at hown' hPS; obtain ⟨Av, cv, ev, _⟩ := hown'.slOf; subst ev; obtain ⟨w8, hw8⟩ : ∃ z, w7.setCell ⟨q4, 0, none⟩ (.slice Av L.length cv) = z := ⟨_, rfl⟩; rw [hw8] at hPS; have g5 := cell_off hPS.t HP.out.m5 HP.out.d5; have HPS := Lib.hid hPS; clear hPS hown' hgrow hat)
          refine (IH.out L _ _ _ w8 Hlk.out (by rw [← HL.out]; exact Hor'.out) HPS.out).mono ?_
          rintro e w9 ⟨rfl, v2, bv2, h9⟩
          obtain ⟨g9, c9, rfl, _, _, hc9, _⟩ : ∃ g cap, v2 = .slice (some ⟨g, 0, none⟩) L.length cap ∧ ob ≤ g ∧ g < w9.heap.size ∧ L.length ≤ cap ∧ cap ≤ maxLen := by
            rcases h9.own.cases with ⟨_, e⟩ | h
            · rw [← HL.out] at e; simp at e
            · exact h
          have h9' := h9
          rw [← HL.out] at h9'
          have hpop := h9'.pop HP.out.d HP.out.l
          have c49 : w9.cell? ⟨q4, 0, none⟩ = some (Value.slice (some ⟨g9, 0, none⟩) L.length c9) := heap_cell (i := 0) h9.hv
          have f49 := heap_free (i := 0) h9.hv
          have hc91 : (o.length : Int) ≤ (c9 : Int) := by have := Hll.out; omega
          rw [HL.out] at hpop
          have HPop := Lib.hid hpop
          clear hpop h9 h9' e4 f4 g5 hw8 q47
          go_wp2_with fail
          refine ⟨?rel, ?measure⟩
          case rel => exact ⟨j + 1, _, _, by omega, by go_num, by rw [Hsn.out, HL.out]; exact HPop.out⟩
          case measure => first | (simp [intOf]; done) | (simp [intOf]; omega)
        · rw [hc] at hh hsn
          rw [if_pos rfl] at hsn
          have Hsn := Lib.hid hsn; have HH := Lib.hid hh; have HS1 := Lib.hid h
          clear hsn hh h hc
          go_wp2_with fail
          refine HH.out.mono ?_
          rintro e wq ⟨rfl, rfl⟩
          go_wp2_with fail
          refine ⟨?rel, ?measure⟩
          case rel => exact ⟨j + 1, _, _, by omega, by go_num, by rw [Hsn.out]; exact HS1.out⟩
          case measure => first | (simp [intOf]; done) | (simp [intOf]; omega)
      · have ej : j = M.length := by omega
        rw [ej] at h
        have HS1 := Lib.hid h
        clear h ej
        go_wp2_with fail
        go_ret
        exact ⟨rfl, _, _, HS1.out⟩
theorem run_make0 (n : Nat) (hn : n ≤ 64) (w : World) : (Instr.makeSlice 26 (.int .i64 0) (.int .i64 (n : Int))).run Tryz.prog w = .ok (.slice (some ⟨w.heap.size, 0, none⟩) 0 n) (w.alloc (.cells (Array.replicate n (Value.int .i64 0)) 3)) := by
  obtain ⟨iI, hiI, hzI, hkI, hbI⟩ := info_parts infoI
  have := run_make (P := Tryz.prog) w 26 3 iI (.int .i64 0) Tryz.underlying26 hiI hzI .i64 .i64 0 n (by omega) (by omega) (by rw [hbI]; omega) (by omega)
  simp only [Int.toNat_natCast, hkI, Nat.mul_one] at this
  rw [show madeCells (Value.int .i64 0).cells n = Array.replicate n (Value.int .i64 0) from made_zero n] at this
  exact this
set_option maxHeartbeats 8000000 in
set_option maxRecDepth 100000 in
theorem orders_ok (w0 w : World) (M : List (List Int)) (wd : Nat) (m : Value) (p2 p3 p5 : Nat) (hM : Rows w0 m M) (hb0 : Below w0.heap.size w0 w) (hlo : w0.heap.size ≤ p5) (c2 : w.cell? ⟨p2, 0, none⟩ = some m) (c3 : w.cell? ⟨p3, 0, none⟩ = some (.int .i64 wd))
    (h5 : w.heap[p5]? = some (.cells #[.slice none 0 0] 26 (0, 0))) (h25 : p2 ≠ p5) (h35 : p3 ≠ p5) (hn : M.length ≤ 6) (hwd : wd ≤ 6) (hr : ∀ r ∈ M, wd ≤ r.length) :
    Calls Tryz.prog 89 #[.int .i64 M.length, .func (.func 90) #[] #[.pointer (some ⟨p2, 0, none⟩), .pointer (some ⟨p3, 0, none⟩), .pointer (some ⟨p5, 0, none⟩)]] w fun e w' => e = .returned (.tuple #[]) ∧ ∃ bv, w'.heap[p5]? = some (.cells #[bv] 26 (0, 0)) ∧ BestIs w.heap.size w' bv (visitF M wd M.length [] none) ∧ Below w0.heap.size w0 w' := by
  have l5 := heap_lt h5
  have l2 : p2 < w.heap.size := World.block_lt_of_cell? w _ c2
  have l3 : p3 < w.heap.size := World.block_lt_of_cell? w _ c3
  obtain ⟨W1, hW1, Hz1, hb1, hlt1, hc1⟩ := boxed w #[.int .i64 M.length] 3
  obtain ⟨W2, hW2, Hz2, hb2, hlt2, hc2⟩ := boxed W1 #[.func (.func 90) #[] #[.pointer (some ⟨p2, 0, none⟩), .pointer (some ⟨p3, 0, none⟩), .pointer (some ⟨p5, 0, none⟩)]] 112
  have a0 := cell_later hb2 (hc1 0 _ rfl); have a1 := hc2 0 _ rfl
  clear hc1 hc2
  have hmk := run_make0 M.length (by omega) W2
  obtain ⟨W3, hW3⟩ : ∃ z, W2.alloc (.cells (Array.replicate M.length (Value.int .i64 0)) 3) = z := ⟨_, rfl⟩
  have hb3 : Below W2.heap.size W2 W3 := by rw [← hW3]; exact (Below.refl _ _).alloc (Nat.le_refl _) _
  have hz3 : W3.heap.size = W2.heap.size + 1 := by rw [← hW3]; simp
  have Hz3 := Lib.hid hz3
  have hk3 : W3.heap[W2.heap.size]? = some (.cells (Array.replicate M.length (Value.int .i64 0)) 3 (0, 0)) := by rw [← hW3]; exact heap_alloc_new _ _
  clear hz3
  obtain ⟨W4, hW4, Hz4, hb4, hlt4, _⟩ := boxed W3 #[.slice (some ⟨W2.heap.size, 0, none⟩) 0 M.length] 26
  have hk4 : W4.heap[W3.heap.size]? = some (.cells #[.slice (some ⟨W2.heap.size, 0, none⟩) 0 M.length] 26 (0, 0)) := by rw [← hW4]; exact heap_alloc_new _ _
  obtain ⟨W5, Wr, hW5, hWr, Hz5, hk5, hkr, hb5, hltr⟩ := fresh W4 [.nilFunc] [.func (.func 113) #[] #[.pointer (some ⟨W3.heap.size, 0, none⟩), .pointer (some ⟨w.heap.size, 0, none⟩), .pointer (some ⟨W1.heap.size, 0, none⟩), .pointer (some ⟨W4.heap.size, 0, none⟩)]] 25 rfl
  have hsr : W5.setCell ⟨W4.heap.size, 0, none⟩ (.func (.func 113) #[] #[.pointer (some ⟨W3.heap.size, 0, none⟩), .pointer (some ⟨w.heap.size, 0, none⟩), .pointer (some ⟨W1.heap.size, 0, none⟩), .pointer (some ⟨W4.heap.size, 0, none⟩)]) = Wr := hWr
  have z5 : W5.cell? ⟨W4.heap.size, 0, none⟩ = some .nilFunc := heap_cell (i := 0) hk5
  have f5 := heap_free (i := 0) hk5
  have b5 : Wr.cell? ⟨W4.heap.size, 0, none⟩ = some _ := heap_cell (i := 0) hkr
  have hw2 := below_trans hb1 hb2
  have hw3 := below_trans hw2 hb3
  have hw4 := below_trans hw3 hb4
  have hwr := below_trans hw4 hb5
  have h2r := below_trans hb3 (below_trans hb4 hb5)
  have hsz := And.intro Hz1.out (And.intro Hz2.out (And.intro Hz3.out Hz4.out))
  have h0z := hb0.size
  have hlen : ([] : List Int).length + M.length = M.length := by simp
  have hPl : Pl w0 Wr M wd m p2 p3 p5 w.heap.size W1.heap.size W2.heap.size W3.heap.size W4.heap.size :=
    ⟨hM, hb0.trans (hwr.mono hb0.size), by omega, cell_later hwr c2, cell_later hwr c3, cell_later h2r a0, cell_later h2r a1, heap_cell (i := 0) hkr,
      by simp; omega, by simp; omega, by simp; omega, by simp; omega, by simp; omega, by omega, by omega, by omega, hn, hwd, hr⟩
  have hPS : PS Wr p5 W2.heap.size W3.heap.size Wr (.slice (some ⟨W2.heap.size, 0, none⟩) 0 M.length) (.slice none 0 0) [] none :=
    ⟨Touch.refl _ _, heap_below hk4 hb5 (by omega), Own.ofRow lenI (Nat.le_refl _) (heap_below (heap_below hk3 hb4 (by omega)) hb5 (by omega)) (Nat.zero_le _) (by simp [maxLen]; omega) (by simp) (by simp) rfl, fun j e => by cases e; exact .inl rfl, heap_below h5 hwr l5, rfl, fun j _ e => by cases e⟩
  have HC := Lib.hid (placeO_ok w0 Wr M wd m p2 p3 p5 _ _ _ _ _ hPl M.length [] none _ _ Wr hlen (fun r hr => by cases hr) hPS)
  have HP := Lib.hid hPl
  have hwz := Lib.hid hwr.size
  clear hPl hPS hM hr hlen hk3 hk4 hk5 hkr hsz hWr h5 c2 c3 l5 l2 l3
  go_enter Tryz.func89, Tryz.ntmps89
  go_wp2_with fail
  refine HC.out.mono ?_
  rintro e w1 ⟨rfl, v', bv', h⟩
  have HS := Lib.hid h
  clear h
  go_wp2_with fail
  go_end0
  exact ⟨rfl, bv', HS.out.h5, HS.out.best.base hwz.out, HP.out.hb.trans (HS.out.t.below (by have := HP.out.lo; simp; omega) HP.out.hb.size)⟩
end Go.Proofs.YtgpbdembjdileaaGreatDoor
/- canonical.code and Code at the graph of linksAwake. Condition: the arguments read as such. -/
namespace Go.Proofs.YtgpbdembjdileaaGreatDoor
open Go.RowKit Go.Maps Go.Shelf

def gT : Graph := ⟨[1, 3], [1, 2], [⟨2, 3, 2⟩, ⟨4, 1, 1⟩, ⟨7, 3, 1⟩]⟩
theorem gT_valid : graphB gT = true := by decide
theorem gT_mat : matG gT = [[1, 0], [1, 1]] := by decide
theorem gT_code : visitF [[1, 0], [1, 1]] 2 2 [] none = some [2, 2, 0, 1, 1, 1] := by decide +kernel
theorem BestIs.ints {B : Nat} {w : World} {bv : Value} {bl : Option (List Int)} (h : BestIs B w bv bl) : Ints w bv (bl.getD []) := by
  cases bl with
  | none => rw [show bv = .slice none 0 0 from h]; exact ⟨none, 0, rfl, Nat.le_refl _, by simp [maxLen], Sl.nil _ _ _⟩
  | some l => exact h.1.slOf
set_option maxHeartbeats 8000000 in
set_option maxRecDepth 100000 in
theorem code_ok (m : Value) (M : List (List Int)) (wd : Nat) (w : World) (hM : Rows w m M) (hn : M.length ≤ 6) (hwd : wd ≤ 6) (hr : ∀ r ∈ M, wd ≤ r.length) :
    Calls Tryz.prog 73 #[m, .int .i64 wd] w fun e w' => ∃ u, e = .returned u ∧ Ints w' u ((visitF M wd M.length [] none).getD []) ∧ Below w.heap.size w w' := by
  have hM0 := hM
  obtain ⟨Am, cm, rfl, _, _, _⟩ := hM.cells
  obtain ⟨W1, hW1, Hz1, hb1, hlt1, hc1⟩ := boxed w #[.slice Am M.length cm] 117
  obtain ⟨W2, hW2, Hz2, hb2, hlt2, hc2⟩ := boxed W1 #[.int .i64 wd] 3
  obtain ⟨W3, hW3, Hz3, hb3, hlt3, hc3⟩ := boxed W2 #[.slice none 0 0] 26
  have hk3 : W3.heap[W2.heap.size]? = some (.cells #[.slice none 0 0] 26 (0, 0)) := by rw [← hW3]; exact heap_alloc_new _ _
  have a0 := cell_later hb3 (cell_later hb2 (hc1 0 _ rfl)); have a1 := cell_later hb3 (hc2 0 _ rfl)
  clear hc1 hc2 hc3
  have hw3 := below_trans (below_trans hb1 hb2) hb3
  have hC := orders_ok w W3 M wd _ w.heap.size W1.heap.size W2.heap.size hM0 hw3 (by omega) a0 a1 hk3 (by omega) (by omega) hn hwd hr
  have HC := Lib.hid hC
  clear hC hk3 hr
  go_enter Tryz.func73, Tryz.ntmps73
  go_wp2_with fail
  refine HC.out.mono ?_
  rintro e w1 ⟨rfl, bv, h5, hB, hb⟩
  have c5 : w1.cell? ⟨W2.heap.size, 0, none⟩ = some bv := heap_cell (i := 0) h5
  have HB := Lib.hid hB
  clear HC h5 hB
  go_wp2_with fail
  go_ret
  exact ⟨_, rfl, HB.out.ints, hb⟩
set_option maxHeartbeats 4000000 in
theorem check_ok (v : Value) (g : Graph) (hg : graphB g = true) (h6 : g.obv.length ≤ 6 ∧ g.rev.length ≤ 6) (w : World) (h : GraphAt w v g) :
    Calls Tryz.prog 72 #[v] w fun e w' => ∃ u, e = .returned (.tuple #[u, .int .i64 0]) ∧ Rows w' u (matG g) ∧ Below w.heap.size w w' := by
  have hv : validE g = 0 := by simp [validE, hg]
  have HV := Lib.hid hv
  have h' := h
  obtain ⟨v1, v2, v3, rfl, ho, hr, hk⟩ := h
  obtain ⟨A1, c1, rfl, _, _, _⟩ := ho.cells
  obtain ⟨A2, c2, rfl, _, _, _⟩ := hr.cells
  obtain ⟨A3, c3, rfl, _, _, _⟩ := hk.cells
  obtain ⟨W0, hW0, Hz0, hb0, hlt0, hc0⟩ := boxed w #[.slice A1 g.obv.length c1, .slice A2 g.rev.length c2, .slice A3 g.links.length c3] 29
  have a0 := hc0 0 _ rfl; have a1 := hc0 1 _ rfl; have a2 := hc0 2 _ rfl
  have h1 := h'.below hb0
  obtain ⟨h61, h62⟩ := h6
  clear hc0 ho hr hk hv hg h'
  go_enter Tryz.func72, Tryz.ntmps72
  go_wp2_with fail
  refine (Matrix_ok _ g _ h1).mono ?_
  rintro e w1 ⟨u, rfl, hm, hb1⟩
  rw [HV.out]
  have a0 := cell_later hb1 a0; have a1 := cell_later hb1 a1; have a2 := cell_later hb1 a2
  have hm0 := hm
  obtain ⟨Am, cm, rfl, _, _, _⟩ := hm0.cells
  have d1 : (g.obv.length : Int) ≤ 6 := by omega
  have d2 : (g.rev.length : Int) ≤ 6 := by omega
  go_wp2_with fail
  exact bodyPost_ret (v := .tuple #[.slice Am (matG g).length cm, .int .i64 0]) (by simp [results, Tryz.results72, go_sem]) rfl ⟨_, rfl, hm, below_trans hb0 hb1⟩
set_option maxHeartbeats 4000000 in
theorem CodeT_ok (v : Value) (w : World) (h : GraphAt w v gT) :
    Calls Tryz.prog 49 #[v] w fun e w' => ∃ u, e = .returned (.tuple #[u, .int .i64 0]) ∧ Ints w' u [2, 2, 0, 1, 1, 1] ∧ Below w.heap.size w w' := by
  obtain ⟨g, hg⟩ : ∃ g, gT = g := ⟨_, rfl⟩
  have hgv := gT_valid
  have hmt := gT_mat
  have hl : g.obv.length = 2 ∧ g.rev.length = 2 := by rw [← hg]; exact ⟨rfl, rfl⟩
  rw [hg] at h hgv hmt
  have h' := h
  obtain ⟨v1, v2, v3, rfl, ho, hr, hk⟩ := h
  obtain ⟨A1, c1, rfl, _, _, _⟩ := ho.cells
  obtain ⟨A2, c2, rfl, _, _, _⟩ := hr.cells
  obtain ⟨A3, c3, rfl, _, _, _⟩ := hk.cells
  obtain ⟨W0, hW0, Hz0, hb0, hlt0, hc0⟩ := boxed w #[.slice A1 g.obv.length c1, .slice A2 g.rev.length c2, .slice A3 g.links.length c3] 29
  have a0 := hc0 0 _ rfl; have a1 := hc0 1 _ rfl; have a2 := hc0 2 _ rfl
  have h1 := h'.below hb0
  have HMT := Lib.hid hmt; have HGV := Lib.hid hgv; have HL := Lib.hid hl
  clear hc0 ho hr hk h' hg hmt hgv hl
  go_enter Tryz.func49, Tryz.ntmps49
  go_wp2_with fail
  refine (check_ok _ g HGV.out (by have := HL.out; omega) _ h1).mono ?_
  rintro e w1 ⟨u, rfl, hm, hb1⟩
  have a0 := cell_later hb1 a0; have a1 := cell_later hb1 a1; have a2 := cell_later hb1 a2
  rw [HMT.out] at hm
  rw [HL.out.2] at a1
  go_wp2_with fail
  refine (code_ok u [[1, 0], [1, 1]] 2 w1 hm (by decide) (by decide) (by decide)).mono ?_
  rintro e w2 ⟨u2, rfl, hi, hb2⟩
  rw [show ([[1, 0], [1, 1]] : List (List Int)).length = 2 from rfl, gT_code] at hi
  go_wp2_with fail
  exact bodyPost_ret (v := .tuple #[u2, .int .i64 0]) (by simp [results, Tryz.results49, go_sem]) rfl ⟨_, rfl, by simpa using hi, below_trans hb0 (below_trans hb1 hb2)⟩
end Go.Proofs.YtgpbdembjdileaaGreatDoor
/- canonical.Name at the graph of linksAwake. Condition: the graph reads as such. -/
namespace Go.Proofs.YtgpbdembjdileaaGreatDoor
open Go.RowKit Go.Maps Go.Shelf

set_option maxHeartbeats 1000000 in
theorem small0_ok (w : World) : Calls Tryz.prog 115 #[.int .i64 0] w fun e w' => e = .returned (.string ⟨#[48]⟩) ∧ w = w' := by
  go_enter Tryz.func115, Tryz.ntmps115
  go_wp2_with fail
  go_ret
  exact ⟨by rfl, rfl⟩
set_option maxHeartbeats 1000000 in
theorem form0_ok (w : World) : Calls Tryz.prog 94 #[.int .i64 0, .int .i64 10] w fun e w' => e = .returned (.string ⟨#[48]⟩) ∧ w = w' := by
  go_enter Tryz.func94, Tryz.ntmps94
  go_wp2_with fail
  refine (small0_ok w).mono ?_
  rintro e w' ⟨rfl, hw'⟩
  subst hw'
  go_wp2_with fail
  go_ret
  exact ⟨rfl, rfl⟩
set_option maxHeartbeats 1000000 in
theorem itoi0_ok (w : World) : Calls Tryz.prog 74 #[.int .i64 0] w fun e w' => e = .returned (.string ⟨#[48]⟩) ∧ w = w' := by
  go_enter Tryz.func74, Tryz.ntmps74
  go_wp2_with fail
  refine (form0_ok w).mono ?_
  rintro e w' ⟨rfl, hw'⟩
  subst hw'
  go_wp2_with fail
  go_ret
  exact ⟨rfl, rfl⟩
set_option maxHeartbeats 1000000 in
theorem itoa0_ok (w : World) : Calls Tryz.prog 50 #[.int .i64 0] w fun e w' => e = .returned (.string ⟨#[48]⟩) ∧ w = w' := by
  go_enter Tryz.func50, Tryz.ntmps50
  go_wp2_with fail
  refine (itoi0_ok w).mono ?_
  rintro e w' ⟨rfl, hw'⟩
  subst hw'
  go_wp2_with fail
  go_ret
  exact ⟨rfl, rfl⟩
set_option maxHeartbeats 1000000 in
theorem small1_ok (w : World) : Calls Tryz.prog 115 #[.int .i64 1] w fun e w' => e = .returned (.string ⟨#[49]⟩) ∧ w = w' := by
  go_enter Tryz.func115, Tryz.ntmps115
  go_wp2_with fail
  go_ret
  exact ⟨by rfl, rfl⟩
set_option maxHeartbeats 1000000 in
theorem form1_ok (w : World) : Calls Tryz.prog 94 #[.int .i64 1, .int .i64 10] w fun e w' => e = .returned (.string ⟨#[49]⟩) ∧ w = w' := by
  go_enter Tryz.func94, Tryz.ntmps94
  go_wp2_with fail
  refine (small1_ok w).mono ?_
  rintro e w' ⟨rfl, hw'⟩
  subst hw'
  go_wp2_with fail
  go_ret
  exact ⟨rfl, rfl⟩
set_option maxHeartbeats 1000000 in
theorem itoi1_ok (w : World) : Calls Tryz.prog 74 #[.int .i64 1] w fun e w' => e = .returned (.string ⟨#[49]⟩) ∧ w = w' := by
  go_enter Tryz.func74, Tryz.ntmps74
  go_wp2_with fail
  refine (form1_ok w).mono ?_
  rintro e w' ⟨rfl, hw'⟩
  subst hw'
  go_wp2_with fail
  go_ret
  exact ⟨rfl, rfl⟩
set_option maxHeartbeats 1000000 in
theorem itoa1_ok (w : World) : Calls Tryz.prog 50 #[.int .i64 1] w fun e w' => e = .returned (.string ⟨#[49]⟩) ∧ w = w' := by
  go_enter Tryz.func50, Tryz.ntmps50
  go_wp2_with fail
  refine (itoi1_ok w).mono ?_
  rintro e w' ⟨rfl, hw'⟩
  subst hw'
  go_wp2_with fail
  go_ret
  exact ⟨rfl, rfl⟩
set_option maxHeartbeats 1000000 in
theorem small2_ok (w : World) : Calls Tryz.prog 115 #[.int .i64 2] w fun e w' => e = .returned (.string ⟨#[50]⟩) ∧ w = w' := by
  go_enter Tryz.func115, Tryz.ntmps115
  go_wp2_with fail
  go_ret
  exact ⟨by rfl, rfl⟩
set_option maxHeartbeats 1000000 in
theorem form2_ok (w : World) : Calls Tryz.prog 94 #[.int .i64 2, .int .i64 10] w fun e w' => e = .returned (.string ⟨#[50]⟩) ∧ w = w' := by
  go_enter Tryz.func94, Tryz.ntmps94
  go_wp2_with fail
  refine (small2_ok w).mono ?_
  rintro e w' ⟨rfl, hw'⟩
  subst hw'
  go_wp2_with fail
  go_ret
  exact ⟨rfl, rfl⟩
set_option maxHeartbeats 1000000 in
theorem itoi2_ok (w : World) : Calls Tryz.prog 74 #[.int .i64 2] w fun e w' => e = .returned (.string ⟨#[50]⟩) ∧ w = w' := by
  go_enter Tryz.func74, Tryz.ntmps74
  go_wp2_with fail
  refine (form2_ok w).mono ?_
  rintro e w' ⟨rfl, hw'⟩
  subst hw'
  go_wp2_with fail
  go_ret
  exact ⟨rfl, rfl⟩
set_option maxHeartbeats 1000000 in
theorem itoa2_ok (w : World) : Calls Tryz.prog 50 #[.int .i64 2] w fun e w' => e = .returned (.string ⟨#[50]⟩) ∧ w = w' := by
  go_enter Tryz.func50, Tryz.ntmps50
  go_wp2_with fail
  refine (itoi2_ok w).mono ?_
  rintro e w' ⟨rfl, hw'⟩
  subst hw'
  go_wp2_with fail
  go_ret
  exact ⟨rfl, rfl⟩
theorem join_extra : Builder.Extra Tryz.prog Tryz.layJoin_ren := {
  sizeBuilder := by kernel_rfl
  liesBuilder := by kernel_rfl
  t5 := Tryz.underlying5
  a5 := Tryz.isAgg5
  z5 := Tryz.sizeOf5
  v5 := Tryz.zeroValue5
  infoByte := by kernel_rfl
  cellsByte := by kernel_rfl
  sizeByte := by kernel_rfl
  neB5 := by decide }
def encT (s : ByteArray) : List Value := [.string s]
theorem lenT (x : ByteArray) : (encT x).length = 1 := rfl
theorem oneT (x : ByteArray) : ∀ u ∈ encT x, u.oneCell' = true := by simp [encT, Value.oneCell']
theorem infoT : (Tryz.prog.info? 9).map (fun i => (i.zero, i.size, i.bytes)) = some (some (.string ⟨#[]⟩), 1, 16) := by kernel_rfl
abbrev OwnT (B : Nat) (w : World) (v : Value) (xs : List ByteArray) : Prop := Own encT 1 9 B w v xs
def rowsT : List ByteArray := [⟨#[48, 49]⟩, ⟨#[49, 49]⟩]
theorem join2_ok (B : Nat) (v : Value) (w : World) (h : OwnT B w v rowsT) :
    Calls Tryz.prog 51 #[v, .string ⟨#[47]⟩] w fun e w' => e = .returned (.string ⟨#[48, 49, 47, 49, 49]⟩) ∧ Below w.heap.size w w' := by
  rcases h.cases with ⟨_, e⟩ | ⟨g, cap, rfl, _, hl, hc, _⟩
  · cases e
  have hcon := Any.strings_Join Tryz.layJoin join_extra g 0 cap rowsT ⟨#[47]⟩ w (fun j x hx => by
    have := (h.cellsAt lenT rfl hx (j := 0) rfl).1
    simpa using this) hl (by decide) hc (by decide)
  rw [show (⟨(Lib.join (rowsT.map (·.data.toList)) (⟨#[47]⟩ : ByteArray).data.toList).toArray⟩ : ByteArray) = ⟨#[48, 49, 47, 49, 49]⟩ from by decide] at hcon
  exact hcon
theorem gT_cell {b o j : Nat} {w : World} {c : Nat} {xs : List Int} (h : Ints w (.slice (some ⟨b, o, none⟩) xs.length c) xs) {x : Int} (hx : xs[j]? = some x) : w.cell? ⟨b, o + j, none⟩ = some (.int .i64 x) := by
  obtain ⟨b', o', e, _, hc⟩ := h.at (lt_of_get hx)
  cases e
  exact hc x hx
set_option maxHeartbeats 8000000 in
set_option maxRecDepth 100000 in
theorem NameT_ok (v : Value) (w : World) (h : GraphAt w v gT) :
    Calls Tryz.prog 24 #[v] w fun e w' => e = .returned (.tuple #[.string ⟨#[50, 120, 50, 58, 48, 49, 47, 49, 49]⟩, .int .i64 0]) ∧ Below w.heap.size w w' := by
  obtain ⟨g, hg⟩ : ∃ g, gT = g := ⟨_, rfl⟩
  rw [hg] at h
  have Hg := Lib.hid hg.symm
  clear hg
  have h' := h
  obtain ⟨v1, v2, v3, rfl, ho, hr, hk⟩ := h
  obtain ⟨A1, c1, rfl, _, _, _⟩ := ho.cells
  obtain ⟨A2, c2, rfl, _, _, _⟩ := hr.cells
  obtain ⟨A3, c3, rfl, _, _, _⟩ := hk.cells
  obtain ⟨W0, hW0, Hz0, hb0, hlt0, hc0⟩ := boxed w #[.slice A1 g.obv.length c1, .slice A2 g.rev.length c2, .slice A3 g.links.length c3] 29
  have a0 := hc0 0 _ rfl; have a1 := hc0 1 _ rfl; have a2 := hc0 2 _ rfl
  have h1 := h'.below hb0
  clear hc0 ho hr hk h'
  go_enter Tryz.func24, Tryz.ntmps24
  go_wp2_with fail
  have hC := CodeT_ok (.agg #[.slice A1 g.obv.length c1, .slice A2 g.rev.length c2, .slice A3 g.links.length c3]) _ (by rw [← Hg.out]; exact h1)
  refine hC.mono ?_
  rintro e w1 ⟨u, rfl, hi, hb1⟩
  have hw1 := below_trans hb0 hb1
  obtain ⟨A, c, rfl, hc6, hcm, hcl⟩ := id hi.cells
  obtain ⟨b, o, rfl, hbl, _⟩ := hcl 0 (by decide)
  have y0 := gT_cell hi (j := 0) rfl; have y1 := gT_cell hi (j := 1) rfl; have y2 := gT_cell hi (j := 2) rfl; have y3 := gT_cell hi (j := 3) rfl; have y4 := gT_cell hi (j := 4) rfl; have y5 := gT_cell hi (j := 5) rfl
  clear hcl hi a0 a1 a2 hW0 hC h1
  simp only [List.length_cons, List.length_nil] at hc6
  have hc61 : (6 : Int) ≤ (c : Int) := by omega
  have hc42 : ¬ c - 2 = 2 := by omega
  go_wp2_with fail
  refine wp_loop_rounds 3 ?_
  rw [rounds_succ]
  go_wp2_with fail
  refine wp_loop_rounds 3 ?_
  rw [rounds_succ]
  go_wp2_with fail
  refine (itoa0_ok _).mono ?_
  rintro e w' ⟨rfl, hw'⟩
  subst hw'
  go_wp2_with fail
  rw [rounds_succ]
  go_wp2_with fail
  refine (itoa1_ok _).mono ?_
  rintro e w' ⟨rfl, hw'⟩
  subst hw'
  go_wp2_with fail
  rw [rounds_succ]
  have Y0 := Lib.hid y0; have Y1 := Lib.hid y1
  obtain ⟨iT, hiT, hzT, hkT, hbT⟩ := info_parts infoT
  have hown0 : OwnT w1.heap.size w1 (.slice none 0 0) [] := own_nil _ _ _ _ _
  go_wp2_with (at_builtin; refine wpList_append1 (enc := encT) (size := 1) (B := w1.heap.size) rfl (.tmp 52) (.tmp 54) _ rfl 9 iT _ 16 Tryz.underlying97 hiT hzT hkT hbT rfl (by decide) rfl hown0 ⟨#[48, 49]⟩ _ rfl lenT oneT _ rfl rfl (by simp) (by simp) (Nat.le_refl _) ?_; intro v' w2 hown' hgrow hat; clear hat; have hb2 : Below w1.heap.size w1 w2 := below_append hown0 hgrow (Nat.le_refl _); have hw2 := below_trans hw1 hb2; have y0 := cell_later hb2 y0; have y1 := cell_later hb2 y1; have y4 := cell_later hb2 y4; have y5 := cell_later hb2 y5)
  have hz2 := hb2.size
  clear y2 y3 hown0 hgrow
  rw [rounds_succ]
  go_wp2_with fail
  refine wp_loop_rounds 3 ?_
  rw [rounds_succ]
  go_wp2_with fail
  refine (itoa1_ok _).mono ?_
  rintro e w' ⟨rfl, hw'⟩
  subst hw'
  go_wp2_with fail
  rw [rounds_succ]
  go_wp2_with fail
  refine (itoa1_ok _).mono ?_
  rintro e w' ⟨rfl, hw'⟩
  subst hw'
  go_wp2_with fail
  rw [rounds_succ]
  go_wp2_with (at_builtin; refine wpList_append1 (enc := encT) (size := 1) (B := w1.heap.size) rfl (.tmp 52) (.tmp 54) _ rfl 9 iT _ 16 Tryz.underlying97 hiT hzT hkT hbT rfl (by decide) rfl hown' ⟨#[49, 49]⟩ _ rfl lenT oneT _ rfl rfl (by simp) (by simp) hz2 ?_; intro v'' w3 hown'' hgrow' hat; clear hat; have hb3 : Below w1.heap.size w2 w3 := (Below.refl _ _).grown hgrow' hz2 (fun g e => (hown'.lt g e).1); have hb13 := hb2.trans hb3; have hw3 := below_trans hw1 hb13; have y0 := cell_later hb13 Y0.out; have y1 := cell_later hb13 Y1.out)
  all_goals
    rw [rounds_succ]
    go_wp2_with fail
    rw [Nat.add_zero] at y0
    have Z0 := Later.cell_all y0; have Z1 := Later.cell_all y1
    have HJ := Lib.hid (fun y : Later w3 => join2_ok w1.heap.size v'' y.to (Own.below (show OwnT w1.heap.size w3 v'' rowsT from hown'') y.h))
    clear y0 y1
    refine wp_region_later (by kernel_rfl) (by kernel_rfl) ?_
    repeat (go_big_quiet_step (first | (go_at_call 50; with_reducible exact calls_later_same (itoa2_ok _)) | (go_at_call 51; with_reducible exact calls_later (HJ.out _))))
    refine wpQuiet_nil ?_
    intro _ hw'
    obtain ⟨xq, hw''⟩ := hw'
    subst hw''
    have hbz := xq.h
    generalize xq.to = wz at hbz ⊢
    clear Z0 Z1 HJ
    go_wp2_with fail
    exact bodyPost_ret (v := .tuple #[.string ⟨#[50, 120, 50, 58, 48, 49, 47, 49, 49]⟩, .int .i64 0]) (by simp [results, Tryz.results24, go_sem]; rfl) rfl ⟨rfl, below_trans hw3 hbz⟩
end Go.Proofs.YtgpbdembjdileaaGreatDoor
/- Package bridge: the net of a graph. Condition: the graph reads as such and is valid. -/
namespace Go.Proofs.YtgpbdembjdileaaGreatDoor
open Go.RowKit Go.Maps

theorem infoE2 : (Tryz.prog.info? 114).map (fun i => (i.zero, i.size, i.bytes)) = some (some (.agg #[.int .i64 0, .int .i64 0]), 2, 16) := by kernel_rfl
/-- The two places of a link. -/
def endN (g : Graph) (x : Link) : Pair := ⟨((g.obv.countP (· < x.obv) : Nat) : Int), ((g.obv.length + g.rev.countP (· < x.rev) : Nat) : Int)⟩
def endsN (g : Graph) : List Pair := g.links.map (endN g)
abbrev OwnE (B : Nat) (w : World) (v : Value) (xs : List Pair) : Prop := Own encP 2 114 B w v xs
set_option maxHeartbeats 8000000 in
set_option maxRecDepth 100000 in
theorem ofN_ok (v : Value) (g : Graph) (hg : graphB g = true) (w : World) (h : GraphAt w v g) :
    Calls Tryz.prog 47 #[v] w fun e w' => ∃ ids u, e = .returned (.agg #[.int .i64 ((g.obv.length + g.rev.length : Nat) : Int), ids, u]) ∧ Ints w' ids (g.links.map Link.id) ∧ Pairs w' u (endsN g) ∧ Below w.heap.size w w' := by
  have h' := h
  obtain ⟨v1, v2, v3, rfl, ho, hr, hk⟩ := h
  obtain ⟨A1, c1, rfl, _, _, _⟩ := id ho.cells
  obtain ⟨A2, c2, rfl, _, _, _⟩ := id hr.cells
  obtain ⟨A3, c3, rfl, _, _, hkc⟩ := hk.cells
  obtain ⟨W0, hW0, Hz0, hb0, hlt0, hc0⟩ := boxed w #[.slice A1 g.obv.length c1, .slice A2 g.rev.length c2, .slice A3 g.links.length c3] 29
  obtain ⟨W1, hW1, Hz1, hb1, hlt1, _⟩ := boxed W0 #[.int .i64 0, .slice none 0 0, .slice none 0 0] 93
  have hkR : W1.heap[W0.heap.size]? = some (.cells [.int .i64 0, .slice none 0 0, .slice none 0 0].toArray 93 (0, 0)) := by rw [← hW1]; exact heap_alloc_new _ _
  have a0 := cell_later hb1 (hc0 0 _ rfl); have a1 := cell_later hb1 (hc0 1 _ rfl); have a2 := cell_later hb1 (hc0 2 _ rfl)
  clear hc0
  have hw1 := below_trans hb0 hb1
  have hok := (graphB_iff g).1 hg
  have hn1 := hok.lo; have hn2 := hok.lr; have hn3 := hok.ll
  obtain ⟨N, hN⟩ : ∃ N : Nat, g.obv.length + g.rev.length = N := ⟨_, rfl⟩
  have eN : IntKind.i64.wrap ((g.obv.length : Int) + (g.rev.length : Int)) = (N : Int) := by rw [IntWalk.i64_in _ (by omega)]; omega
  obtain ⟨W2, W3, hW2, hW3, Hz3, hkW2, hkW3, hb3, hlt3⟩ := fresh W1 [.int .i64 0, .slice none 0 0, .slice none 0 0] [.int .i64 N, .slice none 0 0, .slice none 0 0] 93 rfl
  have hsW3 : ((W2.setCell ⟨W1.heap.size, 0, none⟩ (.int .i64 N)).setCell ⟨W1.heap.size, 1, none⟩ (.slice none 0 0)).setCell ⟨W1.heap.size, 2, none⟩ (.slice none 0 0) = W3 := hW3
  clear hW3
  obtain ⟨⟨z0, z1, z2⟩, f0, f1, f2⟩ := cells3 hkW2
  have d0 := cell_later hb3 a0; have d1 := cell_later hb3 a1; have d2 := cell_later hb3 a2
  have hw3 := below_trans hw1 hb3
  have hkR3 := heap_below hkR hb3 (heap_lt hkR)
  have hlt13 := hb3.size
  have hso := ascB_asc hok.ao; have hsr := ascB_asc hok.ar
  have Hs := Lib.hid hso; have Hr := Lib.hid hsr
  obtain ⟨iI, hiI, hzI, hkI, hbI⟩ := info_parts infoI
  obtain ⟨iE, hiE, hzE, hkE, hbE⟩ := info_parts infoE2
  clear hso hsr hok hkW2
  go_enter Tryz.func47, Tryz.ntmps47
  go_wp2_with fail
  clear z0 z1 z2 f0 f1 f2 hsW3 hW2 hW1 hW0 a0 a1 a2
  go_loopw [21] (fun kv wr => ∃ (k : Nat) (x1 x2 : Value), k ≤ g.links.length ∧ kv = .int .i64 k ∧ wr.heap[W1.heap.size]? = some (.cells #[.int .i64 N, x1, x2] 93 (0, 0)) ∧ OwnI W3.heap.size wr x1 ((g.links.take k).map Link.id) ∧ OwnE W3.heap.size wr x2 ((g.links.take k).map (endN g)) ∧ Touch W3 wr [W1.heap.size]) (fun kv _ => g.links.length - (intOf kv).toNat)
  case atStart => exact ⟨0, _, _, Nat.zero_le _, rfl, hkW3, own_nil _ _ _ _ _, own_nil _ _ _ _ _, Touch.refl _ _⟩
  case round =>
    obtain ⟨k, x1, x2, hkl, rfl, hblk, ho1, ho2, hTT⟩ := hrel
    by_cases hlt : k < g.links.length
    · obtain ⟨bo, o, rfl, _, hcb⟩ := hkc k hlt
      obtain ⟨x, hx⟩ := get_of_lt hlt
      have hwr : Below w.heap.size w wr := ((touch_below hw3 [W1.heap.size]).trans hTT).below (by have := hw1.size; simpa using this) (Nat.le_refl _)
      obtain ⟨y0, y1, y2⟩ := hcb wr hwr k x hx
      obtain ⟨V1, V2, hV1, hV2, HzV2, hkV1, hkV2, hbV2, hltV2⟩ := fresh wr [.int .i64 0, .int .i64 0, .int .i64 0] [.int .i64 (x).id, .int .i64 (x).obv, .int .i64 (x).rev] 64 rfl
      have hsV2 : ((V1.setCell ⟨wr.heap.size, 0, none⟩ (.int .i64 (x).id)).setCell ⟨wr.heap.size, 1, none⟩ (.int .i64 (x).obv)).setCell ⟨wr.heap.size, 2, none⟩ (.int .i64 (x).rev) = V2 := hV2
      clear hV2
      obtain ⟨⟨z0, z1, z2⟩, f0, f1, f2⟩ := cells3 hkV1
      obtain ⟨⟨s0, s1, s2⟩, _⟩ := cells3 hkV2
      clear hkV1
      have hk1 : (k : Int) < (g.links.length : Int) := by omega
      have hk0 : (0 : Int) ≤ (k : Int) := by omega
      have hn0 : w.heap.size ∉ [W1.heap.size] := by have := hb1.size; have := Hz0.out; simp; omega
      have e0 := cell_later hbV2 (cell_off hTT hn0 d0); have e1 := cell_later hbV2 (cell_off hTT hn0 d1)
      have hw2 := below_trans hwr hbV2
      obtain ⟨I, hI⟩ : ∃ I : Nat, g.obv.countP (· < x.obv) = I := ⟨_, rfl⟩
      obtain ⟨J, hJ⟩ : ∃ J : Nat, g.rev.countP (· < x.rev) = J := ⟨_, rfl⟩
      have hIl : I ≤ g.obv.length := by rw [← hI]; exact List.countP_le_length
      have hJl : J ≤ g.rev.length := by rw [← hJ]; exact List.countP_le_length
      obtain ⟨K, hK⟩ : ∃ K : Nat, g.obv.length + J = K := ⟨_, rfl⟩
      have hend : endN g x = ⟨(I : Int), (K : Int)⟩ := by rw [endN, hI, hJ, hK]
      have eK : IntKind.i64.wrap ((g.obv.length : Int) + (J : Int)) = (K : Int) := by rw [IntWalk.i64_in _ (by omega)]; omega
      have hs1 := searchI_ok _ g.obv x.obv V2 (ho.below hw2) Hs.out (by omega)
      rw [hI] at hs1
      have hs2 := fun w5 (hb5 : Below V2.heap.size V2 w5) => searchI_ok _ g.rev x.rev w5 (hr.below (below_trans hw2 hb5)) Hr.out (by omega)
      rw [hJ] at hs2
      have HS1 := Lib.hid hs1; have HS2 := Lib.hid hs2; have Hend := Lib.hid hend; have Hx := Lib.hid hx
      clear hcb d0 d1 d2 hI hJ hK hend hs1 hs2 hx
      go_wp2_with fail
      refine HS1.out.mono ?_
      rintro e w5 ⟨rfl, hb5⟩
      have e0 := cell_later hb5 e0; have e1 := cell_later hb5 e1
      have s0 := cell_later hb5 s0; have s1 := cell_later hb5 s1; have s2 := cell_later hb5 s2
      go_wp2_with fail
      refine (HS2.out w5 hb5).mono ?_
      rintro e w6 ⟨rfl, hb6⟩
      have e0 := cell_later hb6 e0
      have s0 := cell_later hb6 s0
      have hbr6 := below_trans hbV2 (below_trans hb5 hb6)
      have hblk6 := heap_below hblk hbr6 (heap_lt hblk)
      have ho16 := ho1.below hbr6; have ho26 := ho2.below hbr6
      obtain ⟨⟨t0, t1, t2⟩, q0, q1, q2⟩ := cells3 hblk6
      obtain ⟨L1, hL1⟩ : ∃ L1, (g.links.take k).map Link.id = L1 := ⟨_, rfl⟩
      obtain ⟨L2, hL2⟩ : ∃ L2, (g.links.take k).map (endN g) = L2 := ⟨_, rfl⟩
      have hll : L1.length ≤ 64 ∧ L2.length ≤ 64 := by rw [← hL1, ← hL2]; simp; omega
      have HL1 : Hid ((g.links.take (k + 1)).map Link.id = L1 ++ [x.id]) := Lib.hid (by rw [take_snoc' Hx.out, List.map_append, hL1]; rfl)
      have HL2 : Hid ((g.links.take (k + 1)).map (endN g) = L2 ++ [⟨(I : Int), (K : Int)⟩]) := Lib.hid (by rw [take_snoc' Hx.out, List.map_append, hL2, ← Hend.out]; rfl)
      rw [hL1] at ho16
      rw [hL2] at ho26
      obtain ⟨M1, hM1⟩ : ∃ M1, L1 ++ [x.id] = M1 := ⟨_, rfl⟩
      obtain ⟨M2, hM2⟩ : ∃ M2, L2 ++ [(⟨(I : Int), (K : Int)⟩ : Pair)] = M2 := ⟨_, rfl⟩
      have HM1 := Lib.hid hM1; have HM2 := Lib.hid hM2
      have hBs : W3.heap.size ≤ w6.heap.size := by have := hTT.size; have := hbr6.size; omega
      have htb : W1.heap.size < w6.heap.size := heap_lt hblk6
      have hwlt : w.heap.size < w6.heap.size := by have := hb0.size; have := hb1.size; omega
      have hw3z : w.heap.size < W3.heap.size := by have := hb1.size; omega
      have htb3 : W1.heap.size < W3.heap.size := heap_lt hkW3
      have hT6 := hTT.trans (touch_below hbr6 [W1.heap.size])
      have HT6 := Lib.hid hT6
      have Hwr6 := Lib.hid (below_trans hwr hbr6)
      clear ho1 ho2 hL1 hL2 hM1 hM2 HS1 HS2 Hx hblk s1 s2 e1 y0 y1 y2 hTT hT6
      have tok1 : True := trivial
      go_wp2_with (first
        | (at_builtin; have _t := tok1; refine wpList_append1 (enc := encI) (size := 1) (B := W3.heap.size) rfl (.tmp 42) (.tmp 45) _ rfl 3 iI _ 8 Tryz.underlying26 hiI hzI hkI hbI rfl (by decide) rfl ho16 x.id _ rfl lenI oneI _ rfl rfl (by omega) (by omega) hBs ?_; intro v' w7 hown' hgrow hat; clear tok1 hat;
           have hg7 : w6.grownBy w7 x1.ownBlock := hgrow;
           have hblk7 := (hg7.block W1.heap.size htb (fun e => by have := (ho16.lt _ e.symm).1; omega)).trans hblk6;
           obtain ⟨⟨p0, p1, p2⟩, r0, r1, r2⟩ := cells3 hblk7;
           have g0 : w7.cell? ⟨w.heap.size, 0, none⟩ = some (.slice A1 g.obv.length c1) := (World.cell?_of_block (a := ⟨w.heap.size, 0, none⟩) (hg7.block w.heap.size hwlt (fun e => by have := (ho16.lt _ e.symm).1; omega))).trans e0;
           rw [HM1.out] at hown'; obtain ⟨Av, cv, ev, _⟩ := hown'.slOf; subst ev;
           have hx2 : OwnE W3.heap.size w7 x2 L2 := ho26.kept hg7 (by
             rcases ho26.2 with ⟨rfl, _⟩ | ⟨gg, cap, cur, rfl, _, hgg, _⟩
             · exact .inl rfl
             · exact .inr (own_block ho16 hgg (by decide)));
           obtain ⟨w8, hw8⟩ : ∃ z, w7.setCell ⟨W1.heap.size, 1, none⟩ (.slice Av M1.length cv) = z := ⟨_, rfl⟩;
           have hset : Touch w7 w8 [W1.heap.size] := by rw [← hw8]; exact touch_set rfl (by simp);
           have hblk8 : w8.heap[W1.heap.size]? = some (.cells #[.int .i64 N, .slice Av M1.length cv, x2] 93 (0, 0)) := by
             have := heap_setCell_same w7 W1.heap.size 1 _ _ (.slice Av M1.length cv) hblk7
             rw [hw8] at this; simpa using this;
           obtain ⟨⟨p0, p1, p2⟩, r0, r1, r2⟩ := cells3 (w := w8) (a := .int .i64 N) (b := .slice Av M1.length cv) (c := x2) hblk8;
           have hx28 : OwnE W3.heap.size w8 x2 L2 := hx2.off hset (fun j e => by have := (hx2.lt j e).1; simp; omega);
           have hx18 : OwnI W3.heap.size w8 (.slice Av M1.length cv) M1 := hown'.off hset (fun j e => by have := (hown'.lt j e).1; simp; omega);
           have g08 : w8.cell? ⟨w.heap.size, 0, none⟩ = some (.slice A1 g.obv.length c1) := cell_off hset (by simp; omega) g0;
           have hz8 : W3.heap.size ≤ w8.heap.size := by have := hg7.size; have := hset.size; omega;
           have HT8 := Lib.hid ((HT6.out.own hg7 (fun j e => .inr (ho16.lt j e).1)).trans hset);
           clear hown' hgrow hg7 hblk7 hset hx2 g0)
        | (at_builtin; refine wpList_append1 (enc := encP) (size := 2) (B := W3.heap.size) rfl (.tmp 49) (.tmp 57) _ rfl 114 iE _ 16 Tryz.underlying91 hiE hzE hkE hbE rfl (by decide) rfl hx28 ⟨(I : Int), (K : Int)⟩ _ rfl lenP oneP _ rfl rfl (by omega) (by omega) hz8 ?_; intro v2 w9 hown2 hgrow2 hat2; clear hat2;
           have hg9 : w8.grownBy w9 x2.ownBlock := hgrow2;
           have hblk9 := (hg9.block W1.heap.size (heap_lt hblk8) (fun e => by have := (hx28.lt _ e.symm).1; omega)).trans hblk8;
           obtain ⟨⟨p0, p1, p2⟩, r0, r1, r2⟩ := cells3 (w := w9) (a := .int .i64 N) (b := .slice Av M1.length cv) (c := x2) hblk9;
           rw [HM2.out] at hown2; obtain ⟨Ae, ce, ev, _⟩ := hown2.slOf; subst ev;
           have hx19 : OwnI W3.heap.size w9 (.slice Av M1.length cv) M1 := hx18.kept hg9 (by
             rcases hx18.2 with ⟨e, _⟩ | ⟨gg, cap, cur, e, _, hgg, _⟩
             · rw [e]; exact .inl rfl
             · rw [e]; exact .inr (own_block hx28 hgg (by decide)))))
      have hset2 : Touch w9 (w9.setCell ⟨W1.heap.size, 2, none⟩ (.slice Ae M2.length ce)) [W1.heap.size] := touch_set rfl (by simp)
      have hblkF := heap_setCell_same w9 W1.heap.size 2 _ _ (.slice Ae M2.length ce) hblk9
      refine ⟨?rel, ?measure⟩
      case rel => exact ⟨k + 1, _, _, by omega, by go_num, by simpa using hblkF, by rw [HL1.out, HM1.out]; exact hx19.off hset2 (fun j e => by have := (hx19.lt j e).1; simp; omega), by rw [HL2.out, HM2.out]; exact hown2.off hset2 (fun j e => by have := (hown2.lt j e).1; simp; omega), (HT8.out.own hg9 (fun j e => .inr (hx28.lt j e).1)).trans hset2⟩
      case measure => first | (simp [intOf]; done) | (simp [intOf]; omega)
    · have ek : k = g.links.length := by omega
      rw [ek, List.take_length] at ho1 ho2
      obtain ⟨⟨t0, t1, t2⟩, _⟩ := cells3 hblk
      have hkRr := (hTT.block W0.heap.size (by have := hb3.size; omega) (by simp; omega)).trans hkR3
      obtain ⟨⟨r0, r1, r2⟩, q0, q1, q2⟩ := cells3 hkRr
      have HkR := Lib.hid hkRr
      have hbr : Below w.heap.size w wr := ((touch_below hw3 [W1.heap.size]).trans hTT).below (by have := hw1.size; simpa using this) (Nat.le_refl _)
      obtain ⟨L1, hL1⟩ : ∃ L1, g.links.map Link.id = L1 := ⟨_, rfl⟩
      obtain ⟨L2, hL2⟩ : ∃ L2, g.links.map (endN g) = L2 := ⟨_, rfl⟩
      rw [hL1] at ho1
      rw [hL2] at ho2
      have HL1 := Lib.hid hL1; have HL2 := Lib.hid hL2
      clear hL1 hL2
      obtain ⟨Ax, cx, rfl, _⟩ := ho1.slOf
      obtain ⟨Ay, cy, rfl, _⟩ := ho2.slOf
      have H1 := Lib.hid ho1; have H2 := Lib.hid ho2
      have Hz := Lib.hid (And.intro hb0.size (And.intro hb1.size hb3.size))
      clear ho1 ho2 hkRr hblk hkR hkR3 hTT hkc d0 d1 d2 hkW3
      go_wp2_with fail
      refine bodyPost_ret (results_cell_row rfl _ _ W0.heap.size 93 #[.int .i64 N, .slice Ax L1.length cx, .slice Ay L2.length cy] (0, 0) _ (by simp) (heap_set3 HkR.out) Tryz.underlying93 rfl (by kernel_rfl)) rfl ⟨.slice Ax L1.length cx, .slice Ay L2.length cy, ?_, ?_, ?_, below_set3 hbr (by omega) _ _ _⟩
      · rw [hN]
      · rw [HL1.out]
        exact (H1.out.off (S := [W0.heap.size]) ((((Touch.refl _ _).trans (touch_set rfl (by simp))).trans (touch_set rfl (by simp))).trans (touch_set rfl (by simp))) (fun j e => by have := (H1.out.lt j e).1; simp; omega)).slOf
      · rw [endsN, HL2.out]
        exact (H2.out.off (S := [W0.heap.size]) ((((Touch.refl _ _).trans (touch_set rfl (by simp))).trans (touch_set rfl (by simp))).trans (touch_set rfl (by simp))) (fun j e => by have := (H2.out.lt j e).1; simp; omega)).slOf
theorem gT_ends : gT.obv.length + gT.rev.length = 4 ∧ gT.links.map Link.id = [2, 4, 7] ∧ endsN gT = [⟨1, 3⟩, ⟨0, 2⟩, ⟨1, 2⟩] := by decide
theorem gT_bri : ∀ k, k < 3 → (briF [⟨1, 3⟩, ⟨0, 2⟩, ⟨1, 2⟩] 4 3)[k]? = some true := by decide
set_option maxHeartbeats 8000000 in
set_option maxRecDepth 100000 in
theorem BridgesT_ok (v : Value) (w : World) (h : GraphAt w v gT) :
    Calls Tryz.prog 23 #[v] w fun e w' => ∃ u, e = .returned (.tuple #[u, .int .i64 0]) ∧ Ints w' u [2, 4, 7] ∧ Below w.heap.size w w' := by
  obtain ⟨g, hg⟩ : ∃ g, gT = g := ⟨_, rfl⟩
  have hgv := gT_valid
  obtain ⟨he1, he2, he3⟩ := gT_ends
  have hl3 : g.links.length = 3 := by rw [← hg]; rfl
  rw [hg] at h hgv he1 he2 he3
  obtain ⟨N, hN⟩ : ∃ N, g.obv.length + g.rev.length = N := ⟨_, rfl⟩
  obtain ⟨L1, hL1⟩ : ∃ L1, g.links.map Link.id = L1 := ⟨_, rfl⟩
  obtain ⟨L2, hL2⟩ : ∃ L2, endsN g = L2 := ⟨_, rfl⟩
  have hof := ofN_ok v g hgv
  rw [hN, hL1, hL2] at hof
  rw [hN] at he1
  rw [hL1] at he2
  rw [hL2] at he3
  have hN4 : N ≤ 64 := by omega
  have hle : L1.length = L2.length := by rw [he2, he3]; rfl
  have hel : ∀ e ∈ L2, 0 ≤ e.a ∧ e.a < N ∧ 0 ≤ e.b ∧ e.b < N := by rw [he3, he1]; decide
  have hbr : ∀ k, k < L2.length → (briF L2 N L2.length)[k]? = some true := by rw [he3, he1]; exact gT_bri
  have hl64 : L2.length ≤ 64 := by rw [he3]; decide
  have HOF := Lib.hid hof; have HEL := Lib.hid hel; have HBR := Lib.hid hbr; have HLE := Lib.hid hle; have HE2 := Lib.hid he2
  have h' := h
  obtain ⟨v1, v2, v3, rfl, ho, hr, hk⟩ := h
  obtain ⟨A1, c1, rfl, _, _, _⟩ := ho.cells
  obtain ⟨A2, c2, rfl, _, _, _⟩ := hr.cells
  obtain ⟨A3, c3, rfl, _, _, _⟩ := hk.cells
  obtain ⟨W0, hW0, Hz0, hb0, hlt0, hc0⟩ := boxed w #[.slice A1 g.obv.length c1, .slice A2 g.rev.length c2, .slice A3 g.links.length c3] 29
  have h1 := h'.below hb0
  have a0 := hc0 0 _ rfl; have a1 := hc0 1 _ rfl; have a2 := hc0 2 _ rfl
  have HGV := Lib.hid hgv
  obtain ⟨iI, hiI, hzI, hkI, hbI⟩ := info_parts infoI
  clear hc0 ho hr hk h' hg hgv hof hel hbr hle he1 he2 he3 hl3 hN hL1 hL2
  go_enter Tryz.func23, Tryz.ntmps23
  go_wp2_with fail
  refine (Valid_ok _ g _ h1).mono ?_
  rintro e w1 ⟨rfl, hb1⟩
  rw [HGV.out]
  have a0 := cell_later hb1 a0; have a1 := cell_later hb1 a1; have a2 := cell_later hb1 a2
  go_wp2_with fail
  refine (HOF.out _ (h1.below hb1)).mono ?_
  rintro e w2 ⟨ids, u, rfl, hids, hu, hb2⟩
  obtain ⟨Ai, ci, rfl, _, _, hic⟩ := hids.cells
  rw [HLE.out] at hic hids ⊢
  obtain ⟨Au, cu, rfl, _, _, _⟩ := id hu.cells
  obtain ⟨W3, W4, hW3, hW4, Hz4, hk3, hk4, hb4, hlt4⟩ := fresh w2 [.int .i64 0, .slice none 0 0, .slice none 0 0] [.int .i64 N, .slice Ai L2.length ci, .slice Au L2.length cu] 93 rfl
  have hs4 : ((W3.setCell ⟨w2.heap.size, 0, none⟩ (.int .i64 N)).setCell ⟨w2.heap.size, 1, none⟩ (.slice Ai L2.length ci)).setCell ⟨w2.heap.size, 2, none⟩ (.slice Au L2.length cu) = W4 := hW4
  obtain ⟨⟨z0, z1, z2⟩, f0, f1, f2⟩ := cells3 hk3
  obtain ⟨⟨s0, s1, s2⟩, _⟩ := cells3 hk4
  have hw4 := below_trans hb0 (below_trans hb1 (below_trans hb2 hb4))
  have hBR := bridges_ok N (.slice Ai L2.length ci) (.slice Au L2.length cu) L1 L2 W4 (hids.below hb4) HLE.out (hu.below hb4) hN4 hl64 HEL.out
  have hBR := Lib.hid hBR
  clear hW4 hk3 hk4 a0 a1 a2 hu
  go_wp2_with fail
  clear z0 z1 z2 f0 f1 f2 hs4 hW3
  refine hBR.out.mono ?_
  rintro e w5 ⟨b, rfl, hR, hbz, hb5⟩
  have s0 := cell_later hb5 s0; have s1 := cell_later hb5 s1; have s2 := cell_later hb5 s2
  have hw5 := below_trans hw4 hb5
  have hb25 := below_trans hb4 hb5
  clear hBR
  go_wp2_with fail
  go_loopw [5, 16] (fun xv kv wr => ∃ k : Nat, k ≤ L2.length ∧ kv = .int .i64 k ∧ OwnI w5.heap.size wr xv (L1.take k) ∧ Below w5.heap.size w5 wr) (fun _ kv _ => L2.length - (intOf kv).toNat)
  case atStart => exact ⟨0, Nat.zero_le _, rfl, own_nil _ _ _ _ _, Below.refl _ _⟩
  case round =>
    obtain ⟨k, hk, rfl, hown, hb⟩ := hrel
    by_cases hlt : k < L2.length
    · obtain ⟨c0, _⟩ := hR.cell (HBR.out k hlt)
      have c0 := cell_later hb c0
      have s1 := cell_later hb s1
      obtain ⟨bi, oi, rfl, _, hib⟩ := hic k hlt
      obtain ⟨x, hx⟩ := get_of_lt (show k < L1.length by rw [HLE.out]; exact hlt)
      have y0 := hib wr (below_trans hb25 hb) k x hx
      have Hsn := Lib.hid (take_snoc' hx)
      have hk1 : (k : Int) < (L2.length : Int) := by omega
      have hk0 : (0 : Int) ≤ (k : Int) := by omega
      have htl : (L1.take k).length ≤ 64 := by rw [List.length_take]; omega
      have hBs := hb.size
      clear hic hib hx
      go_wp2_with (at_builtin; refine wpList_append1 (enc := encI) (size := 1) (B := w5.heap.size) rfl (.tmp 22) (.tmp 28) _ rfl 3 iI _ 8 Tryz.underlying26 hiI hzI hkI hbI rfl (by decide) rfl hown x _ rfl lenI oneI _ rfl rfl (by omega) (by omega) hBs ?_; intro v' w7 hown' hgrow hat)
      refine ⟨?rel, ?measure⟩
      case rel => exact ⟨k + 1, by omega, by go_num, by rw [Hsn.out]; exact hown', hb.trans (below_append hown hgrow hBs)⟩
      case measure => first | (simp [intOf]; done) | (simp [intOf]; omega)
    · have ek : k = L1.length := by rw [HLE.out]; omega
      rw [ek, List.take_length] at hown
      have hT : Ints wr u5 L1 := hown.slOf
      have HT := Lib.hid hT
      clear hic hown hT ek
      go_wp2_with fail
      exact bodyPost_ret (v := .tuple #[_, .int .i64 0]) (by simp [results, Tryz.results23, go_sem]; rfl) rfl ⟨_, rfl, by rw [← HE2.out]; exact HT.out, below_trans hw5 hb⟩
end Go.Proofs.YtgpbdembjdileaaGreatDoor
/- linksAwake. No condition. -/
namespace Go.Proofs.YtgpbdembjdileaaGreatDoor
open Go.RowKit Go.Maps

theorem slOf_block {α : Type} {enc : α → List Value} {k : Nat} {w : World} {g n c : Nat} {t : TypeId} {xs : List α} (hk : ∀ x, (enc x).length = k) (h : w.heap[g]? = some (.cells (xs.flatMap enc).toArray t (0, 0))) (hn : n = xs.length) (h1 : n ≤ c) (h2 : c ≤ maxLen) :
    SlOf enc k w (.slice (some ⟨g, 0, none⟩) n c) xs := by
  subst hn
  refine ⟨some ⟨g, 0, none⟩, c, rfl, h1, h2, flat_len enc k hk xs, fun _ => ⟨g, 0, rfl, heap_lt h, fun j u hu => ?_⟩⟩
  rw [Nat.zero_add, heap_cell h]
  simpa using hu
def tripL : List Spec := [coinT 4 1 1, coinT 2 3 2, coinT 7 3 1]
theorem trip_ofE : ofE tripL = 0 := by decide
theorem trip_ofG : ofG tripL = gT := by decide
theorem trip_first : firstR tripL ⟨0, 1⟩ ⟨1, 2⟩ = (7, 0) := by
  have h1 : joinB (edgesS (tripL.take 1)) ⟨0, 1⟩ ⟨1, 2⟩ = false := by rw [(ninv_list (tripL.take 1)).joined]; decide
  have h2 : joinB (edgesS (tripL.take 2)) ⟨0, 1⟩ ⟨1, 2⟩ = false := by rw [(ninv_list (tripL.take 2)).joined]; decide
  have h3 : joinB (edgesS (tripL.take 3)) ⟨0, 1⟩ ⟨1, 2⟩ = true := by rw [(ninv_list (tripL.take 3)).joined]; decide
  have hk : firstK tripL ⟨0, 1⟩ ⟨1, 2⟩ = some 2 := by
    rw [firstK, show List.range tripL.length = [0, 1, 2] from by decide]
    simp only [List.find?_cons, h1, h2, h3]
  rw [firstR, if_pos trip_ofE, hk]
  rfl
set_option maxHeartbeats 4000000 in
set_option maxRecDepth 100000 in
theorem wakeT_ok (w : World) : Calls Tryz.prog 5 #[] w fun e w' => e = .returned (.bool true) ∧ Below w.heap.size w w' := by
  go_enter Tryz.func5, Tryz.ntmps5
  go_wp2_with fail
  refine (coinT_ok 4 1 1 _).mono ?_
  rintro e w1 ⟨rfl, hb1⟩
  go_wp2_with fail
  refine (coinT_ok 2 3 2 _).mono ?_
  rintro e w2 ⟨rfl, hb2⟩
  go_wp2_with fail
  refine (coinT_ok 7 3 1 _).mono ?_
  rintro e w3 ⟨rfl, hb3⟩
  have h13 := below_trans hb1 (below_trans hb2 hb3)
  clear hb1 hb2 hb3
  go_wp2_with fail
  obtain ⟨W, hW⟩ : ∃ z, w3.alloc (.cells (tripL.flatMap encS).toArray 47) = z := ⟨_, rfl⟩
  change Calls _ _ _ (w3.alloc (.cells (tripL.flatMap encS).toArray 47)) _
  rw [hW]
  have hk : W.heap[w3.heap.size]? = some (.cells (tripL.flatMap encS).toArray 47 (0, 0)) := by rw [← hW]; exact heap_alloc_new _ _
  have hbW : Below w3.heap.size w3 W := by rw [← hW]; exact (Below.refl _ _).alloc (Nat.le_refl _) _
  have hS : Specs W (.slice (some ⟨w3.heap.size, 0, none⟩) 3 3) tripL := slOf_block lenS hk rfl (by decide) (by decide)
  have hw4 := below_trans h13 hbW
  clear hW hk h13 hbW
  refine (Of_ok _ tripL W hS).mono ?_
  rintro e w5 ⟨ug, rfl, hg, hb5⟩
  rw [trip_ofE]
  rw [trip_ofG] at hg
  have hg0 := hg
  obtain ⟨v1, v2, v3, rfl, ho, hr, hl⟩ := hg
  obtain ⟨A1, c1, e1, _, _, _⟩ := ho.cells
  obtain ⟨A2, c2, e2, _, _, _⟩ := hr.cells
  obtain ⟨A3, c3, e3, _, _, _⟩ := hl.cells
  obtain rfl : v1 = .slice A1 2 c1 := e1
  obtain rfl : v2 = .slice A2 2 c2 := e2
  obtain rfl : v3 = .slice A3 3 c3 := e3
  obtain ⟨W6, W7, hW6, hW7, Hz7, hk6, hk7, hb7, hlt7⟩ := fresh w5 [.slice none 0 0, .slice none 0 0, .slice none 0 0] [.slice A1 2 c1, .slice A2 2 c2, .slice A3 3 c3] 29 rfl
  have hs7 : ((W6.setCell ⟨w5.heap.size, 0, none⟩ (.slice A1 2 c1)).setCell ⟨w5.heap.size, 1, none⟩ (.slice A2 2 c2)).setCell ⟨w5.heap.size, 2, none⟩ (.slice A3 3 c3) = W7 := hW7
  obtain ⟨⟨z0, z1, z2⟩, f0, f1, f2⟩ := cells3 hk6
  obtain ⟨⟨s0, s1, s2⟩, _⟩ := cells3 hk7
  have hb57 := below_trans hb5 hb7
  have hw7 := below_trans hw4 hb57
  have hS7 := hS.below hb57
  have hg7 := hg0.below hb7
  clear hk6 hk7 hW7 ho hr hl hg0 hS
  go_wp2_with fail
  clear z0 z1 z2 f0 f1 f2 hs7 hW6
  refine (First_ok _ tripL ⟨0, 1⟩ ⟨1, 2⟩ _ hS7 (by decide) (by decide)).mono ?_
  rintro e w8 ⟨rfl, hb8⟩
  rw [trip_first]
  have s0 := cell_later hb8 s0; have s1 := cell_later hb8 s1; have s2 := cell_later hb8 s2
  have hg8 := hg7.below hb8
  have hw8 := below_trans hw7 hb8
  clear hS7 hg7
  go_wp2_with fail
  refine (BridgesT_ok _ _ hg8).mono ?_
  rintro e w9 ⟨ub, rfl, hbi, hb9⟩
  have s0 := cell_later hb9 s0; have s1 := cell_later hb9 s1; have s2 := cell_later hb9 s2
  have hg9 := hg8.below hb9
  have hw9 := below_trans hw8 hb9
  obtain ⟨Ab, cb, e9, _⟩ := id hbi
  obtain rfl : ub = .slice Ab 3 cb := e9
  clear hg8
  go_wp2_with fail
  refine (NameT_ok _ _ hg9).mono ?_
  rintro e wa ⟨rfl, hba⟩
  have hwa := below_trans hw9 hba
  have hbi := hbi.below hba
  clear s0 s1 s2 hg9
  go_wp2_with fail
  obtain ⟨L1, hL1⟩ : ∃ z, wa.alloc (.cells #[.int .i64 2, .int .i64 4, .int .i64 7] 3) = z := ⟨_, rfl⟩
  rw [hL1]
  have hk1 : L1.heap[wa.heap.size]? = some (.cells (([2, 4, 7] : List Int).flatMap encI).toArray 3 (0, 0)) := by rw [← hL1]; exact heap_alloc_new _ _
  have hbL : Below wa.heap.size wa L1 := by rw [← hL1]; exact (Below.refl _ _).alloc (Nat.le_refl _) _
  have hi1 : Ints L1 (.slice (some ⟨wa.heap.size, 0, none⟩) 3 3) [2, 4, 7] := slOf_block lenI hk1 rfl (by decide) (by decide)
  clear hk1 hL1
  refine (baseInts_ok _ _ _ _ L1 (hbi.below hbL) hi1).mono ?_
  rintro e wx ⟨rfl, hbx⟩
  have hwx := below_trans hwa (below_trans hbL hbx)
  clear hi1 hbi
  go_wp2_with fail
  go_ret
  exact ⟨rfl, hwx⟩
end Go.Proofs.YtgpbdembjdileaaGreatDoor
