/- Package poset: has, next, reach, acyclic, Valid, Acyclic at a digraph. Condition: the arcs are a digraph's. -/
import Derived.Test.YthnckicnnhkkaaaGreatOwn
import Derived.Test.YthnckicnnhkkaaaGreatPreA
import Derived.Test.YthnckicnnhkkaaaGreatQueD
import Derived.Laws.BitsAllLaws
namespace Go.Proofs.YthnckicnnhkkaaaGreat
open Go.RowKit Go.Maps Go.Shelf

theorem and_bit (z j : Nat) (hz : z < 4294967296) : (bits .and .u32 ((z : Int) / 2 ^ j) 1 != 0) = z.testBit j := by
  have h1 : ((z : Int) / 2 ^ j) = ((z / 2 ^ j : Nat) : Int) := by simp
  rw [h1, show (1 : Int) = ((1 : Nat) : Int) from rfl, Go.u32_and_nat _ _ (Nat.lt_of_le_of_lt (Nat.div_le_self _ _) hz) (by omega), Nat.and_one_is_mod, Nat.testBit_eq_decide_div_mod_eq]
  have h2 := Nat.mod_two_eq_zero_or_one (z / 2 ^ j)
  rcases h2 with h | h <;> rw [h] <;> rfl
set_option maxHeartbeats 2000000 in
theorem pHas_ok (z : Nat) (hz : z < 4294967296) (j : Nat) (hj : j < 32) (w : World) : Calls Tryz.prog 225 #[.int .u32 z, .int .i64 j] w fun e w' => e = .returned (.bool (z.testBit j)) ∧ Below w.heap.size w w' := by
  have h0 : (0 : Int) ≤ (j : Int) := by omega
  have Hb := Lib.hid (and_bit z j hz)
  go_enter Tryz.func225, Tryz.ntmps225
  go_wp2
  go_ret
  exact ⟨ret_bool Hb.out, Below.refl _ _⟩
/-- A row of sets in a block of its own. -/
def RowU (w : World) (b : Nat) (r : List Nat) : Prop := w.heap[b]? = some (.cells (r.map fun (z : Nat) => Value.int .u32 (z : Int)).toArray 258 (0, 0))
section
variable {w w' : World} {b : Nat} {r : List Nat}
theorem RowU.cell (h : RowU w b r) {k : Nat} {x : Nat} (hx : r[k]? = some x) : w.cell? ⟨b, k, none⟩ = some (.int .u32 x) ∧ w.frozen? ⟨b, k, none⟩ = false := by
  refine ⟨?_, heap_free h⟩
  rw [heap_cell h]; simp [hx]
theorem RowU.set (h : RowU w b r) (k : Nat) (x : Nat) : RowU (w.setCell ⟨b, k, none⟩ (.int .u32 x)) b (r.set k x) := by
  have := heap_setCell_same w b k _ _ (.int .u32 x) h
  unfold RowU
  rw [this]; simp [List.map_set]
theorem RowU.lt (h : RowU w b r) : b < w.heap.size := heap_lt h
theorem RowU.below (h : RowU w b r) (hb : Below w.heap.size w w') : RowU w' b r := heap_below h hb (heap_lt h)
end
/-- Sets that hold what a relation says. -/
def BS (n : Nat) (zs : List Nat) (R : Nat → Nat → Bool) : Prop := zs.length = n ∧ ∀ i z, zs[i]? = some z → z < 16777216 ∧ ∀ j, z.testBit j = R i j
def arcB (a : List Pair) (i j : Nat) : Bool := decide ((⟨(i : Int), (j : Int)⟩ : Pair) ∈ a)
/-- The arcs lie among n places. -/
def ArIn (n : Nat) (a : List Pair) : Prop := ∀ x ∈ a, ∃ p q : Nat, x = ⟨p, q⟩ ∧ p < n ∧ q < n
theorem bs_zero (n : Nat) : BS n (List.replicate n 0) (arcB []) := ⟨List.length_replicate, fun i z h => by
  rw [List.getElem?_replicate] at h
  split at h
  · cases h; exact ⟨by omega, fun j => by simp [arcB]⟩
  · cases h⟩
theorem BS.arc {n : Nat} {zs : List Nat} {a : List Pair} {k p q z : Nat} (h : BS n zs (arcB (a.take k))) (hx : a[k]? = some ⟨p, q⟩) (hq : q < 24) (hz : zs[p]? = some z) : BS n (zs.set p (z ||| 2 ^ q)) (arcB (a.take (k + 1))) := by
  refine ⟨by rw [List.length_set]; exact h.1, fun i y hy => ?_⟩
  rw [take_snoc' hx]
  by_cases e : p = i
  · subst e
    rw [List.getElem?_set_self (lt_of_get hz)] at hy
    cases hy
    obtain ⟨h1, h2⟩ := h.2 p z hz
    refine ⟨Nat.or_lt_two_pow (n := 24) h1 (Nat.pow_lt_pow_right (by omega) hq), fun j => ?_⟩
    rw [Nat.testBit_or, h2 j, Nat.testBit_two_pow]
    unfold arcB
    by_cases e : q = j
    · subst e; simp
    · have : ¬ ((⟨(p : Int), (j : Int)⟩ : Pair) = ⟨(p : Int), (q : Int)⟩) := fun h => by simp at h; omega
      simp [this, e]
  · rw [List.getElem?_set_ne e] at hy
    obtain ⟨h1, h2⟩ := h.2 i y hy
    refine ⟨h1, fun j => ?_⟩
    rw [h2 j]
    unfold arcB
    have : ¬ ((⟨(i : Int), (j : Int)⟩ : Pair) = ⟨(p : Int), (q : Int)⟩) := fun h => by simp at h; omega
    simp [this]
theorem bor (z q : Nat) (hz : z < 4294967296) (hq : q < 32) : bits .or .u32 (z : Int) (IntKind.u32.wrap (2 ^ q)) = ((z ||| 2 ^ q : Nat) : Int) := by
  have h2 : (2 : Nat) ^ q < 4294967296 := show 2 ^ q < 2 ^ 32 from Nat.pow_lt_pow_right (by omega) hq
  have h3 : ((2 : Int) ^ q) = ((2 ^ q : Nat) : Int) := by simp
  have h1 : IntKind.u32.wrap (2 ^ q) = ((2 ^ q : Nat) : Int) := by rw [h3, IntKind.wrap_u32']; generalize 2 ^ q = y at h2 ⊢; omega
  rw [h1, Go.u32_or_nat _ _ hz h2]
set_option maxHeartbeats 8000000 in
set_option maxRecDepth 100000 in
theorem next_ok (n : Nat) (hn : n ≤ 24) (v : Value) (a : List Pair) (w : World) (h : Pairs w v a) (hin : ArIn n a) :
    Calls Tryz.prog 226 #[.int .i64 n, v] w fun e w' => ∃ g zs, e = .returned (.slice (some ⟨g, 0, none⟩) n n) ∧ RowU w' g zs ∧ BS n zs (arcB a) ∧ w.heap.size ≤ g ∧ Below w.heap.size w w' := by
  obtain ⟨A, c, rfl, hlc, hcm, hcl⟩ := h.cells
  have HCl := Lib.hid hcl; have Hin := Lib.hid hin
  have hmk := run_make_row' (P := Tryz.prog) 218 258 (.int .u32 0) 4 Tryz.underlying218 infoSe rfl .i64 .i64 n (by omega) (by omega)
  have hmn : ∀ w : World, (Instr.makeSlice 218 (.int .i64 n) (.int .i64 n)).run Tryz.prog w = .ok (.slice (some ⟨w.heap.size, 0, none⟩) n n) (w.alloc (.cells (Array.replicate n (Value.int .u32 0)) 258)) := fun w => by
    have := hmk w
    rw [made_zero32] at this
    exact this
  obtain ⟨W, hW, Hz, hbW, hltW, _⟩ := boxed w (Array.replicate n (Value.int .u32 0)) 258
  have hk : RowU W w.heap.size (List.replicate n 0) := by unfold RowU; rw [← hW, List.map_replicate, List.toArray_replicate]; exact heap_alloc_new _ _
  have Hk := Lib.hid hk
  clear hk hmk hcl h hin
  go_enter Tryz.func226, Tryz.ntmps226
  go_wp2_with fail
  go_loopw [12] (fun t wr => ∃ (k : Nat) (zs : List Nat), k ≤ a.length ∧ t = .int .i64 k ∧ RowU wr w.heap.size zs ∧ BS n zs (arcB (a.take k)) ∧ Below w.heap.size w wr) (fun t _ => a.length - (intOf t).toNat)
  case atStart => exact ⟨0, _, Nat.zero_le _, rfl, Hk.out, bs_zero n, hbW⟩
  case round =>
    obtain ⟨k, zs, hk, rfl, hrow, hbs, hb⟩ := hrel
    by_cases hlt : k < a.length
    · obtain ⟨x, hx⟩ := get_of_lt hlt
      obtain ⟨b, o, rfl, _, hcc⟩ := HCl.out _ (lt_of_get hx)
      obtain ⟨p, q, rfl, hp, hq⟩ := Hin.out x (List.mem_of_getElem? hx)
      obtain ⟨c0, c1⟩ := hcc wr hb k _ hx
      obtain ⟨z, hz⟩ := get_of_lt (show p < zs.length by rw [hbs.1]; exact hp)
      have hzl := (hbs.2 p z hz).1
      have hbs' := hbs.arc hx (by omega) hz
      have hbor := bor z q (by omega) (by omega)
      have hl1 : (k : Int) < (a.length : Int) := by omega
      simp only at c0 c1
      obtain ⟨V1, V2, hV1, hV2, HzV2, hkV1, hkV2, hbV2, hltV2⟩ := fresh wr [.int .i64 0, .int .i64 0] [.int .i64 p, .int .i64 q] 177 rfl
      have hsV2 : (V1.setCell ⟨wr.heap.size, 0, none⟩ (.int .i64 p)).setCell ⟨wr.heap.size, 1, none⟩ (.int .i64 q) = V2 := hV2
      clear hV2
      obtain ⟨⟨z0, z1⟩, f0, f1⟩ := cells2 hkV1
      obtain ⟨⟨s0, s1⟩, _⟩ := cells2 hkV2
      clear hkV1
      have hr2 := hrow.below hbV2
      have hsz := hrow.lt
      have Hor := Lib.hid hbor
      have HBS' := Lib.hid hbs'
      clear hcc hx hbs hbs' hrow hbor
      go_wp2_with fail
      clear z0 z1 f0 f1 hsV2
      obtain ⟨d0, _⟩ := hr2.cell hz
      have hba : Below (V2).heap.size (V2) (V2).drew := (Below.refl _ _).drew
      obtain ⟨wa, hwa⟩ : ∃ W, (V2).drew = W := ⟨_, rfl⟩
      rw [hwa] at hba
      have HSt := Lib.hid fun (w9 : World) (hb : Below wa.heap.size wa w9) => (show (fun w' : World => Below wa.heap.size wa w' ∧ w'.cell? ⟨wr.heap.size, 0, none⟩ = some (.int .i64 p) ∧ w'.cell? ⟨wr.heap.size, 1, none⟩ = some (.int .i64 q) ∧ w'.cell? ⟨w.heap.size, p, none⟩ = some (.int .u32 z)) w9 from ⟨hb, cell_later hb (cell_later hba s0), cell_later hb (cell_later hba s1), cell_later hb (cell_later hba d0)⟩)
      have hHeld := HSt.out wa (Below.refl _ _)
      refine wp_region_S 10 (fun w' : World => Below wa.heap.size wa w' ∧ w'.cell? ⟨wr.heap.size, 0, none⟩ = some (.int .i64 p) ∧ w'.cell? ⟨wr.heap.size, 1, none⟩ = some (.int .i64 q) ∧ w'.cell? ⟨w.heap.size, p, none⟩ = some (.int .u32 z)) (by kernel_rfl) (by decide) ?_
      rw [hwa]
      clear hwa
      have hra := hr2.below hba
      obtain ⟨e0, g0⟩ := hra.cell hz
      have g1 : (p : Int) < (n : Int) := by omega
      have g2 : (0 : Int) ≤ (q : Int) := by omega
      refine wpAnyS_takeD 0 (some 16) (.slice (some ⟨w.heap.size, 0, none⟩) n n) (by rfl) (by rfl) (by kernel_rfl) (by exact fun _ _ _ h => h) (by rfl) (fun w' hS => by go_simp) hHeld ?_
      simp only [Act.put, List.setIfInBounds_toArray, List.set_cons_succ, List.set_cons_zero]
      refine wpAnyS_takeD 1 (some 17) (.pointer (some ⟨wr.heap.size, 0, none⟩)) (by rfl) (by rfl) (by kernel_rfl) (by exact fun _ _ _ h => h) (by rfl) (fun w' hS => by go_simp) hHeld ?_
      simp only [Act.put, List.setIfInBounds_toArray, List.set_cons_succ, List.set_cons_zero]
      refine wpAnyS_takeD 2 (some 18) (.int .i64 p) (by rfl) (by rfl) (by kernel_rfl) (by exact fun _ _ _ h => h) (by rfl) (fun w' hS => by (obtain ⟨_, x0, x1, x2⟩ := hS; go_simp)) hHeld ?_
      simp only [Act.put, List.setIfInBounds_toArray, List.set_cons_succ, List.set_cons_zero]
      refine wpAnyS_takeD 3 (some 19) (.pointer (some ⟨w.heap.size, p, none⟩)) (by rfl) (by rfl) (by kernel_rfl) (by exact fun _ _ _ h => h) (by rfl) (fun w' hS => by go_simp) hHeld ?_
      simp only [Act.put, List.setIfInBounds_toArray, List.set_cons_succ, List.set_cons_zero]
      refine wpAnyS_takeD 4 (some 20) (.int .u32 z) (by rfl) (by rfl) (by kernel_rfl) (by exact fun _ _ _ h => h) (by rfl) (fun w' hS => by (obtain ⟨_, x0, x1, x2⟩ := hS; go_simp)) hHeld ?_
      simp only [Act.put, List.setIfInBounds_toArray, List.set_cons_succ, List.set_cons_zero]
      refine wpAnyS_takeD 5 (some 21) (.pointer (some ⟨wr.heap.size, 1, none⟩)) (by rfl) (by rfl) (by kernel_rfl) (by exact fun _ _ _ h => h) (by rfl) (fun w' hS => by go_simp) hHeld ?_
      simp only [Act.put, List.setIfInBounds_toArray, List.set_cons_succ, List.set_cons_zero]
      refine wpAnyS_takeD 6 (some 22) (.int .i64 q) (by rfl) (by rfl) (by kernel_rfl) (by exact fun _ _ _ h => h) (by rfl) (fun w' hS => by (obtain ⟨_, x0, x1, x2⟩ := hS; go_simp)) hHeld ?_
      simp only [Act.put, List.setIfInBounds_toArray, List.set_cons_succ, List.set_cons_zero]
      refine wpAnyS_takeD 7 (some 23) (.int .u32 (IntKind.u32.wrap (2 ^ q))) (by rfl) (by rfl) (by kernel_rfl) (by exact fun _ _ _ h => h) (by rfl) (fun w' hS => by go_simp) hHeld ?_
      simp only [Act.put, List.setIfInBounds_toArray, List.set_cons_succ, List.set_cons_zero]
      refine wpAnyS_takeD 8 (some 24) (.int .u32 ((z ||| 2 ^ q : Nat) : Int)) (by rfl) (by rfl) (by kernel_rfl) (by exact fun _ _ _ h => h) (by rfl) (fun w' hS => by (rw [← Hor.out]; go_simp)) hHeld ?_
      simp only [Act.put, List.setIfInBounds_toArray, List.set_cons_succ, List.set_cons_zero]
      refine wpAnyS_takeD 9 (some 25) (.pointer (some ⟨w.heap.size, p, none⟩)) (by rfl) (by rfl) (by kernel_rfl) (by exact fun _ _ _ h => h) (by rfl) (fun w' hS => by go_simp) hHeld ?_
      simp only [Act.put, List.setIfInBounds_toArray, List.set_cons_succ, List.set_cons_zero]
      clear hHeld
      refine (show tailOf _ _ _ _ _ _ _ _ from ⟨by kernel_rfl, ?_⟩)
      simp only [List.drop_succ_cons, List.drop_zero]
      go_wp2_with fail
      refine ⟨?rel, ?measure⟩
      case rel => exact ⟨k + 1, _, by omega, by go_num, hra.set p _, HBS'.out, (below_trans hb (below_trans hbV2 hba)).grown (setCells_grown w.heap.size [.int .u32 ((z ||| 2 ^ q : Nat) : Int)] wa p) (by have := (below_trans hb (below_trans hbV2 hba)).size; omega) (fun j e => by cases e; exact Nat.le_refl _)⟩
      case measure => simp [intOf]; omega
    · have he : a.take k = a := List.take_of_length_le (by omega)
      rw [he] at hbs
      clear he
      go_wp2
      go_ret
      exact ⟨_, zs, rfl, hrow, hbs, Nat.le_refl _, hb⟩
theorem bor2 (z y : Nat) (hz : z < 4294967296) (hy : y < 4294967296) : bits .or .u32 (z : Int) (y : Int) = ((z ||| y : Nat) : Int) := Go.u32_or_nat _ _ hz hy
/-- Warshall's steps. -/
def warS (m i : Nat) (R : Nat → Nat → Bool) : Nat → Nat → Bool := fun a b => if a = i ∧ R i m = true then (R i b || R m b) else R a b
def warJ (m : Nat) (R : Nat → Nat → Bool) : Nat → Nat → Nat → Bool
  | 0 => R
  | i + 1 => warS m i (warJ m R i)
def warK (n : Nat) (R : Nat → Nat → Bool) : Nat → Nat → Nat → Bool
  | 0 => R
  | m + 1 => warJ m (warK n R m) n
theorem BS.yes {n : Nat} {zs : List Nat} {R : Nat → Nat → Bool} {m i z y : Nat} (h : BS n zs R) (hz : zs[i]? = some z) (hy : zs[m]? = some y) (ht : R i m = true) : BS n (zs.set i (z ||| y)) (warS m i R) := by
  refine ⟨by rw [List.length_set]; exact h.1, fun a u hu => ?_⟩
  obtain ⟨h1, h2⟩ := h.2 i z hz
  obtain ⟨h3, h4⟩ := h.2 m y hy
  by_cases e : i = a
  · subst e
    rw [List.getElem?_set_self (lt_of_get hz)] at hu
    cases hu
    refine ⟨Nat.or_lt_two_pow (n := 24) h1 h3, fun j => ?_⟩
    rw [Nat.testBit_or, h2, h4, warS, if_pos ⟨rfl, ht⟩]
  · rw [List.getElem?_set_ne e] at hu
    obtain ⟨h5, h6⟩ := h.2 a u hu
    exact ⟨h5, fun j => by rw [h6, warS, if_neg fun h => e h.1.symm]⟩
theorem BS.no {n : Nat} {zs : List Nat} {R : Nat → Nat → Bool} {m i : Nat} (h : BS n zs R) (ht : R i m = false) : BS n zs (warS m i R) :=
  ⟨h.1, fun a u hu => ⟨(h.2 a u hu).1, fun j => by rw [(h.2 a u hu).2, warS, if_neg fun h => by rw [ht] at h; cases h.2]⟩⟩
set_option maxHeartbeats 8000000 in
set_option maxRecDepth 100000 in
theorem reach_ok (n : Nat) (hn : n ≤ 24) (v : Value) (a : List Pair) (w : World) (h : Pairs w v a) (hin : ArIn n a) :
    Calls Tryz.prog 179 #[.int .i64 n, v] w fun e w' => ∃ g zs, e = .returned (.slice (some ⟨g, 0, none⟩) n n) ∧ RowU w' g zs ∧ BS n zs (warK n (arcB a) n) ∧ w.heap.size ≤ g ∧ Below w.heap.size w w' := by
  have HN := Lib.hid (next_ok n hn v a w h hin)
  obtain ⟨A, c, rfl, _⟩ := h.cells
  go_enter Tryz.func179, Tryz.ntmps179
  go_wp2_with fail
  refine HN.out.mono ?_
  rintro e w1 ⟨g, zs0, rfl, hr1, hbs1, hg, hb1⟩
  go_wp2_with fail
  go_loopw [12] (fun t wr => ∃ (m : Nat) (zs : List Nat), m ≤ n ∧ t = .int .i64 m ∧ RowU wr g zs ∧ BS n zs (warK n (arcB a) m) ∧ Below w.heap.size w wr) (fun t _ => n - (intOf t).toNat)
  case atStart => exact ⟨0, _, Nat.zero_le _, rfl, hr1, hbs1, hb1⟩
  case round =>
    obtain ⟨m, zs1, hm, rfl, hrow, hbs, hb⟩ := hrel
    by_cases hlt : m < n
    case neg =>
      have he : m = n := by omega
      subst he
      go_wp2
      go_ret
      exact ⟨_, zs1, rfl, hrow, hbs, hg, hb⟩
    have hl1 : (m : Int) < (n : Int) := by omega
    obtain ⟨wo, hwo0⟩ : ∃ z, z = wr := ⟨_, rfl⟩
    subst hwo0
    go_wp2_with fail
    go_loopw [16] (fun t wr => ∃ (i : Nat) (zs : List Nat), i ≤ n ∧ t = .int .i64 i ∧ RowU wr g zs ∧ BS n zs (warJ m (warK n (arcB a) m) i) ∧ Below w.heap.size w wr) (fun t _ => n - (intOf t).toNat)
    case atStart => exact ⟨0, _, Nat.zero_le _, rfl, hrow, hbs, hb⟩
    case round =>
      clear hrow hbs hb hr1 hbs1
      obtain ⟨i, zs, hi, rfl, hrow, hbs, hb⟩ := hrel
      by_cases hlt2 : i < n
      case neg =>
        have he : i = n := by omega
        subst he
        go_wp2
        refine ⟨?rel, ?measure⟩
        case rel => exact ⟨m + 1, zs, by omega, by go_num, hrow, hbs, hb⟩
        case measure => simp [intOf]; omega
      obtain ⟨z, hz⟩ := get_of_lt (show i < zs.length by rw [hbs.1]; exact hlt2)
      obtain ⟨y, hy⟩ := get_of_lt (show m < zs.length by rw [hbs.1]; exact hlt)
      have hzl := (hbs.2 i z hz).1
      have hyl := (hbs.2 m y hy).1
      have hl2 : (i : Int) < (n : Int) := by omega
      obtain ⟨d0, _⟩ := hrow.cell hz
      obtain ⟨d1, _⟩ := hrow.cell hy
      have HH := Lib.hid (pHas_ok z (by omega) m (by omega) wr)
      have hzt := (hbs.2 i z hz).2 m
      obtain ⟨T, hT⟩ : ∃ T, warJ m (warK n (arcB a) m) i i m = T := ⟨_, rfl⟩
      rw [hzt, hT] at HH
      have HBS := Lib.hid hbs; have Hrow := Lib.hid hrow; have HZ := Lib.hid hz; have HY := Lib.hid hy; have HT := Lib.hid hT
      clear hbs hrow hz hy hzt hT
      go_wp2_with fail
      refine HH.out.mono ?_
      rintro e w3 ⟨rfl, hb3⟩
      have hw3 := below_trans hb hb3
      have hr3 := Hrow.out.below hb3
      replace d0 := cell_later hb3 d0; replace d1 := cell_later hb3 d1
      cases T
      · have HB2 := Lib.hid (HBS.out.no HT.out)
        go_wp2_with fail
        refine ⟨?rel, ?measure⟩
        case rel => exact ⟨i + 1, zs, by omega, by go_num, hr3, HB2.out, hw3⟩
        case measure => simp [intOf]; omega
      have HB2 := Lib.hid (HBS.out.yes HZ.out HY.out HT.out)
      have Hor := Lib.hid (bor2 z y (by omega) (by omega))
      go_wp2_with fail
      have hba : Below (w3).heap.size (w3) (w3).drew := (Below.refl _ _).drew
      obtain ⟨wa, hwa⟩ : ∃ W, (w3).drew = W := ⟨_, rfl⟩
      rw [hwa] at hba
      have HSt := Lib.hid fun (w9 : World) (hb : Below wa.heap.size wa w9) => (show (fun w' : World => Below wa.heap.size wa w' ∧ w'.cell? ⟨g, i, none⟩ = some (.int .u32 z) ∧ w'.cell? ⟨g, m, none⟩ = some (.int .u32 y)) w9 from ⟨hb, cell_later hb (cell_later hba d0), cell_later hb (cell_later hba d1)⟩)
      have hHeld := HSt.out wa (Below.refl _ _)
      refine wp_region_S 10 (fun w' : World => Below wa.heap.size wa w' ∧ w'.cell? ⟨g, i, none⟩ = some (.int .u32 z) ∧ w'.cell? ⟨g, m, none⟩ = some (.int .u32 y)) (by kernel_rfl) (by decide) ?_
      rw [hwa]
      clear hwa
      have hra := hr3.below hba
      obtain ⟨e0, g0⟩ := hra.cell HZ.out
      refine wpAnyS_takeD 0 (some 25) (.slice (some ⟨g, 0, none⟩) n n) (by rfl) (by rfl) (by kernel_rfl) (by exact fun _ _ _ h => h) (by rfl) (fun w' hS => by go_simp) hHeld ?_
      simp only [Act.put, List.setIfInBounds_toArray, List.set_cons_succ, List.set_cons_zero]
      refine wpAnyS_takeD 1 (some 26) (.int .i64 i) (by rfl) (by rfl) (by kernel_rfl) (by exact fun _ _ _ h => h) (by rfl) (fun w' hS => by go_simp) hHeld ?_
      simp only [Act.put, List.setIfInBounds_toArray, List.set_cons_succ, List.set_cons_zero]
      refine wpAnyS_takeD 2 (some 27) (.pointer (some ⟨g, i, none⟩)) (by rfl) (by rfl) (by kernel_rfl) (by exact fun _ _ _ h => h) (by rfl) (fun w' hS => by go_simp) hHeld ?_
      simp only [Act.put, List.setIfInBounds_toArray, List.set_cons_succ, List.set_cons_zero]
      refine wpAnyS_takeD 3 (some 28) (.int .u32 z) (by rfl) (by rfl) (by kernel_rfl) (by exact fun _ _ _ h => h) (by rfl) (fun w' hS => by (obtain ⟨_, x0, x1⟩ := hS; go_simp)) hHeld ?_
      simp only [Act.put, List.setIfInBounds_toArray, List.set_cons_succ, List.set_cons_zero]
      refine wpAnyS_takeD 4 (some 29) (.slice (some ⟨g, 0, none⟩) n n) (by rfl) (by rfl) (by kernel_rfl) (by exact fun _ _ _ h => h) (by rfl) (fun w' hS => by go_simp) hHeld ?_
      simp only [Act.put, List.setIfInBounds_toArray, List.set_cons_succ, List.set_cons_zero]
      refine wpAnyS_takeD 5 (some 30) (.int .i64 m) (by rfl) (by rfl) (by kernel_rfl) (by exact fun _ _ _ h => h) (by rfl) (fun w' hS => by go_simp) hHeld ?_
      simp only [Act.put, List.setIfInBounds_toArray, List.set_cons_succ, List.set_cons_zero]
      refine wpAnyS_takeD 6 (some 31) (.pointer (some ⟨g, m, none⟩)) (by rfl) (by rfl) (by kernel_rfl) (by exact fun _ _ _ h => h) (by rfl) (fun w' hS => by go_simp) hHeld ?_
      simp only [Act.put, List.setIfInBounds_toArray, List.set_cons_succ, List.set_cons_zero]
      refine wpAnyS_takeD 7 (some 32) (.int .u32 y) (by rfl) (by rfl) (by kernel_rfl) (by exact fun _ _ _ h => h) (by rfl) (fun w' hS => by (obtain ⟨_, x0, x1⟩ := hS; go_simp)) hHeld ?_
      simp only [Act.put, List.setIfInBounds_toArray, List.set_cons_succ, List.set_cons_zero]
      refine wpAnyS_takeD 8 (some 33) (.int .u32 ((z ||| y : Nat) : Int)) (by rfl) (by rfl) (by kernel_rfl) (by exact fun _ _ _ h => h) (by rfl) (fun w' hS => by (rw [← Hor.out]; go_simp)) hHeld ?_
      simp only [Act.put, List.setIfInBounds_toArray, List.set_cons_succ, List.set_cons_zero]
      refine wpAnyS_takeD 9 (some 34) (.pointer (some ⟨g, i, none⟩)) (by rfl) (by rfl) (by kernel_rfl) (by exact fun _ _ _ h => h) (by rfl) (fun w' hS => by go_simp) hHeld ?_
      simp only [Act.put, List.setIfInBounds_toArray, List.set_cons_succ, List.set_cons_zero]
      clear hHeld
      refine (show tailOf _ _ _ _ _ _ _ _ from ⟨by kernel_rfl, ?_⟩)
      simp only [List.drop_succ_cons, List.drop_zero]
      go_wp2_with fail
      refine ⟨?rel, ?measure⟩
      case rel => exact ⟨i + 1, _, by omega, by go_num, hra.set i _, HB2.out, (below_trans hw3 hba).grown (setCells_grown g [.int .u32 ((z ||| y : Nat) : Int)] wa i) (by have := (below_trans hw3 hba).size; omega) (fun j e => by cases e; exact hg)⟩
      case measure => simp [intOf]; omega
def acyB (n : Nat) (R : Nat → Nat → Bool) : Bool := (List.range n).all fun i => !R i i
set_option maxHeartbeats 4000000 in
theorem acyc_ok (n g : Nat) (hn : n ≤ 24) (zs : List Nat) (R : Nat → Nat → Bool) (w : World) (h : RowU w g zs) (hbs : BS n zs R) :
    Calls Tryz.prog 178 #[.slice (some ⟨g, 0, none⟩) n n] w fun e w' => e = .returned (.bool (acyB n R)) ∧ Below w.heap.size w w' := by
  have HBS := Lib.hid hbs; have Hrow := Lib.hid h
  clear h hbs
  go_enter Tryz.func178, Tryz.ntmps178
  go_wp2_with fail
  go_loopw [7] (fun t wr => ∃ (i : Nat), i ≤ n ∧ t = .int .i64 i ∧ Hid (∀ k, k < i → R k k = false) ∧ Below w.heap.size w wr) (fun t _ => n - (intOf t).toNat)
  case atStart => exact ⟨0, Nat.zero_le _, rfl, Lib.hid fun k hk => by omega, Below.refl _ _⟩
  case round =>
    obtain ⟨i, hi, rfl, HA, hb⟩ := hrel
    by_cases hlt : i < n
    case neg =>
      have he : i = n := by omega
      subst he
      go_wp2
      go_ret
      exact ⟨ret_bool (by
        symm
        rw [acyB, List.all_eq_true]
        intro k hk
        rw [HA.out k (List.mem_range.1 hk)]
        rfl), hb⟩
    obtain ⟨z, hz⟩ := get_of_lt (show i < zs.length by rw [HBS.out.1]; exact hlt)
    have hl1 : (i : Int) < (n : Int) := by omega
    obtain ⟨d0, _⟩ := (Hrow.out.below hb).cell hz
    have hzl := (HBS.out.2 i z hz).1
    have HH := Lib.hid (pHas_ok z (by omega) i (by omega) wr)
    rw [(HBS.out.2 i z hz).2 i] at HH
    obtain ⟨T, hT⟩ : ∃ T, R i i = T := ⟨_, rfl⟩
    rw [hT] at HH
    have HT := Lib.hid hT
    clear hz hT
    go_wp2_with fail
    refine HH.out.mono ?_
    rintro e w3 ⟨rfl, hb3⟩
    cases T
    · go_wp2_with fail
      refine ⟨?rel, ?measure⟩
      case rel => exact ⟨i + 1, by omega, by go_num, Lib.hid fun k hk => (by
        by_cases e : k = i
        · rw [e]; exact HT.out
        · exact HA.out k (by omega)), below_trans hb hb3⟩
      case measure => simp [intOf]; omega
    · go_wp2_with fail
      go_ret
      refine ⟨ret_bool ?_, below_trans hb hb3⟩
      symm
      rw [acyB, Bool.eq_false_iff]
      intro h
      have := List.all_eq_true.1 h i (List.mem_range.2 hlt)
      rw [HT.out] at this
      cases this
end Go.Proofs.YthnckicnnhkkaaaGreat
