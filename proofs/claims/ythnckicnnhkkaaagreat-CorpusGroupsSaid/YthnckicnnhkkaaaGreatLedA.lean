/- Package decision: marks, Valid, compare. No condition. -/
import Derived.Test.YthnckicnnhkkaaaGreatLedM
import Derived.Test.YthnckicnnhkkaaaGreatShelf
import Derived.Test.YthnckicnnhkkaaaGreatTail
import Derived.Test.YthnckicnnhkkaaaGreatCovT
import Derived.BigRegion
import Derived.Deep.DeepCutAuto
import Derived.Test.YthnckicnnhkkaaaGreatPairA
import Derived.Test.YthnckicnnhkkaaaGreatShelfL
namespace Go.Proofs.YthnckicnnhkkaaaGreat
open Go.RowKit Go.Maps Go.Shelf

set_option maxHeartbeats 1000000 in
theorem din_ok (n lo hi : Int) (w : World) : Calls Tryz.prog 148 #[.int .i64 n, .int .i64 lo, .int .i64 hi] w fun e w' => e = .returned (.bool (rngB n lo hi)) ∧ w = w' := by
  unfold rngB
  cases h1 : decide (lo ≤ n)
  · go_enter Tryz.func148, Tryz.ntmps148
    go_wp2_with fail
    go_ret
    exact ⟨by simp, rfl⟩
  · cases h2 : decide (n ≤ hi)
    · go_enter Tryz.func148, Tryz.ntmps148
      go_wp2_with fail
      go_ret
      exact ⟨by simp, rfl⟩
    · go_enter Tryz.func148, Tryz.ntmps148
      go_wp2_with fail
      go_ret
      exact ⟨by simp, rfl⟩
theorem cellsM {w : World} {g : Nat} {a b : Value} {t : TypeId} (h : w.heap[g]? = some (.cells [a, b].toArray t (0, 0))) :
    (w.cell? ⟨g, 0, none⟩ = some a ∧ w.cell? ⟨g, 1, none⟩ = some b) ∧ w.frozen? ⟨g, 0, none⟩ = false ∧ w.frozen? ⟨g, 1, none⟩ = false :=
  ⟨⟨heap_cell h, heap_cell h⟩, heap_free h, heap_free h⟩
theorem cellsD5 {w : World} {g : Nat} {a b c d e : Value} {t : TypeId} (h : w.heap[g]? = some (.cells [a, b, c, d, e].toArray t (0, 0))) :
    (w.cell? ⟨g, 0, none⟩ = some a ∧ w.cell? ⟨g, 1, none⟩ = some b ∧ w.cell? ⟨g, 2, none⟩ = some c ∧ w.cell? ⟨g, 3, none⟩ = some d ∧ w.cell? ⟨g, 4, none⟩ = some e) ∧ w.frozen? ⟨g, 0, none⟩ = false ∧ w.frozen? ⟨g, 1, none⟩ = false ∧ w.frozen? ⟨g, 2, none⟩ = false ∧ w.frozen? ⟨g, 3, none⟩ = false ∧ w.frozen? ⟨g, 4, none⟩ = false :=
  ⟨⟨heap_cell h, heap_cell h, heap_cell h, heap_cell h, heap_cell h⟩, heap_free h, heap_free h, heap_free h, heap_free h, heap_free h⟩
set_option maxHeartbeats 1000000 in
theorem validMark_ok (m : Mrk) (w : World) : Calls Tryz.prog 114 #[.agg #[.int .i64 m.au, .int .i64 m.nu]] w fun e w' => e = .returned (.bool (mrkB m)) ∧ Below w.heap.size w w' := by
  obtain ⟨W, hW, HzW, hbW, hltW, _⟩ := boxed w #[.int .i64 (m).au, .int .i64 (m).nu] 35
  have hkW : (W).heap[(w).heap.size]? = some (.cells [.int .i64 (m).au, .int .i64 (m).nu].toArray 35 (0, 0)) := by rw [← hW]; exact heap_alloc_new _ _
  obtain ⟨⟨c0, c1⟩, _⟩ := cellsM hkW
  unfold mrkB
  have h1 := Lib.hid (din_ok m.au 0 7 W)
  have h2 := Lib.hid (din_ok m.nu 1 200 W)
  generalize rngB m.au 0 7 = A at h1 ⊢
  generalize rngB m.nu 1 200 = B at h2 ⊢
  clear hkW
  cases A
  · go_enter Tryz.func114, Tryz.ntmps114
    go_wp2_with fail
    refine h1.out.mono ?_
    rintro e w9 ⟨rfl, rfl⟩
    go_wp2_with fail
    go_ret
    exact ⟨by simp, hbW⟩
  · go_enter Tryz.func114, Tryz.ntmps114
    go_wp2_with fail
    refine h1.out.mono ?_
    rintro e w9 ⟨rfl, rfl⟩
    go_wp2_with fail
    refine h2.out.mono ?_
    rintro e w9 ⟨rfl, rfl⟩
    go_wp2_with fail
    go_ret
    exact ⟨by simp, hbW⟩
set_option maxHeartbeats 1000000 in
theorem dmark_ok (d : Dec) (w : World) : Calls Tryz.prog 67 #[.agg #[.int .i64 d.au, .int .i64 d.nu, .int .i64 d.ki, .int .i64 d.a, .int .i64 d.b]] w fun e w' => e = .returned (.agg #[.int .i64 d.au, .int .i64 d.nu]) ∧ Below w.heap.size w w' := by
  obtain ⟨W, hW, HzW, hbW, hltW, _⟩ := boxed w #[.int .i64 (d).au, .int .i64 (d).nu, .int .i64 (d).ki, .int .i64 (d).a, .int .i64 (d).b] 33
  have hkW : (W).heap[(w).heap.size]? = some (.cells [.int .i64 (d).au, .int .i64 (d).nu, .int .i64 (d).ki, .int .i64 (d).a, .int .i64 (d).b].toArray 33 (0, 0)) := by rw [← hW]; exact heap_alloc_new _ _
  obtain ⟨⟨c0, c1, c2, c3, c4⟩, _⟩ := cellsD5 hkW
  obtain ⟨X, hX, HzX, hbX, hltX, _⟩ := boxed W #[.int .i64 0, .int .i64 0] 35
  have hkX : X.heap[W.heap.size]? = some (.cells [.int .i64 0, .int .i64 0].toArray 35 (0, 0)) := by rw [← hX]; exact heap_alloc_new _ _
  have c0 := cell_later hbX c0; have c1 := cell_later hbX c1
  obtain ⟨⟨r0, r1⟩, f0, f1⟩ := cellsM hkX
  have hwX := below_trans hbW hbX
  have hz := hbW.size
  have Hk := Lib.hid hkX
  clear hkW hkX
  go_enter Tryz.func67, Tryz.ntmps67
  go_wp2_with fail
  exact bodyPost_ret (results_cell_row rfl _ _ W.heap.size 35 #[.int .i64 d.au, .int .i64 d.nu] (0, 0) _ (by simp) (heap_set2 Hk.out) Tryz.underlying35 rfl (by kernel_rfl)) rfl ⟨rfl, hwX.grown (setCells_grown W.heap.size [.int .i64 d.au, .int .i64 d.nu] X 0) hwX.size (fun j e => by cases e; exact hz)⟩
set_option maxHeartbeats 4000000 in
set_option maxRecDepth 100000 in
theorem dvalid1_ok (au nu a b : Int) (w : World) : Calls Tryz.prog 99 #[.agg #[.int .i64 au, .int .i64 nu, .int .i64 1, .int .i64 a, .int .i64 b]] w fun e w' => e = .returned (.bool (decB ⟨au, nu, 1, a, b⟩)) ∧ Below w.heap.size w w' := by
  obtain ⟨W, hW, HzW, hbW, hltW, _⟩ := boxed w #[.int .i64 au, .int .i64 nu, .int .i64 1, .int .i64 a, .int .i64 b] 33
  have hkW : W.heap[w.heap.size]? = some (.cells [.int .i64 au, .int .i64 nu, .int .i64 1, .int .i64 a, .int .i64 b].toArray 33 (0, 0)) := by rw [← hW]; exact heap_alloc_new _ _
  obtain ⟨⟨c0, c1, c2, c3, c4⟩, _⟩ := cellsD5 hkW
  have Hk := Lib.hid hkW
  have H1 := Lib.hid (dmark_ok ⟨au, nu, 1, a, b⟩ W)
  have H2 := Lib.hid fun W' => validMark_ok ⟨au, nu⟩ W'
  clear hkW
  have H3 := Lib.hid fun W' => din_ok a 1 999 W'
  have H4 := Lib.hid fun W' => din_ok b 1 999 W'
  have HR : Hid (decB ⟨au, nu, 1, a, b⟩ = (mrkB ⟨au, nu⟩ && rngB a 1 999 && rngB b 1 999 && (decide (a < b) || (false && decide (b < a))))) := Lib.hid (by simp [decB, mostI, mkOf])
  obtain ⟨A, hA⟩ : ∃ z, mrkB ⟨au, nu⟩ = z := ⟨_, rfl⟩
  obtain ⟨B, hB⟩ : ∃ z, rngB a 1 999 = z := ⟨_, rfl⟩
  obtain ⟨C, hC⟩ : ∃ z, rngB b 1 999 = z := ⟨_, rfl⟩
  rw [hA] at H2 HR
  rw [hB] at H3 HR
  rw [hC] at H4 HR
  clear hA hB hC
  cases A
  · go_enter Tryz.func99, Tryz.ntmps99
    go_wp2_with fail
    refine H1.out.mono ?_
    rintro e w1 ⟨rfl, hb1⟩
    go_wp2_with fail
    refine (H2.out w1).mono ?_
    rintro e w2 ⟨rfl, hb2⟩
    have hb12 := below_trans hb1 hb2
    obtain ⟨⟨c0, c1, c2, c3, c4⟩, _⟩ := cellsD5 (heap_below Hk.out hb12 (heap_lt Hk.out))
    have hw2 := below_trans hbW hb12
    go_wp2_with fail
    go_ret
    exact ⟨ret_bool (by rw [HR.out]; simp), hw2⟩
  cases B
  · go_enter Tryz.func99, Tryz.ntmps99
    go_wp2_with fail
    refine H1.out.mono ?_
    rintro e w1 ⟨rfl, hb1⟩
    go_wp2_with fail
    refine (H2.out w1).mono ?_
    rintro e w2 ⟨rfl, hb2⟩
    have hb12 := below_trans hb1 hb2
    obtain ⟨⟨c0, c1, c2, c3, c4⟩, _⟩ := cellsD5 (heap_below Hk.out hb12 (heap_lt Hk.out))
    have hw2 := below_trans hbW hb12
    go_wp2_with fail
    refine (H3.out _).mono ?_
    rintro e w9 ⟨rfl, rfl⟩
    go_wp2_with fail
    go_ret
    exact ⟨ret_bool (by rw [HR.out]; simp), hw2⟩
  cases C
  · go_enter Tryz.func99, Tryz.ntmps99
    go_wp2_with fail
    refine H1.out.mono ?_
    rintro e w1 ⟨rfl, hb1⟩
    go_wp2_with fail
    refine (H2.out w1).mono ?_
    rintro e w2 ⟨rfl, hb2⟩
    have hb12 := below_trans hb1 hb2
    obtain ⟨⟨c0, c1, c2, c3, c4⟩, _⟩ := cellsD5 (heap_below Hk.out hb12 (heap_lt Hk.out))
    have hw2 := below_trans hbW hb12
    go_wp2_with fail
    refine (H3.out _).mono ?_
    rintro e w9 ⟨rfl, rfl⟩
    go_wp2_with fail
    refine (H4.out _).mono ?_
    rintro e w9 ⟨rfl, rfl⟩
    go_wp2_with fail
    go_ret
    exact ⟨ret_bool (by rw [HR.out]; simp), hw2⟩
  cases h1 : decide (a < b)
  · cases h2 : decide (b < a)
    · go_enter Tryz.func99, Tryz.ntmps99
      go_wp2_with fail
      refine H1.out.mono ?_
      rintro e w1 ⟨rfl, hb1⟩
      go_wp2_with fail
      refine (H2.out w1).mono ?_
      rintro e w2 ⟨rfl, hb2⟩
      have hb12 := below_trans hb1 hb2
      obtain ⟨⟨c0, c1, c2, c3, c4⟩, _⟩ := cellsD5 (heap_below Hk.out hb12 (heap_lt Hk.out))
      have hw2 := below_trans hbW hb12
      go_wp2_with fail
      refine (H3.out _).mono ?_
      rintro e w9 ⟨rfl, rfl⟩
      go_wp2_with fail
      refine (H4.out _).mono ?_
      rintro e w9 ⟨rfl, rfl⟩
      go_wp2_with fail
      go_ret
      exact ⟨ret_bool (by rw [HR.out, h1, h2]; simp), hw2⟩
    · go_enter Tryz.func99, Tryz.ntmps99
      go_wp2_with fail
      refine H1.out.mono ?_
      rintro e w1 ⟨rfl, hb1⟩
      go_wp2_with fail
      refine (H2.out w1).mono ?_
      rintro e w2 ⟨rfl, hb2⟩
      have hb12 := below_trans hb1 hb2
      obtain ⟨⟨c0, c1, c2, c3, c4⟩, _⟩ := cellsD5 (heap_below Hk.out hb12 (heap_lt Hk.out))
      have hw2 := below_trans hbW hb12
      go_wp2_with fail
      refine (H3.out _).mono ?_
      rintro e w9 ⟨rfl, rfl⟩
      go_wp2_with fail
      refine (H4.out _).mono ?_
      rintro e w9 ⟨rfl, rfl⟩
      go_wp2_with fail
      go_ret
      exact ⟨ret_bool (by rw [HR.out, h1, h2]; simp), hw2⟩
  · go_enter Tryz.func99, Tryz.ntmps99
    go_wp2_with fail
    refine H1.out.mono ?_
    rintro e w1 ⟨rfl, hb1⟩
    go_wp2_with fail
    refine (H2.out w1).mono ?_
    rintro e w2 ⟨rfl, hb2⟩
    have hb12 := below_trans hb1 hb2
    obtain ⟨⟨c0, c1, c2, c3, c4⟩, _⟩ := cellsD5 (heap_below Hk.out hb12 (heap_lt Hk.out))
    have hw2 := below_trans hbW hb12
    go_wp2_with fail
    refine (H3.out _).mono ?_
    rintro e w9 ⟨rfl, rfl⟩
    go_wp2_with fail
    refine (H4.out _).mono ?_
    rintro e w9 ⟨rfl, rfl⟩
    go_wp2_with fail
    go_ret
    exact ⟨ret_bool (by rw [HR.out, h1]; simp), hw2⟩
set_option maxHeartbeats 4000000 in
set_option maxRecDepth 100000 in
theorem dvalid2_ok (au nu a b : Int) (w : World) : Calls Tryz.prog 99 #[.agg #[.int .i64 au, .int .i64 nu, .int .i64 2, .int .i64 a, .int .i64 b]] w fun e w' => e = .returned (.bool (decB ⟨au, nu, 2, a, b⟩)) ∧ Below w.heap.size w w' := by
  obtain ⟨W, hW, HzW, hbW, hltW, _⟩ := boxed w #[.int .i64 au, .int .i64 nu, .int .i64 2, .int .i64 a, .int .i64 b] 33
  have hkW : W.heap[w.heap.size]? = some (.cells [.int .i64 au, .int .i64 nu, .int .i64 2, .int .i64 a, .int .i64 b].toArray 33 (0, 0)) := by rw [← hW]; exact heap_alloc_new _ _
  obtain ⟨⟨c0, c1, c2, c3, c4⟩, _⟩ := cellsD5 hkW
  have Hk := Lib.hid hkW
  have H1 := Lib.hid (dmark_ok ⟨au, nu, 2, a, b⟩ W)
  have H2 := Lib.hid fun W' => validMark_ok ⟨au, nu⟩ W'
  clear hkW
  have H3 := Lib.hid fun W' => din_ok a 1 999 W'
  have H4 := Lib.hid fun W' => din_ok b 1 999 W'
  have HR : Hid (decB ⟨au, nu, 2, a, b⟩ = (mrkB ⟨au, nu⟩ && rngB a 1 999 && rngB b 1 999 && (decide (a < b) || (false && decide (b < a))))) := Lib.hid (by simp [decB, mostI, mkOf])
  obtain ⟨A, hA⟩ : ∃ z, mrkB ⟨au, nu⟩ = z := ⟨_, rfl⟩
  obtain ⟨B, hB⟩ : ∃ z, rngB a 1 999 = z := ⟨_, rfl⟩
  obtain ⟨C, hC⟩ : ∃ z, rngB b 1 999 = z := ⟨_, rfl⟩
  rw [hA] at H2 HR
  rw [hB] at H3 HR
  rw [hC] at H4 HR
  clear hA hB hC
  cases A
  · go_enter Tryz.func99, Tryz.ntmps99
    go_wp2_with fail
    refine H1.out.mono ?_
    rintro e w1 ⟨rfl, hb1⟩
    go_wp2_with fail
    refine (H2.out w1).mono ?_
    rintro e w2 ⟨rfl, hb2⟩
    have hb12 := below_trans hb1 hb2
    obtain ⟨⟨c0, c1, c2, c3, c4⟩, _⟩ := cellsD5 (heap_below Hk.out hb12 (heap_lt Hk.out))
    have hw2 := below_trans hbW hb12
    go_wp2_with fail
    go_ret
    exact ⟨ret_bool (by rw [HR.out]; simp), hw2⟩
  cases B
  · go_enter Tryz.func99, Tryz.ntmps99
    go_wp2_with fail
    refine H1.out.mono ?_
    rintro e w1 ⟨rfl, hb1⟩
    go_wp2_with fail
    refine (H2.out w1).mono ?_
    rintro e w2 ⟨rfl, hb2⟩
    have hb12 := below_trans hb1 hb2
    obtain ⟨⟨c0, c1, c2, c3, c4⟩, _⟩ := cellsD5 (heap_below Hk.out hb12 (heap_lt Hk.out))
    have hw2 := below_trans hbW hb12
    go_wp2_with fail
    refine (H3.out _).mono ?_
    rintro e w9 ⟨rfl, rfl⟩
    go_wp2_with fail
    go_ret
    exact ⟨ret_bool (by rw [HR.out]; simp), hw2⟩
  cases C
  · go_enter Tryz.func99, Tryz.ntmps99
    go_wp2_with fail
    refine H1.out.mono ?_
    rintro e w1 ⟨rfl, hb1⟩
    go_wp2_with fail
    refine (H2.out w1).mono ?_
    rintro e w2 ⟨rfl, hb2⟩
    have hb12 := below_trans hb1 hb2
    obtain ⟨⟨c0, c1, c2, c3, c4⟩, _⟩ := cellsD5 (heap_below Hk.out hb12 (heap_lt Hk.out))
    have hw2 := below_trans hbW hb12
    go_wp2_with fail
    refine (H3.out _).mono ?_
    rintro e w9 ⟨rfl, rfl⟩
    go_wp2_with fail
    refine (H4.out _).mono ?_
    rintro e w9 ⟨rfl, rfl⟩
    go_wp2_with fail
    go_ret
    exact ⟨ret_bool (by rw [HR.out]; simp), hw2⟩
  cases h1 : decide (a < b)
  · cases h2 : decide (b < a)
    · go_enter Tryz.func99, Tryz.ntmps99
      go_wp2_with fail
      refine H1.out.mono ?_
      rintro e w1 ⟨rfl, hb1⟩
      go_wp2_with fail
      refine (H2.out w1).mono ?_
      rintro e w2 ⟨rfl, hb2⟩
      have hb12 := below_trans hb1 hb2
      obtain ⟨⟨c0, c1, c2, c3, c4⟩, _⟩ := cellsD5 (heap_below Hk.out hb12 (heap_lt Hk.out))
      have hw2 := below_trans hbW hb12
      go_wp2_with fail
      refine (H3.out _).mono ?_
      rintro e w9 ⟨rfl, rfl⟩
      go_wp2_with fail
      refine (H4.out _).mono ?_
      rintro e w9 ⟨rfl, rfl⟩
      go_wp2_with fail
      go_ret
      exact ⟨ret_bool (by rw [HR.out, h1, h2]; simp), hw2⟩
    · go_enter Tryz.func99, Tryz.ntmps99
      go_wp2_with fail
      refine H1.out.mono ?_
      rintro e w1 ⟨rfl, hb1⟩
      go_wp2_with fail
      refine (H2.out w1).mono ?_
      rintro e w2 ⟨rfl, hb2⟩
      have hb12 := below_trans hb1 hb2
      obtain ⟨⟨c0, c1, c2, c3, c4⟩, _⟩ := cellsD5 (heap_below Hk.out hb12 (heap_lt Hk.out))
      have hw2 := below_trans hbW hb12
      go_wp2_with fail
      refine (H3.out _).mono ?_
      rintro e w9 ⟨rfl, rfl⟩
      go_wp2_with fail
      refine (H4.out _).mono ?_
      rintro e w9 ⟨rfl, rfl⟩
      go_wp2_with fail
      go_ret
      exact ⟨ret_bool (by rw [HR.out, h1, h2]; simp), hw2⟩
  · go_enter Tryz.func99, Tryz.ntmps99
    go_wp2_with fail
    refine H1.out.mono ?_
    rintro e w1 ⟨rfl, hb1⟩
    go_wp2_with fail
    refine (H2.out w1).mono ?_
    rintro e w2 ⟨rfl, hb2⟩
    have hb12 := below_trans hb1 hb2
    obtain ⟨⟨c0, c1, c2, c3, c4⟩, _⟩ := cellsD5 (heap_below Hk.out hb12 (heap_lt Hk.out))
    have hw2 := below_trans hbW hb12
    go_wp2_with fail
    refine (H3.out _).mono ?_
    rintro e w9 ⟨rfl, rfl⟩
    go_wp2_with fail
    refine (H4.out _).mono ?_
    rintro e w9 ⟨rfl, rfl⟩
    go_wp2_with fail
    go_ret
    exact ⟨ret_bool (by rw [HR.out, h1]; simp), hw2⟩
set_option maxHeartbeats 4000000 in
set_option maxRecDepth 100000 in
theorem dvalid3_ok (au nu a b : Int) (w : World) : Calls Tryz.prog 99 #[.agg #[.int .i64 au, .int .i64 nu, .int .i64 3, .int .i64 a, .int .i64 b]] w fun e w' => e = .returned (.bool (decB ⟨au, nu, 3, a, b⟩)) ∧ Below w.heap.size w w' := by
  obtain ⟨W, hW, HzW, hbW, hltW, _⟩ := boxed w #[.int .i64 au, .int .i64 nu, .int .i64 3, .int .i64 a, .int .i64 b] 33
  have hkW : W.heap[w.heap.size]? = some (.cells [.int .i64 au, .int .i64 nu, .int .i64 3, .int .i64 a, .int .i64 b].toArray 33 (0, 0)) := by rw [← hW]; exact heap_alloc_new _ _
  obtain ⟨⟨c0, c1, c2, c3, c4⟩, _⟩ := cellsD5 hkW
  have Hk := Lib.hid hkW
  have H1 := Lib.hid (dmark_ok ⟨au, nu, 3, a, b⟩ W)
  have H2 := Lib.hid fun W' => validMark_ok ⟨au, nu⟩ W'
  clear hkW
  have H3 := Lib.hid fun W' => din_ok a 1 9999 W'
  have H4 := Lib.hid fun W' => din_ok b 1 9999 W'
  have HR : Hid (decB ⟨au, nu, 3, a, b⟩ = (mrkB ⟨au, nu⟩ && rngB a 1 9999 && rngB b 1 9999 && (decide (a < b) || (true && decide (b < a))))) := Lib.hid (by simp [decB, mostI, mkOf])
  obtain ⟨A, hA⟩ : ∃ z, mrkB ⟨au, nu⟩ = z := ⟨_, rfl⟩
  obtain ⟨B, hB⟩ : ∃ z, rngB a 1 9999 = z := ⟨_, rfl⟩
  obtain ⟨C, hC⟩ : ∃ z, rngB b 1 9999 = z := ⟨_, rfl⟩
  rw [hA] at H2 HR
  rw [hB] at H3 HR
  rw [hC] at H4 HR
  clear hA hB hC
  cases A
  · go_enter Tryz.func99, Tryz.ntmps99
    go_wp2_with fail
    refine H1.out.mono ?_
    rintro e w1 ⟨rfl, hb1⟩
    go_wp2_with fail
    refine (H2.out w1).mono ?_
    rintro e w2 ⟨rfl, hb2⟩
    have hb12 := below_trans hb1 hb2
    obtain ⟨⟨c0, c1, c2, c3, c4⟩, _⟩ := cellsD5 (heap_below Hk.out hb12 (heap_lt Hk.out))
    have hw2 := below_trans hbW hb12
    go_wp2_with fail
    go_ret
    exact ⟨ret_bool (by rw [HR.out]; simp), hw2⟩
  cases B
  · go_enter Tryz.func99, Tryz.ntmps99
    go_wp2_with fail
    refine H1.out.mono ?_
    rintro e w1 ⟨rfl, hb1⟩
    go_wp2_with fail
    refine (H2.out w1).mono ?_
    rintro e w2 ⟨rfl, hb2⟩
    have hb12 := below_trans hb1 hb2
    obtain ⟨⟨c0, c1, c2, c3, c4⟩, _⟩ := cellsD5 (heap_below Hk.out hb12 (heap_lt Hk.out))
    have hw2 := below_trans hbW hb12
    go_wp2_with fail
    refine (H3.out _).mono ?_
    rintro e w9 ⟨rfl, rfl⟩
    go_wp2_with fail
    go_ret
    exact ⟨ret_bool (by rw [HR.out]; simp), hw2⟩
  cases C
  · go_enter Tryz.func99, Tryz.ntmps99
    go_wp2_with fail
    refine H1.out.mono ?_
    rintro e w1 ⟨rfl, hb1⟩
    go_wp2_with fail
    refine (H2.out w1).mono ?_
    rintro e w2 ⟨rfl, hb2⟩
    have hb12 := below_trans hb1 hb2
    obtain ⟨⟨c0, c1, c2, c3, c4⟩, _⟩ := cellsD5 (heap_below Hk.out hb12 (heap_lt Hk.out))
    have hw2 := below_trans hbW hb12
    go_wp2_with fail
    refine (H3.out _).mono ?_
    rintro e w9 ⟨rfl, rfl⟩
    go_wp2_with fail
    refine (H4.out _).mono ?_
    rintro e w9 ⟨rfl, rfl⟩
    go_wp2_with fail
    go_ret
    exact ⟨ret_bool (by rw [HR.out]; simp), hw2⟩
  cases h1 : decide (a < b)
  · cases h2 : decide (b < a)
    · go_enter Tryz.func99, Tryz.ntmps99
      go_wp2_with fail
      refine H1.out.mono ?_
      rintro e w1 ⟨rfl, hb1⟩
      go_wp2_with fail
      refine (H2.out w1).mono ?_
      rintro e w2 ⟨rfl, hb2⟩
      have hb12 := below_trans hb1 hb2
      obtain ⟨⟨c0, c1, c2, c3, c4⟩, _⟩ := cellsD5 (heap_below Hk.out hb12 (heap_lt Hk.out))
      have hw2 := below_trans hbW hb12
      go_wp2_with fail
      refine (H3.out _).mono ?_
      rintro e w9 ⟨rfl, rfl⟩
      go_wp2_with fail
      refine (H4.out _).mono ?_
      rintro e w9 ⟨rfl, rfl⟩
      go_wp2_with fail
      go_ret
      exact ⟨ret_bool (by rw [HR.out, h1, h2]; simp), hw2⟩
    · go_enter Tryz.func99, Tryz.ntmps99
      go_wp2_with fail
      refine H1.out.mono ?_
      rintro e w1 ⟨rfl, hb1⟩
      go_wp2_with fail
      refine (H2.out w1).mono ?_
      rintro e w2 ⟨rfl, hb2⟩
      have hb12 := below_trans hb1 hb2
      obtain ⟨⟨c0, c1, c2, c3, c4⟩, _⟩ := cellsD5 (heap_below Hk.out hb12 (heap_lt Hk.out))
      have hw2 := below_trans hbW hb12
      go_wp2_with fail
      refine (H3.out _).mono ?_
      rintro e w9 ⟨rfl, rfl⟩
      go_wp2_with fail
      refine (H4.out _).mono ?_
      rintro e w9 ⟨rfl, rfl⟩
      go_wp2_with fail
      go_ret
      exact ⟨ret_bool (by rw [HR.out, h1, h2]; simp), hw2⟩
  · go_enter Tryz.func99, Tryz.ntmps99
    go_wp2_with fail
    refine H1.out.mono ?_
    rintro e w1 ⟨rfl, hb1⟩
    go_wp2_with fail
    refine (H2.out w1).mono ?_
    rintro e w2 ⟨rfl, hb2⟩
    have hb12 := below_trans hb1 hb2
    obtain ⟨⟨c0, c1, c2, c3, c4⟩, _⟩ := cellsD5 (heap_below Hk.out hb12 (heap_lt Hk.out))
    have hw2 := below_trans hbW hb12
    go_wp2_with fail
    refine (H3.out _).mono ?_
    rintro e w9 ⟨rfl, rfl⟩
    go_wp2_with fail
    refine (H4.out _).mono ?_
    rintro e w9 ⟨rfl, rfl⟩
    go_wp2_with fail
    go_ret
    exact ⟨ret_bool (by rw [HR.out, h1]; simp), hw2⟩
set_option maxHeartbeats 4000000 in
set_option maxRecDepth 100000 in
theorem dvalid4_ok (au nu a b : Int) (w : World) : Calls Tryz.prog 99 #[.agg #[.int .i64 au, .int .i64 nu, .int .i64 4, .int .i64 a, .int .i64 b]] w fun e w' => e = .returned (.bool (decB ⟨au, nu, 4, a, b⟩)) ∧ Below w.heap.size w w' := by
  obtain ⟨W, hW, HzW, hbW, hltW, _⟩ := boxed w #[.int .i64 au, .int .i64 nu, .int .i64 4, .int .i64 a, .int .i64 b] 33
  have hkW : W.heap[w.heap.size]? = some (.cells [.int .i64 au, .int .i64 nu, .int .i64 4, .int .i64 a, .int .i64 b].toArray 33 (0, 0)) := by rw [← hW]; exact heap_alloc_new _ _
  obtain ⟨⟨c0, c1, c2, c3, c4⟩, _⟩ := cellsD5 hkW
  have Hk := Lib.hid hkW
  have H1 := Lib.hid (dmark_ok ⟨au, nu, 4, a, b⟩ W)
  have H2 := Lib.hid fun W' => validMark_ok ⟨au, nu⟩ W'
  clear hkW
  have H3 := Lib.hid fun W' => din_ok a 1 9999 W'
  have H4 := Lib.hid fun W' => din_ok b 1 9999 W'
  have HR : Hid (decB ⟨au, nu, 4, a, b⟩ = (mrkB ⟨au, nu⟩ && rngB a 1 9999 && rngB b 1 9999 && (decide (a < b) || (false && decide (b < a))))) := Lib.hid (by simp [decB, mostI, mkOf])
  obtain ⟨A, hA⟩ : ∃ z, mrkB ⟨au, nu⟩ = z := ⟨_, rfl⟩
  obtain ⟨B, hB⟩ : ∃ z, rngB a 1 9999 = z := ⟨_, rfl⟩
  obtain ⟨C, hC⟩ : ∃ z, rngB b 1 9999 = z := ⟨_, rfl⟩
  rw [hA] at H2 HR
  rw [hB] at H3 HR
  rw [hC] at H4 HR
  clear hA hB hC
  cases A
  · go_enter Tryz.func99, Tryz.ntmps99
    go_wp2_with fail
    refine H1.out.mono ?_
    rintro e w1 ⟨rfl, hb1⟩
    go_wp2_with fail
    refine (H2.out w1).mono ?_
    rintro e w2 ⟨rfl, hb2⟩
    have hb12 := below_trans hb1 hb2
    obtain ⟨⟨c0, c1, c2, c3, c4⟩, _⟩ := cellsD5 (heap_below Hk.out hb12 (heap_lt Hk.out))
    have hw2 := below_trans hbW hb12
    go_wp2_with fail
    go_ret
    exact ⟨ret_bool (by rw [HR.out]; simp), hw2⟩
  cases B
  · go_enter Tryz.func99, Tryz.ntmps99
    go_wp2_with fail
    refine H1.out.mono ?_
    rintro e w1 ⟨rfl, hb1⟩
    go_wp2_with fail
    refine (H2.out w1).mono ?_
    rintro e w2 ⟨rfl, hb2⟩
    have hb12 := below_trans hb1 hb2
    obtain ⟨⟨c0, c1, c2, c3, c4⟩, _⟩ := cellsD5 (heap_below Hk.out hb12 (heap_lt Hk.out))
    have hw2 := below_trans hbW hb12
    go_wp2_with fail
    refine (H3.out _).mono ?_
    rintro e w9 ⟨rfl, rfl⟩
    go_wp2_with fail
    go_ret
    exact ⟨ret_bool (by rw [HR.out]; simp), hw2⟩
  cases C
  · go_enter Tryz.func99, Tryz.ntmps99
    go_wp2_with fail
    refine H1.out.mono ?_
    rintro e w1 ⟨rfl, hb1⟩
    go_wp2_with fail
    refine (H2.out w1).mono ?_
    rintro e w2 ⟨rfl, hb2⟩
    have hb12 := below_trans hb1 hb2
    obtain ⟨⟨c0, c1, c2, c3, c4⟩, _⟩ := cellsD5 (heap_below Hk.out hb12 (heap_lt Hk.out))
    have hw2 := below_trans hbW hb12
    go_wp2_with fail
    refine (H3.out _).mono ?_
    rintro e w9 ⟨rfl, rfl⟩
    go_wp2_with fail
    refine (H4.out _).mono ?_
    rintro e w9 ⟨rfl, rfl⟩
    go_wp2_with fail
    go_ret
    exact ⟨ret_bool (by rw [HR.out]; simp), hw2⟩
  cases h1 : decide (a < b)
  · cases h2 : decide (b < a)
    · go_enter Tryz.func99, Tryz.ntmps99
      go_wp2_with fail
      refine H1.out.mono ?_
      rintro e w1 ⟨rfl, hb1⟩
      go_wp2_with fail
      refine (H2.out w1).mono ?_
      rintro e w2 ⟨rfl, hb2⟩
      have hb12 := below_trans hb1 hb2
      obtain ⟨⟨c0, c1, c2, c3, c4⟩, _⟩ := cellsD5 (heap_below Hk.out hb12 (heap_lt Hk.out))
      have hw2 := below_trans hbW hb12
      go_wp2_with fail
      refine (H3.out _).mono ?_
      rintro e w9 ⟨rfl, rfl⟩
      go_wp2_with fail
      refine (H4.out _).mono ?_
      rintro e w9 ⟨rfl, rfl⟩
      go_wp2_with fail
      go_ret
      exact ⟨ret_bool (by rw [HR.out, h1, h2]; simp), hw2⟩
    · go_enter Tryz.func99, Tryz.ntmps99
      go_wp2_with fail
      refine H1.out.mono ?_
      rintro e w1 ⟨rfl, hb1⟩
      go_wp2_with fail
      refine (H2.out w1).mono ?_
      rintro e w2 ⟨rfl, hb2⟩
      have hb12 := below_trans hb1 hb2
      obtain ⟨⟨c0, c1, c2, c3, c4⟩, _⟩ := cellsD5 (heap_below Hk.out hb12 (heap_lt Hk.out))
      have hw2 := below_trans hbW hb12
      go_wp2_with fail
      refine (H3.out _).mono ?_
      rintro e w9 ⟨rfl, rfl⟩
      go_wp2_with fail
      refine (H4.out _).mono ?_
      rintro e w9 ⟨rfl, rfl⟩
      go_wp2_with fail
      go_ret
      exact ⟨ret_bool (by rw [HR.out, h1, h2]; simp), hw2⟩
  · go_enter Tryz.func99, Tryz.ntmps99
    go_wp2_with fail
    refine H1.out.mono ?_
    rintro e w1 ⟨rfl, hb1⟩
    go_wp2_with fail
    refine (H2.out w1).mono ?_
    rintro e w2 ⟨rfl, hb2⟩
    have hb12 := below_trans hb1 hb2
    obtain ⟨⟨c0, c1, c2, c3, c4⟩, _⟩ := cellsD5 (heap_below Hk.out hb12 (heap_lt Hk.out))
    have hw2 := below_trans hbW hb12
    go_wp2_with fail
    refine (H3.out _).mono ?_
    rintro e w9 ⟨rfl, rfl⟩
    go_wp2_with fail
    refine (H4.out _).mono ?_
    rintro e w9 ⟨rfl, rfl⟩
    go_wp2_with fail
    go_ret
    exact ⟨ret_bool (by rw [HR.out, h1]; simp), hw2⟩
set_option maxHeartbeats 4000000 in
theorem dvalid_ok (d : Dec) (w : World) : Calls Tryz.prog 99 #[.agg #[.int .i64 d.au, .int .i64 d.nu, .int .i64 d.ki, .int .i64 d.a, .int .i64 d.b]] w fun e w' => e = .returned (.bool (decB d)) ∧ Below w.heap.size w w' := by
  obtain ⟨au, nu, ki, a, b⟩ := d
  by_cases k1 : ki = 1
  · subst k1; exact dvalid1_ok au nu a b w
  by_cases k2 : ki = 2
  · subst k2; exact dvalid2_ok au nu a b w
  by_cases k3 : ki = 3
  · subst k3; exact dvalid3_ok au nu a b w
  by_cases k4 : ki = 4
  · subst k4; exact dvalid4_ok au nu a b w
  have HR : Hid (decB ⟨au, nu, ki, a, b⟩ = false) := Lib.hid (by simp [decB, k1, k2, k3, k4])
  have t1 : (ki == 1) = false := by simpa using k1
  have t2 : (ki == 2) = false := by simpa using k2
  have t3 : (ki == 3) = false := by simpa using k3
  have t4 : (ki == 4) = false := by simpa using k4
  obtain ⟨W, hW, HzW, hbW, hltW, _⟩ := boxed w #[.int .i64 au, .int .i64 nu, .int .i64 ki, .int .i64 a, .int .i64 b] 33
  have hkW : W.heap[w.heap.size]? = some (.cells [.int .i64 au, .int .i64 nu, .int .i64 ki, .int .i64 a, .int .i64 b].toArray 33 (0, 0)) := by rw [← hW]; exact heap_alloc_new _ _
  obtain ⟨⟨c0, c1, c2, c3, c4⟩, _⟩ := cellsD5 hkW
  clear hkW k1 k2 k3 k4
  go_enter Tryz.func99, Tryz.ntmps99
  go_wp2_with fail
  go_ret
  exact ⟨ret_bool HR.out.symm, hbW⟩
end Go.Proofs.YthnckicnnhkkaaaGreat
/- A ledger in memory; Make and Withdraw. Condition: the ledger reads as such. -/
namespace Go.Proofs.YthnckicnnhkkaaaGreat
open Go.RowKit Go.Maps Go.Shelf

theorem eqlDec (a0 a1 a2 a3 a4 b0 b1 b2 b3 b4 : Int) (w : World) : (binOp .eql 33 (.agg #[.int .i64 a0, .int .i64 a1, .int .i64 a2, .int .i64 a3, .int .i64 a4]) (.agg #[.int .i64 b0, .int .i64 b1, .int .i64 b2, .int .i64 b3, .int .i64 b4])).run Tryz.prog w =
    .ok (.bool (decide ((⟨a0, a1, a2, a3, a4⟩ : Dec) = ⟨b0, b1, b2, b3, b4⟩))) w := by
  have uI := Tryz.underlying3
  have aI := Tryz.isAgg3
  have hS : Tryz.prog.underlying 33 = some (.struct (Tryz.prog.fieldsOf 33)) := by kernel_rfl
  have hp : Tryz.prog.stoodInHeld 33 = false := by kernel_rfl
  rw [run_eql_struct, show (10000 : Nat) = 9999 + 1 from rfl, run_equalIn_agg w 9999 33 _ _ hS hp]
  simp only [Program.fieldsOf, Tryz.underlying33]
  go_simp
  by_cases h0 : a0 = b0 <;> by_cases h1 : a1 = b1 <;> by_cases h2 : a2 = b2 <;> by_cases h3 : a3 = b3 <;> by_cases h4 : a4 = b4 <;> simp [h0, h1, h2, h3, h4]
theorem eqlDec_ (x y : Dec) (w : World) : (binOp .eql 33 (.agg #[.int .i64 x.au, .int .i64 x.nu, .int .i64 x.ki, .int .i64 x.a, .int .i64 x.b]) (.agg #[.int .i64 y.au, .int .i64 y.nu, .int .i64 y.ki, .int .i64 y.a, .int .i64 y.b])).run Tryz.prog w = .ok (.bool (eqB x y)) w := eqlDec _ _ _ _ _ _ _ _ _ _ w
/-- A ledger: its block, its two maps, and what it holds. -/
structure LedAt (w : World) (q mb wb : Nat) (D : List Dec) (W : List Mrk) : Prop where
  row : w.heap[q]? = some (.cells [.map (some mb), .map (some wb)].toArray 100 (0, 0))
  made : ∃ m, MapDc w mb m ∧ (m.map Prod.snd).Perm D ∧ ∀ p ∈ m, p.1 = mkOf p.2
  gone : ∃ s, MapMk w wb s ∧ (s.map Prod.fst).Perm W ∧ ∀ p ∈ s, p.2 = true
  srtD : SrtD D
  srtW : SrtM W
  ne : q ≠ mb ∧ q ≠ wb ∧ mb ≠ wb
section
variable {m : List (Mrk × Dec)} {s : List (Mrk × Bool)} {D : List Dec} {W : List Mrk} {x : Mrk}
theorem look_made (hn : (m.map Prod.fst).Nodup) (hp : (m.map Prod.snd).Perm D) (hk : ∀ p ∈ m, p.1 = mkOf p.2) (x : Mrk) : lookM m x = findD D x := by
  cases h : findD D x with
  | none =>
    refine lookM_none.2 fun hm => ?_
    obtain ⟨p, h1, rfl⟩ := List.mem_map.1 hm
    exact find_none.1 h p.2 (hp.subset (List.mem_map.2 ⟨p, h1, rfl⟩)) (hk p h1).symm
  | some o =>
    obtain ⟨h1, h2⟩ := find_some h
    obtain ⟨p, h3, h4⟩ := List.mem_map.1 (hp.symm.subset h1)
    have h5 := hk p h3
    refine (lookM_mem hn).2 ?_
    have : p = (x, o) := by
      rw [← h2, ← h4, ← h5]
    rwa [this] at h3
theorem putM_new (h : x ∉ m.map Prod.fst) (d : Dec) : putM m x d = m ++ [(x, d)] := by
  induction m with
  | nil => rfl
  | cons p m ih =>
    simp only [List.map_cons, List.mem_cons, not_or] at h
    rw [putM, if_neg (fun e => h.1 e.symm), ih h.2]
    rfl
theorem srtD_nodup (h : SrtD D) : D.Nodup := h.imp fun {a b} hab e => by subst e; exact mkLt_irrefl _ hab
theorem put_made (hp : (m.map Prod.snd).Perm D) (hs : SrtD D) {d : Dec} (hf : findD D (mkOf d) = none) : ((m ++ [(mkOf d, d)]).map Prod.snd).Perm (insF mkOf D d) := by
  have hne := find_none.1 hf
  have hd : d ∉ D := fun h => hne d h rfl
  refine (List.perm_ext_iff_of_nodup ?_ (srtD_nodup (insF_srt mkOf hs))).2 fun y => ?_
  · rw [List.map_append, List.nodup_append]
    refine ⟨hp.nodup_iff.2 (srtD_nodup hs), by simp, fun a ha b hb e => ?_⟩
    simp at hb
    subst hb; subst e
    exact hd (hp.subset ha)
  · rw [insF_mem mkOf hne, List.map_append, List.mem_append, hp.mem_iff]
    simp
end
theorem LedAt.below {w w' : World} {q mb wb : Nat} {D : List Dec} {W : List Mrk} (h : LedAt w q mb wb D W) (hb : Below w.heap.size w w') : LedAt w' q mb wb D W := by
  obtain ⟨h1, ⟨m, h2, h3⟩, ⟨s, h4, h5⟩, h6, h7, h8⟩ := h
  exact ⟨heap_below h1 hb (heap_lt h1), ⟨m, MapAt.below h2 hb, h3⟩, ⟨s, MapAt.below h4 hb, h5⟩, h6, h7, h8⟩
theorem makeL_no {D : List Dec} {d : Dec} (h : makeE D d ≠ 0 ∨ findD D (mkOf d) ≠ none) : makeL D d = D := by
  unfold makeL
  rw [if_neg fun ⟨a, b⟩ => h.elim (fun h => h a) (fun h => h b)]
set_option maxHeartbeats 8000000 in
set_option maxRecDepth 100000 in
theorem dmake_ok (q mb wb : Nat) (D : List Dec) (W : List Mrk) (d : Dec) (w : World) (h : LedAt w q mb wb D W) (hw : wfDc d) (hl : D.length ≤ 1000) :
    Calls Tryz.prog 45 #[.pointer (some ⟨q, 0, none⟩), .agg #[.int .i64 d.au, .int .i64 d.nu, .int .i64 d.ki, .int .i64 d.a, .int .i64 d.b]] w fun e w' => e = .returned (.int .i64 (makeE D d)) ∧ LedAt w' q mb wb (makeL D d) W ∧ Touch w w' [mb] := by
  obtain ⟨X, hX, HzX, hbX, hltX, _⟩ := boxed w #[.int .i64 (d).au, .int .i64 (d).nu, .int .i64 (d).ki, .int .i64 (d).a, .int .i64 (d).b] 33
  have hkX : (X).heap[(w).heap.size]? = some (.cells [.int .i64 (d).au, .int .i64 (d).nu, .int .i64 (d).ki, .int .i64 (d).a, .int .i64 (d).b].toArray 33 (0, 0)) := by rw [← hX]; exact heap_alloc_new _ _
  obtain ⟨⟨c0, c1, c2, c3, c4⟩, _⟩ := cellsD5 hkX
  have HX := Lib.hid (h.below hbX)
  have hV := dvalid_ok d X
  have Hk := Lib.hid hkX
  have Hw := Lib.hid hw
  obtain ⟨V, hVd⟩ : ∃ z, decB d = z := ⟨_, rfl⟩
  rw [hVd] at hV
  have HV := Lib.hid hV; have HVd := Lib.hid hVd
  clear hkX h hV hVd hw
  cases V
  · have HE : Hid (makeE D d = 1) := Lib.hid (by rw [makeE, if_neg (by rw [HVd.out]; simp)])
    go_enter Tryz.func45, Tryz.ntmps45
    go_wp2_with fail
    refine HV.out.mono ?_
    rintro e w1 ⟨rfl, hb1⟩
    go_wp2_with fail
    go_ret
    exact ⟨ret_i64 HE.out.symm, by rw [makeL_no (.inl (by rw [HE.out]; decide))]; exact HX.out.below hb1, touch_below (below_trans hbX hb1) _⟩
  go_enter Tryz.func45, Tryz.ntmps45
  go_wp2_with fail
  refine HV.out.mono ?_
  rintro e w1 ⟨rfl, hb1⟩
  have hl1 := HX.out.below hb1
  have hk1 := heap_below Hk.out hb1 (heap_lt Hk.out)
  obtain ⟨hrow, ⟨m, hm, hmp, hmk⟩, hgone, hsD, hsW, hne1, hne2, hne3⟩ := id hl1
  obtain ⟨⟨c0, c1, c2, c3, c4⟩, _⟩ := cellsD5 hk1
  obtain ⟨⟨r0, r1⟩, _⟩ := cellsM hrow
  have hlk := look_made (MapAt.nodup hm) hmp hmk (mkOf d)
  have hmlen : m.length = D.length := by have := hmp.length_eq; simpa using this
  obtain ⟨o, ho⟩ : ∃ o, (findD D (mkOf d)).getD ⟨0, 0, 0, 0, 0⟩ = o := ⟨_, rfl⟩
  obtain ⟨bk, hbk⟩ : ∃ b, (findD D (mkOf d)).isSome = b := ⟨_, rfl⟩
  have hL : ∀ w9, Below w1.heap.size w1 w9 → (Instr.lookup 98 (.map (some mb)) (.agg #[.int .i64 d.au, .int .i64 d.nu]) true).run Tryz.prog w9 = .ok (.tuple #[.agg #[.int .i64 o.au, .int .i64 o.nu, .int .i64 o.ki, .int .i64 o.a, .int .i64 o.b], .bool bk]) w9 := fun w9 hb9 => by
    have := MapAt.look_ok (MapAt.below hm hb9) Tryz.underlying98 (x := mkOf d) ⟨Hw.out.1, Hw.out.2.1⟩
    rw [hlk, hbk, show elDec.zero = (⟨0, 0, 0, 0, 0⟩ : Dec) from rfl, ho] at this
    exact this
  have HL := Lib.hid hL; have Hl1 := Lib.hid hl1; have Hk1 := Lib.hid hk1; have Ho := Lib.hid ho; have Hbk := Lib.hid hbk; have Hml := Lib.hid hmlen
  have hw1 := below_trans hbX hb1
  clear hrow hm hmp hmk hgone hsD hsW hlk hmlen hL hl1 hk1 ho hbk HX HV hne1 hne2 hne3
  go_upto_region 3 with fail
  go_cut [5, 6] (fun pv bv wc => ∃ g, pv = .pointer (some ⟨g, 0, none⟩) ∧ bv = .bool bk ∧ wc.heap[g]? = some (.cells [.int .i64 o.au, .int .i64 o.nu, .int .i64 o.ki, .int .i64 o.a, .int .i64 o.b].toArray 33 (0, 0)) ∧ Below w1.heap.size w1 wc)
  case first =>
    have hba : Below (w1).heap.size (w1) (w1).drew := (Below.refl _ _).drew
    obtain ⟨wa, hwa⟩ : ∃ W, (w1).drew = W := ⟨_, rfl⟩
    rw [hwa] at hba
    have HSt := Lib.hid fun (w9 : World) (hb : Below wa.heap.size wa w9) => (show (fun w' : World => Below wa.heap.size wa w' ∧ w'.cell? ⟨q, 0, none⟩ = some (.map (some mb)) ∧ w'.cell? ⟨w.heap.size, 0, none⟩ = some (.int .i64 d.au) ∧ w'.cell? ⟨w.heap.size, 1, none⟩ = some (.int .i64 d.nu) ∧ w'.cell? ⟨w.heap.size, 2, none⟩ = some (.int .i64 d.ki) ∧ w'.cell? ⟨w.heap.size, 3, none⟩ = some (.int .i64 d.a) ∧ w'.cell? ⟨w.heap.size, 4, none⟩ = some (.int .i64 d.b)) w9 from ⟨hb, cell_later hb (cell_later hba r0), cell_later hb (cell_later hba c0), cell_later hb (cell_later hba c1), cell_later hb (cell_later hba c2), cell_later hb (cell_later hba c3), cell_later hb (cell_later hba c4)⟩)
    have hHeld := HSt.out wa (Below.refl _ _)
    refine wp_region_S 12 (fun w' : World => Below wa.heap.size wa w' ∧ w'.cell? ⟨q, 0, none⟩ = some (.map (some mb)) ∧ w'.cell? ⟨w.heap.size, 0, none⟩ = some (.int .i64 d.au) ∧ w'.cell? ⟨w.heap.size, 1, none⟩ = some (.int .i64 d.nu) ∧ w'.cell? ⟨w.heap.size, 2, none⟩ = some (.int .i64 d.ki) ∧ w'.cell? ⟨w.heap.size, 3, none⟩ = some (.int .i64 d.a) ∧ w'.cell? ⟨w.heap.size, 4, none⟩ = some (.int .i64 d.b)) (by kernel_rfl) (by decide) ?_
    rw [hwa]
    clear hwa
    refine wpAnyS_takeD 0 (some 15) (.pointer (some ⟨q, 0, none⟩)) (by rfl) (by rfl) (by kernel_rfl) (by exact fun _ _ _ h => h) (by rfl) (fun w' hS => by go_simp) hHeld ?_
    simp only [Act.put, List.setIfInBounds_toArray, List.set_cons_succ, List.set_cons_zero]
    refine wpAnyS_takeD 1 (some 16) (.pointer (some ⟨q, 0, none⟩)) (by rfl) (by rfl) (by kernel_rfl) (by exact fun _ _ _ h => h) (by rfl) (fun w' hS => by go_simp) hHeld ?_
    simp only [Act.put, List.setIfInBounds_toArray, List.set_cons_succ, List.set_cons_zero]
    refine wpAnyS_takeD 2 (some 17) (.pointer (some ⟨q, 0, none⟩)) (by rfl) (by rfl) (by kernel_rfl) (by exact fun _ _ _ h => h) (by rfl) (fun w' hS => by go_simp) hHeld ?_
    simp only [Act.put, List.setIfInBounds_toArray, List.set_cons_succ, List.set_cons_zero]
    refine wpAnyS_takeD 3 (some 18) (.map (some mb)) (by rfl) (by rfl) (by kernel_rfl) (by exact fun _ _ _ h => h) (by rfl) (fun w' hS => by (obtain ⟨_, x0, x1, x2, x3, x4, x5⟩ := hS; go_simp)) hHeld ?_
    simp only [Act.put, List.setIfInBounds_toArray, List.set_cons_succ, List.set_cons_zero]
    refine wpAnyS_takeD 4 (some 19) (.agg #[.int .i64 d.au, .int .i64 d.nu, .int .i64 d.ki, .int .i64 d.a, .int .i64 d.b]) (by rfl) (by rfl) (by kernel_rfl) (by exact fun _ _ _ h => h) (by rfl) (fun w' hS => by (obtain ⟨_, x0, x1, x2, x3, x4, x5⟩ := hS; go_simp)) hHeld ?_
    simp only [Act.put, List.setIfInBounds_toArray, List.set_cons_succ, List.set_cons_zero]
    clear hHeld
    refine wpAnyS_two 5 10 (by kernel_rfl) (by rfl) (by rfl) (by decide) (by decide) (fun K hK => ?_) (fun K hK => ?_)
    · have HK := Lib.hid hK
      clear hK
      rw [if_pos (by rfl)]
      go_simp
      refine (dmark_ok d wa).mono ?_
      rintro e w5 ⟨rfl, hb5⟩
      have hHeld := HSt.out _ hb5
      refine HK.out _ _ (HSt.out _ hb5) ?_
      clear HK
      refine wpAnyS_takeD 6 (some 21) (.tuple #[.agg #[.int .i64 o.au, .int .i64 o.nu, .int .i64 o.ki, .int .i64 o.a, .int .i64 o.b], .bool bk]) (by rfl) (by rfl) (by kernel_rfl) (by exact fun _ _ _ h => h) (by rfl) (fun w' hS => by (have hl9 := HL.out w' (below_trans hba hS.1); go_simp)) hHeld ?_
      simp only [Act.put, List.setIfInBounds_toArray, List.set_cons_succ, List.set_cons_zero]
      refine wpAnyS_takeD 7 (some 14) (.tuple #[.agg #[.int .i64 o.au, .int .i64 o.nu, .int .i64 o.ki, .int .i64 o.a, .int .i64 o.b], .bool bk]) (by rfl) (by rfl) (by kernel_rfl) (by exact fun _ _ _ h => h) (by rfl) (fun w' hS => by go_simp) hHeld ?_
      simp only [Act.put, List.setIfInBounds_toArray, List.set_cons_succ, List.set_cons_zero]
      refine wpAnyS_takeD 8 (some 22) (.agg #[.int .i64 o.au, .int .i64 o.nu, .int .i64 o.ki, .int .i64 o.a, .int .i64 o.b]) (by rfl) (by rfl) (by kernel_rfl) (by exact fun _ _ _ h => h) (by rfl) (fun w' hS => by go_simp) hHeld ?_
      simp only [Act.put, List.setIfInBounds_toArray, List.set_cons_succ, List.set_cons_zero]
      refine wpAnyS_takeD 9 (some 23) (.bool bk) (by rfl) (by rfl) (by kernel_rfl) (by exact fun _ _ _ h => h) (by rfl) (fun w' hS => by go_simp) hHeld ?_
      simp only [Act.put, List.setIfInBounds_toArray, List.set_cons_succ, List.set_cons_zero]
      clear hHeld
      refine wpAnyS_one 10 (by kernel_rfl) (by rfl) (by decide) (fun K hK => ?_)
      have HK := Lib.hid hK; clear hK
      rw [if_pos (by rfl)]
      go_simp
      obtain ⟨w6, hw6⟩ : ∃ z, World.alloc w5 (.cells #[.int .i64 0, .int .i64 0, .int .i64 0, .int .i64 0, .int .i64 0] 33) = z := ⟨_, rfl⟩
      have sw6 : Below (w5).heap.size w5 w6 := by rw [← hw6]; exact (Below.refl _ _).alloc (Nat.le_refl _) _
      have bw6 : Below wa.heap.size wa w6 := below_trans hb5 sw6
      have rw6 : (w6).heap[(w5).heap.size]? = some (.cells [.int .i64 0, .int .i64 0, .int .i64 0, .int .i64 0, .int .i64 0].toArray 33 (0, 0)) := by rw [← hw6]; exact heap_alloc_new _ _
      rw [hw6]
      refine HK.out _ _ (HSt.out _ bw6) ?_
      clear HK hw6
      refine wpAnyS_one 11 (by kernel_rfl) (by rfl) (by decide) (fun K hK => ?_)
      have HK := Lib.hid hK; clear hK
      rw [if_pos (by rfl)]
      obtain ⟨⟨z0, z1, z2, z3, z4⟩, f0, f1, f2, f3, f4⟩ := cellsD5 rw6
      have HF := Lib.hid (heap_setCells [.int .i64 o.au, .int .i64 o.nu, .int .i64 o.ki, .int .i64 o.a, .int .i64 o.b] [] [.int .i64 0, .int .i64 0, .int .i64 0, .int .i64 0, .int .i64 0] w6 rw6 rfl)
      have hgz : wa.heap.size ≤ w5.heap.size := hb5.size
      have HBF := Lib.hid (bw6.grown (setCells_grown (w5.heap.size) [.int .i64 o.au, .int .i64 o.nu, .int .i64 o.ki, .int .i64 o.a, .int .i64 o.b] w6 0) bw6.size (fun j e => by cases e; exact hgz))
      go_simp
      refine HK.out _ _ (HSt.out _ HBF.out) ?_
      clear HK
      refine (show tailOf _ _ _ _ _ _ _ _ from ⟨by kernel_rfl, ?_⟩)
      simp only [List.drop_succ_cons, List.drop_zero]
      go_wp2_with fail
      go_meet
      exact ⟨_, rfl, rfl, HF.out, below_trans hba HBF.out⟩
    · have HK := Lib.hid hK
      clear hK
      rw [if_pos (by rfl)]
      go_simp
      obtain ⟨w6, hw6⟩ : ∃ z, World.alloc wa (.cells #[.int .i64 0, .int .i64 0, .int .i64 0, .int .i64 0, .int .i64 0] 33) = z := ⟨_, rfl⟩
      have sw6 : Below (wa).heap.size wa w6 := by rw [← hw6]; exact (Below.refl _ _).alloc (Nat.le_refl _) _
      have bw6 : Below wa.heap.size wa w6 := sw6
      have rw6 : (w6).heap[(wa).heap.size]? = some (.cells [.int .i64 0, .int .i64 0, .int .i64 0, .int .i64 0, .int .i64 0].toArray 33 (0, 0)) := by rw [← hw6]; exact heap_alloc_new _ _
      rw [hw6]
      refine HK.out _ _ (HSt.out _ bw6) ?_
      clear HK hw6
      refine wpAnyS_one 5 (by kernel_rfl) (by rfl) (by decide) (fun K hK => ?_)
      have HK := Lib.hid hK; clear hK
      rw [if_pos (by rfl)]
      go_simp
      refine (dmark_ok d w6).mono ?_
      rintro e w7 ⟨rfl, hb7⟩
      have bw7 := below_trans bw6 hb7
      have hHeld := HSt.out _ bw7
      refine HK.out _ _ (HSt.out _ bw7) ?_
      clear HK
      refine wpAnyS_takeD 6 (some 21) (.tuple #[.agg #[.int .i64 o.au, .int .i64 o.nu, .int .i64 o.ki, .int .i64 o.a, .int .i64 o.b], .bool bk]) (by rfl) (by rfl) (by kernel_rfl) (by exact fun _ _ _ h => h) (by rfl) (fun w' hS => by (have hl9 := HL.out w' (below_trans hba hS.1); go_simp)) hHeld ?_
      simp only [Act.put, List.setIfInBounds_toArray, List.set_cons_succ, List.set_cons_zero]
      refine wpAnyS_takeD 7 (some 14) (.tuple #[.agg #[.int .i64 o.au, .int .i64 o.nu, .int .i64 o.ki, .int .i64 o.a, .int .i64 o.b], .bool bk]) (by rfl) (by rfl) (by kernel_rfl) (by exact fun _ _ _ h => h) (by rfl) (fun w' hS => by go_simp) hHeld ?_
      simp only [Act.put, List.setIfInBounds_toArray, List.set_cons_succ, List.set_cons_zero]
      refine wpAnyS_takeD 8 (some 22) (.agg #[.int .i64 o.au, .int .i64 o.nu, .int .i64 o.ki, .int .i64 o.a, .int .i64 o.b]) (by rfl) (by rfl) (by kernel_rfl) (by exact fun _ _ _ h => h) (by rfl) (fun w' hS => by go_simp) hHeld ?_
      simp only [Act.put, List.setIfInBounds_toArray, List.set_cons_succ, List.set_cons_zero]
      refine wpAnyS_takeD 9 (some 23) (.bool bk) (by rfl) (by rfl) (by kernel_rfl) (by exact fun _ _ _ h => h) (by rfl) (fun w' hS => by go_simp) hHeld ?_
      simp only [Act.put, List.setIfInBounds_toArray, List.set_cons_succ, List.set_cons_zero]
      clear hHeld
      have rw7 := heap_below rw6 hb7 (heap_lt rw6)
      refine wpAnyS_one 11 (by kernel_rfl) (by rfl) (by decide) (fun K hK => ?_)
      have HK := Lib.hid hK; clear hK
      rw [if_pos (by rfl)]
      obtain ⟨⟨z0, z1, z2, z3, z4⟩, f0, f1, f2, f3, f4⟩ := cellsD5 rw7
      have HF := Lib.hid (heap_setCells [.int .i64 o.au, .int .i64 o.nu, .int .i64 o.ki, .int .i64 o.a, .int .i64 o.b] [] [.int .i64 0, .int .i64 0, .int .i64 0, .int .i64 0, .int .i64 0] w7 rw7 rfl)
      have hgz : wa.heap.size ≤ wa.heap.size := Nat.le_refl _
      have HBF := Lib.hid (bw7.grown (setCells_grown (wa.heap.size) [.int .i64 o.au, .int .i64 o.nu, .int .i64 o.ki, .int .i64 o.a, .int .i64 o.b] w7 0) bw7.size (fun j e => by cases e; exact hgz))
      go_simp
      refine HK.out _ _ (HSt.out _ HBF.out) ?_
      clear HK
      refine (show tailOf _ _ _ _ _ _ _ _ from ⟨by kernel_rfl, ?_⟩)
      simp only [List.drop_succ_cons, List.drop_zero]
      go_wp2_with fail
      go_meet
      exact ⟨_, rfl, rfl, HF.out, below_trans hba HBF.out⟩
  case rest =>
    obtain ⟨g, rfl, rfl, hkg, hbc⟩ := hcut
    have hlc := Hl1.out.below hbc
    have hwc := below_trans hw1 hbc
    obtain ⟨⟨u0, u1, u2, u3, u4⟩, _⟩ := cellsD5 hkg
    obtain ⟨⟨c0, c1, c2, c3, c4⟩, _⟩ := cellsD5 (heap_below Hk1.out hbc (heap_lt Hk1.out))
    obtain ⟨hrow, ⟨m, hm, hmp, hmk⟩, hgone, hsD, hsW, hne1, hne2, hne3⟩ := id hlc
    obtain ⟨⟨r0, r1⟩, _⟩ := cellsM hrow
    have Hlc := Lib.hid hlc
    have HTc := Lib.hid (touch_below hwc [mb])
    have q0 := eqlDec_
    cases hf : findD D (mkOf d) with
    | some o' =>
      obtain rfl : true = bk := by have := Hbk.out; rw [hf] at this; exact this
      obtain rfl : o' = o := by have := Ho.out; rw [hf] at this; exact this
      have HnL : Hid (makeL D d = D) := Lib.hid (makeL_no (.inr (by rw [hf]; simp)))
      by_cases e : o' = d
      · have HE : Hid (makeE D d = 0) := Lib.hid (by rw [makeE, if_pos HVd.out, hf]; exact if_pos e)
        have t : eqB o' d = true := eqB_yes e
        clear e hf hrow hm hmp hmk hgone hsD hsW hlc hkg
        go_wp2_with fail
        go_ret
        exact ⟨ret_i64 HE.out.symm, by rw [HnL.out]; exact Hlc.out, HTc.out⟩
      · have HE : Hid (makeE D d = 10) := Lib.hid (by rw [makeE, if_pos HVd.out, hf]; exact if_neg e)
        have t : eqB o' d = false := eqB_no e
        clear e hf hrow hm hmp hmk hgone hsD hsW hlc hkg
        go_wp2_with fail
        go_ret
        exact ⟨ret_i64 HE.out.symm, by rw [HnL.out]; exact Hlc.out, HTc.out⟩
    | none =>
      obtain rfl : false = bk := by have := Hbk.out; rw [hf] at this; exact this
      have hml : m.length = D.length := by have := hmp.length_eq; simpa using this
      have hln := fun ty => MapAt.len hm Tryz.underlying98 ty
      rw [hml] at hln
      by_cases hD : 200 ≤ D.length
      · have HE : Hid (makeE D d = 6) := Lib.hid (by rw [makeE, if_pos HVd.out, hf]; exact if_pos hD)
        have HnL : Hid (makeL D d = D) := Lib.hid (makeL_no (.inl (by rw [HE.out]; decide)))
        have t : decide ((200 : Int) ≤ (D.length : Int)) = true := by simp; omega
        clear hf hD hrow hm hmp hmk hgone hsD hsW hlc hkg hml
        go_wp2_with fail
        go_ret
        exact ⟨ret_i64 HE.out.symm, by rw [HnL.out]; exact Hlc.out, HTc.out⟩
      have HE : Hid (makeE D d = 0) := Lib.hid (by rw [makeE, if_pos HVd.out, hf]; exact if_neg hD)
      have HL2 : Hid (makeL D d = insF mkOf D d) := Lib.hid (by rw [makeL, if_pos ⟨HE.out, hf⟩])
      have t : decide ((200 : Int) ≤ (D.length : Int)) = false := by simp; omega
      have Hfn := Lib.hid hf
      have Hm := Lib.hid hm; have Hmp := Lib.hid hmp; have Hmk := Lib.hid hmk; have Hgone := Lib.hid hgone
      have Hrow := Lib.hid hrow; have HsD := Lib.hid hsD; have HsW := Lib.hid hsW
      have Hml := Lib.hid hml
      clear hf hD hrow hm hmp hmk hgone hsD hsW hlc hkg hml u0 u1 u2 u3 u4
      go_wp2_with fail
      have hba : Below (wc).heap.size (wc) (wc).drew := (Below.refl _ _).drew
      obtain ⟨wa, hwa⟩ : ∃ W, (wc).drew = W := ⟨_, rfl⟩
      rw [hwa] at hba
      have HSt := Lib.hid fun (w9 : World) (hb : Below wa.heap.size wa w9) => (show (fun w' : World => Below wa.heap.size wa w' ∧ w'.cell? ⟨q, 0, none⟩ = some (.map (some mb)) ∧ w'.cell? ⟨w.heap.size, 0, none⟩ = some (.int .i64 d.au) ∧ w'.cell? ⟨w.heap.size, 1, none⟩ = some (.int .i64 d.nu) ∧ w'.cell? ⟨w.heap.size, 2, none⟩ = some (.int .i64 d.ki) ∧ w'.cell? ⟨w.heap.size, 3, none⟩ = some (.int .i64 d.a) ∧ w'.cell? ⟨w.heap.size, 4, none⟩ = some (.int .i64 d.b)) w9 from ⟨hb, cell_later hb (cell_later hba r0), cell_later hb (cell_later hba c0), cell_later hb (cell_later hba c1), cell_later hb (cell_later hba c2), cell_later hb (cell_later hba c3), cell_later hb (cell_later hba c4)⟩)
      have hHeld := HSt.out wa (Below.refl _ _)
      refine wp_region_S 7 (fun w' : World => Below wa.heap.size wa w' ∧ w'.cell? ⟨q, 0, none⟩ = some (.map (some mb)) ∧ w'.cell? ⟨w.heap.size, 0, none⟩ = some (.int .i64 d.au) ∧ w'.cell? ⟨w.heap.size, 1, none⟩ = some (.int .i64 d.nu) ∧ w'.cell? ⟨w.heap.size, 2, none⟩ = some (.int .i64 d.ki) ∧ w'.cell? ⟨w.heap.size, 3, none⟩ = some (.int .i64 d.a) ∧ w'.cell? ⟨w.heap.size, 4, none⟩ = some (.int .i64 d.b)) (by kernel_rfl) (by decide) ?_
      rw [hwa]
      clear hwa
      refine wpAnyS_takeD 0 (some 40) (.pointer (some ⟨q, 0, none⟩)) (by rfl) (by rfl) (by kernel_rfl) (by exact fun _ _ _ h => h) (by rfl) (fun w' hS => by go_simp) hHeld ?_
      simp only [Act.put, List.setIfInBounds_toArray, List.set_cons_succ, List.set_cons_zero]
      refine wpAnyS_takeD 1 (some 41) (.pointer (some ⟨q, 0, none⟩)) (by rfl) (by rfl) (by kernel_rfl) (by exact fun _ _ _ h => h) (by rfl) (fun w' hS => by go_simp) hHeld ?_
      simp only [Act.put, List.setIfInBounds_toArray, List.set_cons_succ, List.set_cons_zero]
      refine wpAnyS_takeD 2 (some 42) (.pointer (some ⟨q, 0, none⟩)) (by rfl) (by rfl) (by kernel_rfl) (by exact fun _ _ _ h => h) (by rfl) (fun w' hS => by go_simp) hHeld ?_
      simp only [Act.put, List.setIfInBounds_toArray, List.set_cons_succ, List.set_cons_zero]
      refine wpAnyS_takeD 3 (some 43) (.map (some mb)) (by rfl) (by rfl) (by kernel_rfl) (by exact fun _ _ _ h => h) (by rfl) (fun w' hS => by (obtain ⟨_, x0, x1, x2, x3, x4, x5⟩ := hS; go_simp)) hHeld ?_
      simp only [Act.put, List.setIfInBounds_toArray, List.set_cons_succ, List.set_cons_zero]
      refine wpAnyS_takeD 4 (some 44) (.agg #[.int .i64 d.au, .int .i64 d.nu, .int .i64 d.ki, .int .i64 d.a, .int .i64 d.b]) (by rfl) (by rfl) (by kernel_rfl) (by exact fun _ _ _ h => h) (by rfl) (fun w' hS => by (obtain ⟨_, x0, x1, x2, x3, x4, x5⟩ := hS; go_simp)) hHeld ?_
      simp only [Act.put, List.setIfInBounds_toArray, List.set_cons_succ, List.set_cons_zero]
      refine wpAnyS_takeD 6 (some 46) (.agg #[.int .i64 d.au, .int .i64 d.nu, .int .i64 d.ki, .int .i64 d.a, .int .i64 d.b]) (by rfl) (by rfl) (by kernel_rfl) (by exact fun _ _ _ h => h) (by rfl) (fun w' hS => by (obtain ⟨_, x0, x1, x2, x3, x4, x5⟩ := hS; go_simp)) hHeld ?_
      simp only [Act.put, List.setIfInBounds_toArray, List.set_cons_succ, List.set_cons_zero]
      clear hHeld
      refine wpAnyS_one 5 (by kernel_rfl) (by rfl) (by decide) (fun K hK => ?_)
      have HK := Lib.hid hK; clear hK
      rw [if_pos (by rfl)]
      go_simp
      refine (dmark_ok d wa).mono ?_
      rintro e w5 ⟨rfl, hb5⟩
      refine HK.out _ _ (HSt.out _ hb5) ?_
      clear HK
      have hbc5 := below_trans hba hb5
      obtain ⟨w8, hrun, hm8, hg8⟩ := MapAt.put (MapAt.below Hm.out hbc5) Tryz.underlying98 (x := mkOf d) (y := d) ⟨Hw.out.1, Hw.out.2.1⟩ Hw.out (by have := Hml.out; simp only [maxLen]; omega)
      have hrun' : (Instr.mapUpdate 98 (.map (some mb)) (.agg #[.int .i64 d.au, .int .i64 d.nu]) (.agg #[.int .i64 d.au, .int .i64 d.nu, .int .i64 d.ki, .int .i64 d.a, .int .i64 d.b])).run Tryz.prog w5 = .ok () w8 := hrun
      have hnk : mkOf d ∉ m.map Prod.fst := lookM_none.1 (by rw [look_made (MapAt.nodup Hm.out) Hmp.out Hmk.out]; exact Hfn.out)
      rw [putM_new hnk] at hm8
      have HF : Hid (LedAt w8 q mb wb (makeL D d) W) := Lib.hid (by
        rw [HL2.out]
        refine ⟨(hg8.block q (Nat.lt_of_lt_of_le (heap_lt Hrow.out) hbc5.size) (by simpa using hne1)).trans (heap_below Hrow.out hbc5 (heap_lt Hrow.out)), ⟨_, hm8, put_made Hmp.out HsD.out Hfn.out, fun p hp => ?_⟩, ?_, insF_srt mkOf HsD.out, HsW.out, hne1, hne2, hne3⟩
        · rcases List.mem_append.1 hp with hp | hp
          · exact Hmk.out p hp
          · simp at hp; subst hp; rfl
        · obtain ⟨s, hs1, hs2⟩ := Hgone.out
          exact ⟨s, MapAt.kept (MapAt.below hs1 hbc5) hg8 (by simpa using Ne.symm hne3), hs2⟩)
      have HT8 := Lib.hid ((HTc.out.trans (touch_below hbc5 [mb])).trans (grown_touch hg8 (by simp)))
      clear hrun hm8 hg8 hnk
      refine (show tailOf _ _ _ _ _ _ _ _ from ⟨by kernel_rfl, ?_⟩)
      simp only [List.drop_succ_cons, List.drop_zero]
      go_wp2_with fail
      go_ret
      exact ⟨ret_i64 HE.out.symm, HF.out, HT8.out⟩
theorem putS_new {s : List (Mrk × Bool)} {x : Mrk} (h : x ∉ s.map Prod.fst) : putM s x true = s ++ [(x, true)] := by
  induction s with
  | nil => rfl
  | cons p m ih =>
    simp only [List.map_cons, List.mem_cons, not_or] at h
    rw [putM, if_neg (fun e => h.1 e.symm), ih h.2]
    rfl
theorem look_gone {s : List (Mrk × Bool)} {W : List Mrk} (hp : (s.map Prod.fst).Perm W) (ht : ∀ p ∈ s, p.2 = true) (x : Mrk) : (lookM s x).getD false = decide (x ∈ W) := by
  cases h : lookM s x with
  | none =>
    have := lookM_none.1 h
    rw [hp.mem_iff] at this
    simp [this]
  | some y =>
    have h1 := lookM_some h
    have h2 : x ∈ W := hp.mem_iff.1 (List.mem_map.2 ⟨_, h1, rfl⟩)
    have h3 : y = true := ht _ h1
    simp [h2, h3]
theorem srtM_nodup {W : List Mrk} (h : SrtM W) : W.Nodup := h.imp fun {a b} hab e => by subst e; exact mkLt_irrefl _ hab
theorem put_gone {s : List (Mrk × Bool)} {W : List Mrk} (hp : (s.map Prod.fst).Perm W) (hs : SrtM W) {x : Mrk} (hx : x ∉ W) : ((s ++ [(x, true)]).map Prod.fst).Perm (insF id W x) := by
  have hne : ∀ y ∈ W, id y ≠ id x := fun y hy e => hx (by have : y = x := e; rwa [← this])
  refine (List.perm_ext_iff_of_nodup ?_ (srtM_nodup (insF_srt id hs))).2 fun y => ?_
  · rw [List.map_append, List.nodup_append]
    refine ⟨hp.nodup_iff.2 (srtM_nodup hs), by simp, fun a ha b hb e => ?_⟩
    simp at hb
    subst hb; subst e
    exact hx (hp.subset ha)
  · rw [insF_mem id hne, List.map_append, List.mem_append, hp.mem_iff]
    simp
theorem drawL_no {W : List Mrk} {m : Mrk} (h : drawE W m ≠ 0 ∨ m ∈ W) : drawL W m = W := by
  unfold drawL
  rw [if_neg fun ⟨a, b⟩ => h.elim (fun h => h a) (fun h => b h)]
set_option maxHeartbeats 8000000 in
set_option maxRecDepth 100000 in
theorem ddraw_ok (q mb wb : Nat) (D : List Dec) (W : List Mrk) (m : Mrk) (w : World) (h : LedAt w q mb wb D W) (hw : wfMk m) (hl : W.length ≤ 1000) :
    Calls Tryz.prog 63 #[.pointer (some ⟨q, 0, none⟩), .agg #[.int .i64 m.au, .int .i64 m.nu]] w fun e w' => e = .returned (.int .i64 (drawE W m)) ∧ LedAt w' q mb wb D (drawL W m) ∧ Touch w w' [wb] := by
  obtain ⟨X, hX, HzX, hbX, hltX, _⟩ := boxed w #[.int .i64 (m).au, .int .i64 (m).nu] 35
  have hkX : (X).heap[(w).heap.size]? = some (.cells [.int .i64 (m).au, .int .i64 (m).nu].toArray 35 (0, 0)) := by rw [← hX]; exact heap_alloc_new _ _
  obtain ⟨⟨c0, c1⟩, _⟩ := cellsM hkX
  have HX := Lib.hid (h.below hbX)
  have hV := validMark_ok m X
  have Hk := Lib.hid hkX
  have Hw := Lib.hid hw
  obtain ⟨V, hVd⟩ : ∃ z, mrkB m = z := ⟨_, rfl⟩
  rw [hVd] at hV
  have HV := Lib.hid hV; have HVd := Lib.hid hVd
  clear hkX h hV hVd hw
  cases V
  · have HE : Hid (drawE W m = 1) := Lib.hid (by rw [drawE, if_neg (by rw [HVd.out]; simp)])
    go_enter Tryz.func63, Tryz.ntmps63
    go_wp2_with fail
    refine HV.out.mono ?_
    rintro e w1 ⟨rfl, hb1⟩
    go_wp2_with fail
    go_ret
    exact ⟨ret_i64 HE.out.symm, by rw [drawL_no (.inl (by rw [HE.out]; decide))]; exact HX.out.below hb1, touch_below (below_trans hbX hb1) _⟩
  go_enter Tryz.func63, Tryz.ntmps63
  go_wp2_with fail
  refine HV.out.mono ?_
  rintro e w1 ⟨rfl, hb1⟩
  have hl1 := HX.out.below hb1
  have hk1 := heap_below Hk.out hb1 (heap_lt Hk.out)
  obtain ⟨hrow, hmade, ⟨s, hs, hsp, hst⟩, hsD, hsW, hne1, hne2, hne3⟩ := id hl1
  obtain ⟨⟨c0, c1⟩, _⟩ := cellsM hk1
  obtain ⟨⟨r0, r1⟩, _⟩ := cellsM hrow
  have hslen : s.length = W.length := by have := hsp.length_eq; simpa using this
  have hlg := look_gone hsp hst m
  obtain ⟨T, hT⟩ : ∃ T, decide (m ∈ W) = T := ⟨_, rfl⟩
  have hL : ∀ y : Later w1, (Instr.lookup 97 (.map (some wb)) (.agg #[.int .i64 m.au, .int .i64 m.nu]) false).run Tryz.prog y.to = .ok (.bool T) y.to := fun y => by
    have := MapAt.look (MapAt.below hs y.h) Tryz.underlying97 (x := m) ⟨Hw.out.1, Hw.out.2⟩
    rw [show (elBool Tryz.underlying4 zBool).zero = false from rfl, hlg, hT] at this
    exact this
  have hw1 := below_trans hbX hb1
  have C0 := Later.cell_all c0; have C1 := Later.cell_all c1; have R1 := Later.cell_all r1
  have Hl1 := Lib.hid hl1; have Hk1 := Lib.hid hk1; have Hsl := Lib.hid hslen; have HT := Lib.hid hT
  clear hrow hmade hs hsp hst hsD hsW hslen hlg hl1 hk1 hT HX HV hne1 hne2 hne3 c0 c1 r0 r1
  go_wp2_with fail
  refine wp_region_later (by kernel_rfl) (by kernel_rfl) ?_
  repeat (go_big_quiet_step (first | fail))
  refine wpQuiet_nil ?_
  intro _ hw'
  obtain ⟨xq, hw''⟩ := hw'
  subst hw''
  have hbc := xq.h
  generalize xq.to = wc at hbc ⊢
  clear C0 C1 R1 hL
  have hlc := Hl1.out.below hbc
  have hwc := below_trans hw1 hbc
  obtain ⟨hrow, hmade, ⟨s, hs, hsp, hst⟩, hsD, hsW, hne1, hne2, hne3⟩ := id hlc
  obtain ⟨⟨c0, c1⟩, _⟩ := cellsM (heap_below Hk1.out hbc (heap_lt Hk1.out))
  obtain ⟨⟨r0, r1⟩, _⟩ := cellsM hrow
  have Hlc := Lib.hid hlc
  have HTc := Lib.hid (touch_below hwc [wb])
  have hslen : s.length = W.length := by have := hsp.length_eq; simpa using this
  have hln := fun ty => MapAt.len hs Tryz.underlying97 ty
  rw [hslen] at hln
  cases T
  case true =>
    have hin : m ∈ W := by simpa using HT.out
    have HE : Hid (drawE W m = 0) := Lib.hid (by rw [drawE, if_pos HVd.out, if_pos hin])
    have HnL : Hid (drawL W m = W) := Lib.hid (drawL_no (.inr hin))
    clear hin hrow hmade hs hsp hst hsD hsW hlc hslen hln
    go_wp2_with fail
    go_ret
    exact ⟨ret_i64 HE.out.symm, by rw [HnL.out]; exact Hlc.out, HTc.out⟩
  have hout : m ∉ W := by simpa using HT.out
  by_cases hW : 200 ≤ W.length
  · have HE : Hid (drawE W m = 6) := Lib.hid (by rw [drawE, if_pos HVd.out, if_neg hout, if_pos hW])
    have HnL : Hid (drawL W m = W) := Lib.hid (drawL_no (.inl (by rw [HE.out]; decide)))
    have t : decide ((200 : Int) ≤ (W.length : Int)) = true := by simp; omega
    clear hout hW hrow hmade hs hsp hst hsD hsW hlc hslen
    go_wp2_with fail
    go_ret
    exact ⟨ret_i64 HE.out.symm, by rw [HnL.out]; exact Hlc.out, HTc.out⟩
  have HE : Hid (drawE W m = 0) := Lib.hid (by rw [drawE, if_pos HVd.out, if_neg hout, if_neg hW])
  have HL2 : Hid (drawL W m = insF id W m) := Lib.hid (by rw [drawL, if_pos ⟨HE.out, hout⟩])
  have t : decide ((200 : Int) ≤ (W.length : Int)) = false := by simp; omega
  have Hs := Lib.hid hs; have Hsp := Lib.hid hsp; have Hst := Lib.hid hst; have Hmade := Lib.hid hmade
  have Hrow := Lib.hid hrow; have HsD := Lib.hid hsD; have HsW := Lib.hid hsW; have Hsl2 := Lib.hid hslen; have Hout := Lib.hid hout
  clear hout hW hrow hmade hs hsp hst hsD hsW hlc hslen
  go_wp2_with fail
  have hba : Below (wc).heap.size (wc) (wc).drew := (Below.refl _ _).drew
  obtain ⟨wa, hwa⟩ : ∃ W, (wc).drew = W := ⟨_, rfl⟩
  rw [hwa] at hba
  have HSt := Lib.hid fun (w9 : World) (hb : Below wa.heap.size wa w9) => (show (fun w' : World => Below wa.heap.size wa w' ∧ w'.cell? ⟨q, 1, none⟩ = some (.map (some wb)) ∧ w'.cell? ⟨w.heap.size, 0, none⟩ = some (.int .i64 m.au) ∧ w'.cell? ⟨w.heap.size, 1, none⟩ = some (.int .i64 m.nu)) w9 from ⟨hb, cell_later hb (cell_later hba r1), cell_later hb (cell_later hba c0), cell_later hb (cell_later hba c1)⟩)
  have hHeld := HSt.out wa (Below.refl _ _)
  refine wp_region_S 5 (fun w' : World => Below wa.heap.size wa w' ∧ w'.cell? ⟨q, 1, none⟩ = some (.map (some wb)) ∧ w'.cell? ⟨w.heap.size, 0, none⟩ = some (.int .i64 m.au) ∧ w'.cell? ⟨w.heap.size, 1, none⟩ = some (.int .i64 m.nu)) (by kernel_rfl) (by decide) ?_
  rw [hwa]
  clear hwa
  refine wpAnyS_takeD 0 (some 27) (.pointer (some ⟨q, 0, none⟩)) (by rfl) (by rfl) (by kernel_rfl) (by exact fun _ _ _ h => h) (by rfl) (fun w' hS => by go_simp) hHeld ?_
  simp only [Act.put, List.setIfInBounds_toArray, List.set_cons_succ, List.set_cons_zero]
  refine wpAnyS_takeD 1 (some 28) (.pointer (some ⟨q, 0, none⟩)) (by rfl) (by rfl) (by kernel_rfl) (by exact fun _ _ _ h => h) (by rfl) (fun w' hS => by go_simp) hHeld ?_
  simp only [Act.put, List.setIfInBounds_toArray, List.set_cons_succ, List.set_cons_zero]
  refine wpAnyS_takeD 2 (some 29) (.pointer (some ⟨q, 1, none⟩)) (by rfl) (by rfl) (by kernel_rfl) (by exact fun _ _ _ h => h) (by rfl) (fun w' hS => by go_simp) hHeld ?_
  simp only [Act.put, List.setIfInBounds_toArray, List.set_cons_succ, List.set_cons_zero]
  refine wpAnyS_takeD 3 (some 30) (.map (some wb)) (by rfl) (by rfl) (by kernel_rfl) (by exact fun _ _ _ h => h) (by rfl) (fun w' hS => by (obtain ⟨_, x0, x1, x2⟩ := hS; go_simp)) hHeld ?_
  simp only [Act.put, List.setIfInBounds_toArray, List.set_cons_succ, List.set_cons_zero]
  refine wpAnyS_takeD 4 (some 31) (.agg #[.int .i64 m.au, .int .i64 m.nu]) (by rfl) (by rfl) (by kernel_rfl) (by exact fun _ _ _ h => h) (by rfl) (fun w' hS => by (obtain ⟨_, x0, x1, x2⟩ := hS; go_simp)) hHeld ?_
  simp only [Act.put, List.setIfInBounds_toArray, List.set_cons_succ, List.set_cons_zero]
  clear hHeld
  obtain ⟨w8, hrun, hm8, hg8⟩ := MapAt.put (MapAt.below Hs.out hba) Tryz.underlying97 (x := m) (y := true) ⟨Hw.out.1, Hw.out.2⟩ trivial (by have := Hsl2.out; simp only [maxLen]; omega)
  have hrun' : (Instr.mapUpdate 97 (.map (some wb)) (.agg #[.int .i64 m.au, .int .i64 m.nu]) (.bool true)).run Tryz.prog wa = .ok () w8 := hrun
  rw [putS_new (fun hh => Hout.out (Hsp.out.mem_iff.1 hh))] at hm8
  have HF : Hid (LedAt w8 q mb wb D (drawL W m)) := Lib.hid (by
    rw [HL2.out]
    refine ⟨(hg8.block q (Nat.lt_of_lt_of_le (heap_lt Hrow.out) hba.size) (by simpa using hne2)).trans (heap_below Hrow.out hba (heap_lt Hrow.out)), ?_, ⟨_, hm8, put_gone Hsp.out HsW.out Hout.out, fun p hp => ?_⟩, HsD.out, insF_srt id HsW.out, hne1, hne2, hne3⟩
    · obtain ⟨k, hk1, hk2⟩ := Hmade.out
      exact ⟨k, MapAt.kept (MapAt.below hk1 hba) hg8 (by simpa using hne3), hk2⟩
    · rcases List.mem_append.1 hp with hp | hp
      · exact Hst.out p hp
      · simp at hp; subst hp; rfl)
  have HT8 := Lib.hid ((HTc.out.trans (touch_below hba [wb])).trans (grown_touch hg8 (by simp)))
  clear hrun hm8 hg8
  refine (show tailOf _ _ _ _ _ _ _ _ from ⟨by kernel_rfl, ?_⟩)
  simp only [List.drop_succ_cons, List.drop_zero]
  go_wp2_with fail
  go_ret
  exact ⟨ret_i64 HE.out.symm, HF.out, HT8.out⟩
end Go.Proofs.YthnckicnnhkkaaaGreat
/- Package decision: how decisions and marks are compared. No condition. -/
namespace Go.Proofs.YthnckicnnhkkaaaGreat
open Go.RowKit Go.Maps Go.Shelf

abbrev mrkVal (x : Mrk) : Value := .agg #[.int .i64 x.au, .int .i64 x.nu]
abbrev decVal (x : Dec) : Value := .agg #[.int .i64 x.au, .int .i64 x.nu, .int .i64 x.ki, .int .i64 x.a, .int .i64 x.b]
def cmpM (x y : Mrk) : Int := orI (Lib.compareInt x.au y.au) (Lib.compareInt x.nu y.nu)
theorem cmpM_lt (x y : Mrk) : ltOf cmpM x y = decide (mkLt x y) := by
  unfold ltOf cmpM Lib.compareInt orI mkLt
  by_cases h1 : x.au < y.au
  · simp [h1]
  · by_cases h2 : y.au < x.au
    · have : ¬ x.au = y.au := by omega
      simp [h1, h2, this]
    · have : x.au = y.au := by omega
      by_cases h3 : x.nu < y.nu
      · simp [h3, this]
      · by_cases h4 : y.nu < x.nu <;> simp [h3, h4, this]
theorem cmpM_swo : Go.Sort.SWO (ltOf cmpM) where
  irrefl x := by rw [cmpM_lt]; simp [mkLt]
  trans x y z h1 h2 := by
    rw [cmpM_lt] at h1 h2 ⊢
    exact decide_eq_true (mkLt_trans (of_decide_eq_true h1) (of_decide_eq_true h2))
  ntrans x y z h1 h2 := by
    rw [cmpM_lt] at h1 h2 ⊢
    replace h1 := of_decide_eq_false h1; replace h2 := of_decide_eq_false h2
    refine decide_eq_false ?_
    unfold mkLt at *; omega
set_option maxHeartbeats 2000000 in
set_option maxRecDepth 100000 in
theorem dcmpM_ok (x y : Mrk) (W : World) : Calls Tryz.prog 62 #[mrkVal x, mrkVal y] W fun e w' => e = .returned (.int .i64 (cmpM x y)) ∧ ∃ q os', w' = Go.Sort.grow (W.drewN q) os' := by
  have hca := fun W' => AnyG.cmp_Compare_int Tryz.layCmp x.au y.au W'
  have hcb := fun W' => AnyG.cmp_Compare_int Tryz.layCmp x.nu y.nu W'
  change ∀ W', Calls Tryz.prog 83 _ _ _ at hca
  change ∀ W', Calls Tryz.prog 83 _ _ _ at hcb
  unfold cmpM
  generalize Lib.compareInt x.au y.au = r at hca ⊢
  generalize Lib.compareInt x.nu y.nu = s at hcb ⊢
  go_enter Tryz.func62, Tryz.ntmps62
  go_wp2_with fail
  obtain ⟨W0, hW0, Hz0, hb0, hlt0, hc0⟩ := boxed W #[.int .i64 x.au, .int .i64 x.nu] 35
  obtain ⟨W1, hW1, Hz1, hb1, hlt1, hc1⟩ := boxed W0 #[.int .i64 y.au, .int .i64 y.nu] 35
  have a0 : W1.drew.cell? _ = _ := cell_later hb1.drew (hc0 0 _ rfl); have a1 : W1.drew.cell? _ = _ := cell_later hb1.drew (hc0 1 _ rfl)
  have b0 : W1.drew.cell? _ = _ := hc1 0 _ rfl; have b1 : W1.drew.cell? _ = _ := hc1 1 _ rfl
  rw [Hz0.out] at b0 b1
  clear hc0 hc1
  have hgrow' : ∃ os', W1 = Go.Sort.grow W os' := ⟨_, by rw [← hW1, ← hW0, Go.Sort.alloc_eq_grow, Go.Sort.alloc_eq_grow, Go.Sort.grow_grow]⟩
  have hgrow := Lib.hid hgrow'; clear hgrow'
  rw [hW0, hW1]
  clear hW0 hW1
  refine wp_region_S 10 (fun w' => w' = W1.drew) (by kernel_rfl) (by decide) ?_
  have hHeld : W1.drew = W1.drew := rfl
  refine wpAnyS_take 0 (.pointer (some ⟨W.heap.size, 0, none⟩)) (by rfl) (by kernel_rfl) (by exact fun _ _ _ h => h) (by rfl) (fun w' hS => by (subst hS; go_simp)) hHeld ?_
  simp only [Act.put]
  refine wpAnyS_take 1 (.int .i64 x.au) (by rfl) (by kernel_rfl) (by exact fun _ _ _ h => h) (by rfl) (fun w' hS => by (subst hS; go_simp)) hHeld ?_
  simp only [Act.put]
  refine wpAnyS_take 2 (.pointer (some ⟨W.heap.size + 1, 0, none⟩)) (by rfl) (by kernel_rfl) (by exact fun _ _ _ h => h) (by rfl) (fun w' hS => by (subst hS; go_simp)) hHeld ?_
  simp only [Act.put]
  refine wpAnyS_take 3 (.int .i64 y.au) (by rfl) (by kernel_rfl) (by exact fun _ _ _ h => h) (by rfl) (fun w' hS => by (subst hS; go_simp)) hHeld ?_
  simp only [Act.put]
  refine wpAnyS_take 5 (.pointer (some ⟨W.heap.size, 1, none⟩)) (by rfl) (by kernel_rfl) (by exact fun _ _ _ h => h) (by rfl) (fun w' hS => by (subst hS; go_simp)) hHeld ?_
  simp only [Act.put]
  refine wpAnyS_take 6 (.int .i64 x.nu) (by rfl) (by kernel_rfl) (by exact fun _ _ _ h => h) (by rfl) (fun w' hS => by (subst hS; go_simp)) hHeld ?_
  simp only [Act.put]
  refine wpAnyS_take 7 (.pointer (some ⟨W.heap.size + 1, 1, none⟩)) (by rfl) (by kernel_rfl) (by exact fun _ _ _ h => h) (by rfl) (fun w' hS => by (subst hS; go_simp)) hHeld ?_
  simp only [Act.put]
  refine wpAnyS_take 8 (.int .i64 y.nu) (by rfl) (by kernel_rfl) (by exact fun _ _ _ h => h) (by rfl) (fun w' hS => by (subst hS; go_simp)) hHeld ?_
  simp only [Act.put]
  clear hHeld
  refine wpAnyS_one 4 (by kernel_rfl) (by rfl) (by decide) (fun K hK => ?_)
  have HK := Lib.hid hK; clear hK
  rw [if_pos (by rfl)]
  go_simp
  refine (hca _).mono ?_
  rintro e w2 ⟨rfl, rfl⟩
  refine HK.out _ _ rfl ?_
  clear HK
  refine wpAnyS_one 9 (by kernel_rfl) (by rfl) (by decide) (fun K hK => ?_)
  have HK := Lib.hid hK; clear hK
  rw [if_pos (by rfl)]
  go_simp
  refine (hcb _).mono ?_
  rintro e w2 ⟨rfl, rfl⟩
  refine HK.out _ _ rfl ?_
  clear HK
  refine (show tailOf _ _ _ _ _ _ _ _ from ⟨by kernel_rfl, ?_⟩)
  simp only [List.drop_succ_cons, List.drop_zero]
  go_wp2_with fail
  refine (Or_ok _ r s _ (by go_simp) (by go_simp)).mono ?_
  rintro e w3 ⟨rfl, rfl⟩
  go_wp2_with fail
  go_ret
  obtain ⟨os, hq⟩ := hgrow.out
  exact ⟨rfl, 1, _, by rw [hq, Go.Sort.alloc_eq_grow, Go.Sort.grow_grow]; rfl⟩
def cmpDc (x y : Dec) : Int := cmpM (mkOf x) (mkOf y)
theorem cmpDc_lt (x y : Dec) : ltOf cmpDc x y = decide (mkLt (mkOf x) (mkOf y)) := cmpM_lt (mkOf x) (mkOf y)
theorem cmpDc_swo : Go.Sort.SWO (ltOf cmpDc) where
  irrefl x := cmpM_swo.irrefl (mkOf x)
  trans x y z h1 h2 := cmpM_swo.trans (mkOf x) (mkOf y) (mkOf z) h1 h2
  ntrans x y z h1 h2 := cmpM_swo.ntrans (mkOf x) (mkOf y) (mkOf z) h1 h2
set_option maxHeartbeats 1000000 in
theorem dmarkG_ok (d : Dec) (w : World) : Calls Tryz.prog 67 #[decVal d] w fun e w' => e = .returned (.agg #[.int .i64 d.au, .int .i64 d.nu]) ∧ ∃ os', w' = Go.Sort.grow w os' := by
  obtain ⟨W, hW, HzW, hbW, hltW, _⟩ := boxed w #[.int .i64 (d).au, .int .i64 (d).nu, .int .i64 (d).ki, .int .i64 (d).a, .int .i64 (d).b] 33
  have hkW : (W).heap[(w).heap.size]? = some (.cells [.int .i64 (d).au, .int .i64 (d).nu, .int .i64 (d).ki, .int .i64 (d).a, .int .i64 (d).b].toArray 33 (0, 0)) := by rw [← hW]; exact heap_alloc_new _ _
  obtain ⟨⟨c0, c1, c2, c3, c4⟩, _⟩ := cellsD5 hkW
  have c0 := cell_later ((Below.refl W.heap.size W).alloc (Nat.le_refl _) (.cells #[.int .i64 0, .int .i64 0] 35)) c0
  have c1 := cell_later ((Below.refl W.heap.size W).alloc (Nat.le_refl _) (.cells #[.int .i64 0, .int .i64 0] 35)) c1
  have hg : ∀ o, ∃ os', W.alloc o = Go.Sort.grow w os' := fun o => ⟨_, by rw [← hW, Go.Sort.alloc_eq_grow, Go.Sort.alloc_eq_grow, Go.Sort.grow_grow]⟩
  have Hg := Lib.hid hg
  clear hkW hg
  go_enter Tryz.func67, Tryz.ntmps67
  go_wp2_with fail
  exact bodyPost_ret (results_cell_row rfl _ _ W.heap.size 35 #[.int .i64 d.au, .int .i64 d.nu] (0, 0) _ (by simp) (heap_alloc_new _ _) Tryz.underlying35 rfl (by kernel_rfl)) rfl ⟨rfl, Hg.out _⟩
theorem below_grow (w : World) (os : Array Obj) : Below w.heap.size w (Go.Sort.grow w os) :=
  ⟨rfl, rfl, rfl, by simp, fun i hi => Go.Sort.heap_grow_old w os hi⟩
set_option maxHeartbeats 4000000 in
set_option maxRecDepth 100000 in
theorem dcmpDc_ok (x y : Dec) (W : World) : Calls Tryz.prog 66 #[decVal x, decVal y] W fun e w' => e = .returned (.int .i64 (cmpDc x y)) ∧ ∃ q os', w' = Go.Sort.grow (W.drewN q) os' := by
  obtain ⟨W0, hW0, HzW0, hbW0, hltW0, _⟩ := boxed W #[.int .i64 (x).au, .int .i64 (x).nu, .int .i64 (x).ki, .int .i64 (x).a, .int .i64 (x).b] 33
  have hkW0 : (W0).heap[(W).heap.size]? = some (.cells [.int .i64 (x).au, .int .i64 (x).nu, .int .i64 (x).ki, .int .i64 (x).a, .int .i64 (x).b].toArray 33 (0, 0)) := by rw [← hW0]; exact heap_alloc_new _ _
  obtain ⟨W1, hW1, HzW1, hbW1, hltW1, _⟩ := boxed W0 #[.int .i64 (y).au, .int .i64 (y).nu, .int .i64 (y).ki, .int .i64 (y).a, .int .i64 (y).b] 33
  have hkW1 : (W1).heap[(W0).heap.size]? = some (.cells [.int .i64 (y).au, .int .i64 (y).nu, .int .i64 (y).ki, .int .i64 (y).a, .int .i64 (y).b].toArray 33 (0, 0)) := by rw [← hW1]; exact heap_alloc_new _ _
  have hg0 : ∃ os', W1 = Go.Sort.grow W os' := ⟨_, by rw [← hW1, ← hW0, Go.Sort.alloc_eq_grow, Go.Sort.alloc_eq_grow, Go.Sort.grow_grow]⟩
  have Hg0 := Lib.hid hg0
  obtain ⟨⟨c0, c1, c2, c3, c4⟩, _⟩ := cellsD5 (heap_below hkW0 hbW1 (heap_lt hkW0))
  obtain ⟨⟨d0, d1, d2, d3, d4⟩, _⟩ := cellsD5 hkW1
  unfold cmpDc
  clear hg0 hkW0 hkW1
  go_enter Tryz.func66, Tryz.ntmps66
  go_wp2_with fail
  have hba : Below W1.heap.size W1 W1.drew := (Below.refl _ _).drew
  obtain ⟨wa, hwa⟩ : ∃ z, W1.drew = z := ⟨_, rfl⟩
  rw [hwa] at hba
  have Hwa := Lib.hid hwa
  have hc := Lib.hid fun (w' : World) (hb : Below wa.heap.size wa w') => (⟨cell_later hb (cell_later hba c0), cell_later hb (cell_later hba c1), cell_later hb (cell_later hba c2), cell_later hb (cell_later hba c3), cell_later hb (cell_later hba c4), cell_later hb (cell_later hba d0), cell_later hb (cell_later hba d1), cell_later hb (cell_later hba d2), cell_later hb (cell_later hba d3), cell_later hb (cell_later hba d4)⟩ : _ ∧ _ ∧ _ ∧ _ ∧ _ ∧ _ ∧ _ ∧ _ ∧ _ ∧ _)
  refine wp_region_S 4 (fun w' : World => Below wa.heap.size wa w') (by kernel_rfl) (by decide) ?_
  rw [hwa]
  have hHeld : Below wa.heap.size wa wa := Below.refl _ _
  clear hwa c0 c1 c2 c3 c4 d0 d1 d2 d3 d4
  refine wpAnyS_takeD 0 (some 5) (decVal x) (by rfl) (by rfl) (by kernel_rfl) (by exact fun _ _ _ h => h) (by rfl) (fun w' hS => by (obtain ⟨x0, x1, x2, x3, x4, _, _, _, _, _⟩ := hc.out w' hS; go_simp)) hHeld ?_
  simp only [Act.put, List.setIfInBounds_toArray, List.set_cons_succ, List.set_cons_zero]
  refine wpAnyS_takeD 2 (some 7) (decVal y) (by rfl) (by rfl) (by kernel_rfl) (by exact fun _ _ _ h => h) (by rfl) (fun w' hS => by (obtain ⟨_, _, _, _, _, x0, x1, x2, x3, x4⟩ := hc.out w' hS; go_simp)) hHeld ?_
  simp only [Act.put, List.setIfInBounds_toArray, List.set_cons_succ, List.set_cons_zero]
  clear hHeld
  refine wpAnyS_one 1 (by kernel_rfl) (by rfl) (by decide) (fun K hK => ?_)
  have HK := Lib.hid hK; clear hK
  rw [if_pos (by rfl)]
  go_simp
  refine (dmarkG_ok x wa).mono ?_
  rintro e w5 ⟨rfl, o5, hw5⟩
  have hb5 : Below wa.heap.size wa w5 := by rw [hw5]; exact below_grow _ _
  have Hw5 := Lib.hid hw5
  clear hw5
  refine HK.out _ _ hb5 ?_
  clear HK
  refine wpAnyS_one 3 (by kernel_rfl) (by rfl) (by decide) (fun K hK => ?_)
  have HK := Lib.hid hK; clear hK
  rw [if_pos (by rfl)]
  go_simp
  refine (dmarkG_ok y w5).mono ?_
  rintro e w6 ⟨rfl, o6, hw6⟩
  have hb6 : Below w5.heap.size w5 w6 := by rw [hw6]; exact below_grow _ _
  have Hw6 := Lib.hid hw6
  clear hw6
  refine HK.out _ _ (below_trans hb5 hb6) ?_
  clear HK
  refine (show tailOf _ _ _ _ _ _ _ _ from ⟨by kernel_rfl, ?_⟩)
  simp only [List.drop_succ_cons, List.drop_zero]
  go_wp2_with fail
  refine (dcmpM_ok (mkOf x) (mkOf y) w6).mono ?_
  rintro e w7 ⟨rfl, q, o7, hw7⟩
  have Hw7 := Lib.hid hw7
  clear hw7
  go_wp2_with fail
  go_ret
  obtain ⟨o0, h0⟩ := Hg0.out
  refine ⟨rfl, 1 + q, o0 ++ o5 ++ o6 ++ o7, ?_⟩
  rw [Hw7.out, Hw6.out, Hw5.out, ← Hwa.out, h0]
  simp [Go.Sort.grow, World.drewN, World.drew, Nat.add_assoc, Array.append_assoc]
end Go.Proofs.YthnckicnnhkkaaaGreat
/- slices.SortFunc at decisions and at marks. No condition but a bound of the length. -/
namespace Go.Proofs.YthnckicnnhkkaaaGreat
open Go.RowKit Go.Maps Go.Shelf

def ByMk {α : Type} (f : α → Mrk) (l zs : List α) : Prop := zs.Perm l ∧ zs.Pairwise fun a b => ¬ mkLt (f b) (f a)
theorem byMk_of {α : Type} [Inhabited α] (f : α → Mrk) (cmp : α → α → Int) (hc : ∀ x y, ltOf cmp x y = decide (mkLt (f x) (f y))) {zs : List α} {d' : Array α} (hp : Go.Sort.PermIn 0 zs.toArray.size zs.toArray d') (hs : Go.Sort.SortedIn (ltOf cmp) 0 zs.toArray.size d') : ByMk f zs d'.toList ∧ d'.toList.length = zs.length := by
  obtain ⟨hsz, _, hperm⟩ := hp
  rw [← hsz, Array.extract_size, hsz, Array.extract_size] at hperm
  have hl : d'.size = zs.length := by simpa using hsz
  refine ⟨⟨by simpa using hperm, ?_⟩, by simpa using hl⟩
  rw [List.pairwise_iff_getElem]
  intro i j hi hj hij
  have hi' : i < d'.size := by simpa using hi
  have hj' : j < d'.size := by simpa using hj
  have := hs i j (Nat.zero_le _) hij (by rw [← hsz]; exact hj')
  rw [hc, getElem!_pos d' i hi', getElem!_pos d' j hj'] at this
  simpa using this
/-- In order, where no two marks are the same. -/
theorem byMk_srt {α : Type} {f : α → Mrk} {l zs : List α} (h : ByMk f l zs) (hn : (l.map f).Nodup) : zs.Pairwise fun a b => mkLt (f a) (f b) := by
  have hn' : (zs.map f).Nodup := (h.1.map f).nodup_iff.2 hn
  have h2 : zs.Pairwise fun a b => f a ≠ f b := List.pairwise_map.1 hn'
  refine (h.2.and h2).imp fun {a b} ⟨h3, h4⟩ => ?_
  rcases mk_tri (f a) (f b) with e | e | e
  · exact e
  · exact absurd e h4
  · exact absurd e h3
theorem cmpDc_lays (blk off size : Nat) (w : World) : CmpLays Tryz.prog 66 #[] encDc 5 cmpDc blk off size w := fun _ _ _ _ x y => dcmpDc_ok x y _
theorem cmpM_lays (blk off size : Nat) (w : World) : CmpLays Tryz.prog 62 #[] encMk 2 cmpM blk off size w := fun _ _ _ _ x y => dcmpM_ok x y _
set_option maxHeartbeats 2000000 in
theorem sortDc_ok (B : Nat) (v : Value) (zs : List Dec) (w : World) (h : OwnDc B w v zs) (hn : zs.length ≤ 1048576) :
    Calls Tryz.prog 116 #[v, .func (.func 66) #[] #[]] w fun e w' => e = .returned (.tuple #[]) ∧ ∃ ys, OwnDc B w' v ys ∧ ByMk mkOf zs ys ∧ ys.length = zs.length ∧ w.grownBy w' v.ownBlock := by
  have eg : ∀ args w, (callFunc 66 args).run Tryz.prog w = .ok (.enter 66 args) w := enters_of Tryz.func66 (by kernel_rfl) rfl
  rcases h.cases with ⟨rfl, rfl⟩ | ⟨g, cap, rfl, hg, hgw, _, _⟩
  · refine (show Calls Tryz.prog 116 _ w _ from AnyF.slices_SortFunc_none Tryz.laySortD none 0 _ w).mono ?_
    rintro e w' ⟨rfl, rfl⟩
    exact ⟨rfl, [], h, ⟨List.Perm.refl _, List.Pairwise.nil⟩, rfl, World.grownBy.refl _ _⟩
  · have hH := h.holdsK rfl lenDc
    refine (show Calls Tryz.prog 116 _ w _ from AnyQ.slices_SortFunc Tryz.laySortD 5 Tryz.isAgg33 Tryz.sizeOf33 encDc lenDc oneDc cmpDc cmpDc_swo 66 #[] g 0 cap zs.toArray w eg (cmpDc_lays g 0 _ w) hH hgw (by simp; omega)).mono ?_
    rintro e w' ⟨rfl, d', n, os, hp, hs, rfl⟩
    obtain ⟨hby, hl⟩ := byMk_of mkOf cmpDc cmpDc_lt hp hs
    exact ⟨rfl, d'.toList, h.sorted rfl lenDc hl, hby, hl, Own.grown encDc 5 (ys := d'.toList)⟩
set_option maxHeartbeats 2000000 in
theorem sortMk_ok (B : Nat) (v : Value) (zs : List Mrk) (w : World) (h : OwnMk B w v zs) (hn : zs.length ≤ 1048576) :
    Calls Tryz.prog 112 #[v, .func (.func 62) #[] #[]] w fun e w' => e = .returned (.tuple #[]) ∧ ∃ ys, OwnMk B w' v ys ∧ ByMk id zs ys ∧ ys.length = zs.length ∧ w.grownBy w' v.ownBlock := by
  have eg : ∀ args w, (callFunc 62 args).run Tryz.prog w = .ok (.enter 62 args) w := enters_of Tryz.func62 (by kernel_rfl) rfl
  rcases h.cases with ⟨rfl, rfl⟩ | ⟨g, cap, rfl, hg, hgw, _, _⟩
  · refine (show Calls Tryz.prog 112 _ w _ from AnyF.slices_SortFunc_none Tryz.laySortM none 0 _ w).mono ?_
    rintro e w' ⟨rfl, rfl⟩
    exact ⟨rfl, [], h, ⟨List.Perm.refl _, List.Pairwise.nil⟩, rfl, World.grownBy.refl _ _⟩
  · have hH := h.holdsK rfl lenMk
    refine (show Calls Tryz.prog 112 _ w _ from AnyQ.slices_SortFunc Tryz.laySortM 2 Tryz.isAgg35 Tryz.sizeOf35 encMk lenMk oneMk cmpM cmpM_swo 62 #[] g 0 cap zs.toArray w eg (cmpM_lays g 0 _ w) hH hgw (by simp; omega)).mono ?_
    rintro e w' ⟨rfl, d', n, os, hp, hs, rfl⟩
    obtain ⟨hby, hl⟩ := byMk_of id cmpM cmpM_lt hp hs
    exact ⟨rfl, d'.toList, h.sorted rfl lenMk hl, hby, hl, Own.grown encMk 2 (ys := d'.toList)⟩
end Go.Proofs.YthnckicnnhkkaaaGreat
