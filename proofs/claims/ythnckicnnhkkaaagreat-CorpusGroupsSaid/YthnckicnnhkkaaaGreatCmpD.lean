/- How slices of decisions and marks are opened; '==' and '!='; what compares two lists of them answers whether they are equal. Condition: the arguments read as lists. -/
import Derived.Test.YthnckicnnhkkaaaGreatLedA
namespace Go.Proofs.YthnckicnnhkkaaaGreat
open Go.RowKit


theorem Decs.cells {w : World} {v : Value} {xs : List Dec} (h : Decs w v xs) : ∃ A c, v = .slice A xs.length c ∧ xs.length ≤ c ∧ (c : Int) ≤ 9223372036854775807 ∧
    ∀ k, k < xs.length → ∃ b o, A = some ⟨b, o, none⟩ ∧ b < w.heap.size ∧ ∀ w', Below w.heap.size w w' → ∀ i x, xs[i]? = some x → w'.cell? ⟨b, o + i * 5, none⟩ = some (.int .i64 x.au) ∧ w'.cell? ⟨b, o + i * 5 + 1, none⟩ = some (.int .i64 x.nu) ∧ w'.cell? ⟨b, o + i * 5 + 2, none⟩ = some (.int .i64 x.ki) ∧ w'.cell? ⟨b, o + i * 5 + 3, none⟩ = some (.int .i64 x.a) ∧ w'.cell? ⟨b, o + i * 5 + 4, none⟩ = some (.int .i64 x.b) := by
  obtain ⟨A, c, e, h1, h2, h3⟩ := h
  refine ⟨A, c, e, h1, by simp only [maxLen] at h2; omega, fun k hk => ?_⟩
  obtain ⟨b, o, e, hb, hc⟩ := SlOf.opens lenDc h3 (by omega)
  exact ⟨b, o, e, hb, fun w' hw' i x hx => ⟨by have := cell_later hw' (hc i x hx 0 _ rfl); simpa [Nat.add_assoc] using this, by have := cell_later hw' (hc i x hx 1 _ rfl); simpa [Nat.add_assoc] using this, by have := cell_later hw' (hc i x hx 2 _ rfl); simpa [Nat.add_assoc] using this, by have := cell_later hw' (hc i x hx 3 _ rfl); simpa [Nat.add_assoc] using this, by have := cell_later hw' (hc i x hx 4 _ rfl); simpa [Nat.add_assoc] using this⟩⟩

theorem neqDec (a0 a1 a2 a3 a4 b0 b1 b2 b3 b4 : Int) (w : World) : (binOp .neq 33 (.agg #[.int .i64 a0, .int .i64 a1, .int .i64 a2, .int .i64 a3, .int .i64 a4]) (.agg #[.int .i64 b0, .int .i64 b1, .int .i64 b2, .int .i64 b3, .int .i64 b4])).run Tryz.prog w =
    .ok (.bool (decide ((⟨a0, a1, a2, a3, a4⟩ : Dec) ≠ ⟨b0, b1, b2, b3, b4⟩))) w := by
  have uI := Tryz.underlying3
  have aI := Tryz.isAgg3
  have hS : Tryz.prog.underlying 33 = some (.struct (Tryz.prog.fieldsOf 33)) := by kernel_rfl
  have hp : Tryz.prog.stoodInHeld 33 = false := by kernel_rfl
  rw [run_neq_struct, show (10000 : Nat) = 9999 + 1 from rfl, run_equalIn_agg w 9999 33 _ _ hS hp]
  simp only [Program.fieldsOf, Tryz.underlying33]
  go_simp
  by_cases h0 : a0 = b0 <;> by_cases h1 : a1 = b1 <;> by_cases h2 : a2 = b2 <;> by_cases h3 : a3 = b3 <;> by_cases h4 : a4 = b4 <;> simp [h0, h1, h2, h3, h4]

theorem neqDec_ (x y : Dec) (w : World) : (binOp .neq 33 (.agg #[.int .i64 x.au, .int .i64 x.nu, .int .i64 x.ki, .int .i64 x.a, .int .i64 x.b]) (.agg #[.int .i64 y.au, .int .i64 y.nu, .int .i64 y.ki, .int .i64 y.a, .int .i64 y.b])).run Tryz.prog w = .ok (.bool (neB x y)) w := neqDec _ _ _ _ _ _ _ _ _ _ w

set_option maxHeartbeats 400000 in
theorem baseDecs_ok (v u : Value) (xs ys : List Dec) (w : World) (h : Decs w v xs) (h' : Decs w u ys) :
    Calls Tryz.prog 54 #[v, u] w fun e w' => e = .returned (.bool (decide (xs = ys))) ∧ Below w.heap.size w w' := by
  obtain ⟨A, c, rfl, h1, h2, hc⟩ := h.cells
  obtain ⟨A', c', rfl, h1', h2', hc'⟩ := h'.cells
  by_cases hne : xs.length = ys.length
  · have hne' : ((xs.length : Int) != (ys.length : Int)) = false := by simp; omega
    have Hne := Lib.hid hne; clear hne
    go_enter Tryz.func54, Tryz.ntmps54
    go_wp2
    go_loopw [5] (fun i wr => ∃ k : Nat, k ≤ xs.length ∧ i = .int .i64 k ∧ xs.take k = ys.take k ∧ Below w.heap.size w wr) (fun i _ => xs.length - (intOf i).toNat)
    case atStart => exact ⟨0, Nat.zero_le _, rfl, by simp, Below.refl _ _⟩
    case round =>
      obtain ⟨k, hk, rfl, hr, hb⟩ := hrel
      have Hr := Lib.hid hr; clear hr
      by_cases hlt : k < xs.length
      · have hlt' : k < ys.length := by have := Hne.out; omega
        obtain ⟨b, o, rfl, _, hc⟩ := hc k hlt
        obtain ⟨b', o', rfl, _, hc'⟩ := hc' k hlt'
        obtain ⟨x, hx⟩ := get_of_lt hlt
        obtain ⟨y, hy⟩ := get_of_lt hlt'
        have ⟨c0, c1, c2, c3, c4⟩ := hc wr hb k x hx
        have ⟨d0, d1, d2, d3, d4⟩ := hc' wr hb k y hy
        have Hx := Lib.hid hx; clear hx hc
        have Hy := Lib.hid hy; clear hy hc'
        have hl1 : (k : Int) < (xs.length : Int) := by omega
        have hl2 : (k : Int) < (ys.length : Int) := by omega
        have hl0 : (0 : Int) ≤ (k : Int) := by omega
        have nL := neqDec_
        by_cases hxy : x = y
        · have hd : neB x y = false := neB_no hxy
          have Hxy := Lib.hid hxy; clear hxy
          go_wp2
          go_quiet (fail)
          go_wp2
          refine ⟨?rel, ?measure⟩
          case rel => exact ⟨k + 1, by omega, by go_num, eq_snoc Hx.out Hy.out Hr.out Hxy.out, hb.trans (below_drewN (Below.refl _ _) _)⟩
          case measure => simp [intOf]; omega
        · have hd : neB x y = true := neB_yes hxy
          go_wp2
          go_quiet (fail)
          go_wp2
          go_ret
          exact ⟨ret_bool (by simpa using ne_at Hx.out Hy.out hxy), hb.trans (below_drewN (Below.refl _ _) _)⟩
      · go_wp2
        go_ret
        exact ⟨ret_bool (by simpa using eq_end Hne.out hlt Hr.out), hb⟩
  · have hne' : ((xs.length : Int) != (ys.length : Int)) = true := by simp; omega
    have Hne := Lib.hid hne; clear hne
    go_enter Tryz.func54, Tryz.ntmps54
    go_wp2
    go_ret
    exact ⟨ret_bool (by simp; exact fun e => Hne.out (by rw [e])), Below.refl _ _⟩

theorem Mrks.cells {w : World} {v : Value} {xs : List Mrk} (h : Mrks w v xs) : ∃ A c, v = .slice A xs.length c ∧ xs.length ≤ c ∧ (c : Int) ≤ 9223372036854775807 ∧
    ∀ k, k < xs.length → ∃ b o, A = some ⟨b, o, none⟩ ∧ b < w.heap.size ∧ ∀ w', Below w.heap.size w w' → ∀ i x, xs[i]? = some x → w'.cell? ⟨b, o + i * 2, none⟩ = some (.int .i64 x.au) ∧ w'.cell? ⟨b, o + i * 2 + 1, none⟩ = some (.int .i64 x.nu) := by
  obtain ⟨A, c, e, h1, h2, h3⟩ := h
  refine ⟨A, c, e, h1, by simp only [maxLen] at h2; omega, fun k hk => ?_⟩
  obtain ⟨b, o, e, hb, hc⟩ := SlOf.opens lenMk h3 (by omega)
  exact ⟨b, o, e, hb, fun w' hw' i x hx => ⟨by have := cell_later hw' (hc i x hx 0 _ rfl); simpa [Nat.add_assoc] using this, by have := cell_later hw' (hc i x hx 1 _ rfl); simpa [Nat.add_assoc] using this⟩⟩

theorem eqlMrk (a0 a1 b0 b1 : Int) (w : World) : (binOp .eql 35 (.agg #[.int .i64 a0, .int .i64 a1]) (.agg #[.int .i64 b0, .int .i64 b1])).run Tryz.prog w =
    .ok (.bool (decide ((⟨a0, a1⟩ : Mrk) = ⟨b0, b1⟩))) w := by
  have uI := Tryz.underlying3
  have aI := Tryz.isAgg3
  have hS : Tryz.prog.underlying 35 = some (.struct (Tryz.prog.fieldsOf 35)) := by kernel_rfl
  have hp : Tryz.prog.stoodInHeld 35 = false := by kernel_rfl
  rw [run_eql_struct, show (10000 : Nat) = 9999 + 1 from rfl, run_equalIn_agg w 9999 35 _ _ hS hp]
  simp only [Program.fieldsOf, Tryz.underlying35]
  go_simp
  by_cases h0 : a0 = b0 <;> by_cases h1 : a1 = b1 <;> simp [h0, h1]

theorem neqMrk (a0 a1 b0 b1 : Int) (w : World) : (binOp .neq 35 (.agg #[.int .i64 a0, .int .i64 a1]) (.agg #[.int .i64 b0, .int .i64 b1])).run Tryz.prog w =
    .ok (.bool (decide ((⟨a0, a1⟩ : Mrk) ≠ ⟨b0, b1⟩))) w := by
  have uI := Tryz.underlying3
  have aI := Tryz.isAgg3
  have hS : Tryz.prog.underlying 35 = some (.struct (Tryz.prog.fieldsOf 35)) := by kernel_rfl
  have hp : Tryz.prog.stoodInHeld 35 = false := by kernel_rfl
  rw [run_neq_struct, show (10000 : Nat) = 9999 + 1 from rfl, run_equalIn_agg w 9999 35 _ _ hS hp]
  simp only [Program.fieldsOf, Tryz.underlying35]
  go_simp
  by_cases h0 : a0 = b0 <;> by_cases h1 : a1 = b1 <;> simp [h0, h1]

theorem eqlMrk_ (x y : Mrk) (w : World) : (binOp .eql 35 (.agg #[.int .i64 x.au, .int .i64 x.nu]) (.agg #[.int .i64 y.au, .int .i64 y.nu])).run Tryz.prog w = .ok (.bool (eqB x y)) w := eqlMrk _ _ _ _ w

theorem neqMrk_ (x y : Mrk) (w : World) : (binOp .neq 35 (.agg #[.int .i64 x.au, .int .i64 x.nu]) (.agg #[.int .i64 y.au, .int .i64 y.nu])).run Tryz.prog w = .ok (.bool (neB x y)) w := neqMrk _ _ _ _ w

set_option maxHeartbeats 400000 in
theorem baseMrks_ok (v u : Value) (xs ys : List Mrk) (w : World) (h : Mrks w v xs) (h' : Mrks w u ys) :
    Calls Tryz.prog 55 #[v, u] w fun e w' => e = .returned (.bool (decide (xs = ys))) ∧ Below w.heap.size w w' := by
  obtain ⟨A, c, rfl, h1, h2, hc⟩ := h.cells
  obtain ⟨A', c', rfl, h1', h2', hc'⟩ := h'.cells
  by_cases hne : xs.length = ys.length
  · have hne' : ((xs.length : Int) != (ys.length : Int)) = false := by simp; omega
    have Hne := Lib.hid hne; clear hne
    go_enter Tryz.func55, Tryz.ntmps55
    go_wp2
    go_loopw [5] (fun i wr => ∃ k : Nat, k ≤ xs.length ∧ i = .int .i64 k ∧ xs.take k = ys.take k ∧ Below w.heap.size w wr) (fun i _ => xs.length - (intOf i).toNat)
    case atStart => exact ⟨0, Nat.zero_le _, rfl, by simp, Below.refl _ _⟩
    case round =>
      obtain ⟨k, hk, rfl, hr, hb⟩ := hrel
      have Hr := Lib.hid hr; clear hr
      by_cases hlt : k < xs.length
      · have hlt' : k < ys.length := by have := Hne.out; omega
        obtain ⟨b, o, rfl, _, hc⟩ := hc k hlt
        obtain ⟨b', o', rfl, _, hc'⟩ := hc' k hlt'
        obtain ⟨x, hx⟩ := get_of_lt hlt
        obtain ⟨y, hy⟩ := get_of_lt hlt'
        have ⟨c0, c1⟩ := hc wr hb k x hx
        have ⟨d0, d1⟩ := hc' wr hb k y hy
        have Hx := Lib.hid hx; clear hx hc
        have Hy := Lib.hid hy; clear hy hc'
        have hl1 : (k : Int) < (xs.length : Int) := by omega
        have hl2 : (k : Int) < (ys.length : Int) := by omega
        have hl0 : (0 : Int) ≤ (k : Int) := by omega
        have nL := neqMrk_
        by_cases hxy : x = y
        · have hd : neB x y = false := neB_no hxy
          have Hxy := Lib.hid hxy; clear hxy
          go_wp2
          go_quiet (fail)
          go_wp2
          refine ⟨?rel, ?measure⟩
          case rel => exact ⟨k + 1, by omega, by go_num, eq_snoc Hx.out Hy.out Hr.out Hxy.out, hb.trans (below_drewN (Below.refl _ _) _)⟩
          case measure => simp [intOf]; omega
        · have hd : neB x y = true := neB_yes hxy
          go_wp2
          go_quiet (fail)
          go_wp2
          go_ret
          exact ⟨ret_bool (by simpa using ne_at Hx.out Hy.out hxy), hb.trans (below_drewN (Below.refl _ _) _)⟩
      · go_wp2
        go_ret
        exact ⟨ret_bool (by simpa using eq_end Hne.out hlt Hr.out), hb⟩
  · have hne' : ((xs.length : Int) != (ys.length : Int)) = true := by simp; omega
    have Hne := Lib.hid hne; clear hne
    go_enter Tryz.func55, Tryz.ntmps55
    go_wp2
    go_ret
    exact ⟨ret_bool (by simp; exact fun e => Hne.out (by rw [e])), Below.refl _ _⟩

set_option maxHeartbeats 400000 in
theorem equalDecs_ok (v u : Value) (xs ys : List Dec) (w : World) (h : Decs w v xs) (h' : Decs w u ys) :
    Calls Tryz.prog 125 #[v, u] w fun e w' => e = .returned (.bool (decide (xs = ys))) ∧ Below w.heap.size w w' := by
  obtain ⟨A, c, rfl, h1, h2, hc⟩ := h.cells
  obtain ⟨A', c', rfl, h1', h2', hc'⟩ := h'.cells
  by_cases hne : xs.length = ys.length
  · have hne' : ((xs.length : Int) != (ys.length : Int)) = false := by simp; omega
    have Hne := Lib.hid hne; clear hne
    go_enter Tryz.func125, Tryz.ntmps125
    go_wp2
    go_loopw [13] (fun i wr => ∃ k : Nat, k ≤ xs.length ∧ i = .int .i64 k ∧ xs.take k = ys.take k ∧ Below w.heap.size w wr) (fun i _ => xs.length - (intOf i).toNat)
    case atStart => exact ⟨0, Nat.zero_le _, rfl, by simp, Below.refl _ _⟩
    case round =>
      obtain ⟨k, hk, rfl, hr, hb⟩ := hrel
      have Hr := Lib.hid hr; clear hr
      by_cases hlt : k < xs.length
      · have hlt' : k < ys.length := by have := Hne.out; omega
        obtain ⟨b, o, rfl, _, hc⟩ := hc k hlt
        obtain ⟨b', o', rfl, _, hc'⟩ := hc' k hlt'
        obtain ⟨x, hx⟩ := get_of_lt hlt
        obtain ⟨y, hy⟩ := get_of_lt hlt'
        have ⟨c0, c1, c2, c3, c4⟩ := hc wr hb k x hx
        have ⟨d0, d1, d2, d3, d4⟩ := hc' wr hb k y hy
        have Hx := Lib.hid hx; clear hx hc
        have Hy := Lib.hid hy; clear hy hc'
        have hl1 : (k : Int) < (xs.length : Int) := by omega
        have hl2 : (k : Int) < (ys.length : Int) := by omega
        have hl0 : (0 : Int) ≤ (k : Int) := by omega
        have nL := neqDec_
        by_cases hxy : x = y
        · have hd : neB x y = false := neB_no hxy
          have Hxy := Lib.hid hxy; clear hxy
          go_wp2
          go_quiet (fail)
          go_wp2
          refine ⟨?rel, ?measure⟩
          case rel => exact ⟨k + 1, by omega, by go_num, eq_snoc Hx.out Hy.out Hr.out Hxy.out, hb.trans (below_drewN (Below.refl _ _) _)⟩
          case measure => simp [intOf]; omega
        · have hd : neB x y = true := neB_yes hxy
          go_wp2
          go_quiet (fail)
          go_wp2
          go_ret
          exact ⟨ret_bool (by simpa using ne_at Hx.out Hy.out hxy), hb.trans (below_drewN (Below.refl _ _) _)⟩
      · go_wp2
        go_ret
        exact ⟨ret_bool (by simpa using eq_end Hne.out hlt Hr.out), hb⟩
  · have hne' : ((xs.length : Int) != (ys.length : Int)) = true := by simp; omega
    have Hne := Lib.hid hne; clear hne
    go_enter Tryz.func125, Tryz.ntmps125
    go_wp2
    go_ret
    exact ⟨ret_bool (by simp; exact fun e => Hne.out (by rw [e])), Below.refl _ _⟩

set_option maxHeartbeats 400000 in
theorem equalMrks_ok (v u : Value) (xs ys : List Mrk) (w : World) (h : Mrks w v xs) (h' : Mrks w u ys) :
    Calls Tryz.prog 126 #[v, u] w fun e w' => e = .returned (.bool (decide (xs = ys))) ∧ Below w.heap.size w w' := by
  obtain ⟨A, c, rfl, h1, h2, hc⟩ := h.cells
  obtain ⟨A', c', rfl, h1', h2', hc'⟩ := h'.cells
  by_cases hne : xs.length = ys.length
  · have hne' : ((xs.length : Int) != (ys.length : Int)) = false := by simp; omega
    have Hne := Lib.hid hne; clear hne
    go_enter Tryz.func126, Tryz.ntmps126
    go_wp2
    go_loopw [13] (fun i wr => ∃ k : Nat, k ≤ xs.length ∧ i = .int .i64 k ∧ xs.take k = ys.take k ∧ Below w.heap.size w wr) (fun i _ => xs.length - (intOf i).toNat)
    case atStart => exact ⟨0, Nat.zero_le _, rfl, by simp, Below.refl _ _⟩
    case round =>
      obtain ⟨k, hk, rfl, hr, hb⟩ := hrel
      have Hr := Lib.hid hr; clear hr
      by_cases hlt : k < xs.length
      · have hlt' : k < ys.length := by have := Hne.out; omega
        obtain ⟨b, o, rfl, _, hc⟩ := hc k hlt
        obtain ⟨b', o', rfl, _, hc'⟩ := hc' k hlt'
        obtain ⟨x, hx⟩ := get_of_lt hlt
        obtain ⟨y, hy⟩ := get_of_lt hlt'
        have ⟨c0, c1⟩ := hc wr hb k x hx
        have ⟨d0, d1⟩ := hc' wr hb k y hy
        have Hx := Lib.hid hx; clear hx hc
        have Hy := Lib.hid hy; clear hy hc'
        have hl1 : (k : Int) < (xs.length : Int) := by omega
        have hl2 : (k : Int) < (ys.length : Int) := by omega
        have hl0 : (0 : Int) ≤ (k : Int) := by omega
        have nL := neqMrk_
        by_cases hxy : x = y
        · have hd : neB x y = false := neB_no hxy
          have Hxy := Lib.hid hxy; clear hxy
          go_wp2
          go_quiet (fail)
          go_wp2
          refine ⟨?rel, ?measure⟩
          case rel => exact ⟨k + 1, by omega, by go_num, eq_snoc Hx.out Hy.out Hr.out Hxy.out, hb.trans (below_drewN (Below.refl _ _) _)⟩
          case measure => simp [intOf]; omega
        · have hd : neB x y = true := neB_yes hxy
          go_wp2
          go_quiet (fail)
          go_wp2
          go_ret
          exact ⟨ret_bool (by simpa using ne_at Hx.out Hy.out hxy), hb.trans (below_drewN (Below.refl _ _) _)⟩
      · go_wp2
        go_ret
        exact ⟨ret_bool (by simpa using eq_end Hne.out hlt Hr.out), hb⟩
  · have hne' : ((xs.length : Int) != (ys.length : Int)) = true := by simp; omega
    have Hne := Lib.hid hne; clear hne
    go_enter Tryz.func126, Tryz.ntmps126
    go_wp2
    go_ret
    exact ⟨ret_bool (by simp; exact fun e => Hne.out (by rw [e])), Below.refl _ _⟩

set_option maxHeartbeats 400000 in
theorem equalSpecs_ok (v u : Value) (xs ys : List Spec) (w : World) (h : Specs w v xs) (h' : Specs w u ys) :
    Calls Tryz.prog 75 #[v, u] w fun e w' => e = .returned (.bool (decide (xs = ys))) ∧ Below w.heap.size w w' := by
  obtain ⟨A, c, rfl, h1, h2, hc⟩ := h.cells
  obtain ⟨A', c', rfl, h1', h2', hc'⟩ := h'.cells
  by_cases hne : xs.length = ys.length
  · have hne' : ((xs.length : Int) != (ys.length : Int)) = false := by simp; omega
    have Hne := Lib.hid hne; clear hne
    go_enter Tryz.func75, Tryz.ntmps75
    go_wp2
    go_loopw [13] (fun i wr => ∃ k : Nat, k ≤ xs.length ∧ i = .int .i64 k ∧ xs.take k = ys.take k ∧ Below w.heap.size w wr) (fun i _ => xs.length - (intOf i).toNat)
    case atStart => exact ⟨0, Nat.zero_le _, rfl, by simp, Below.refl _ _⟩
    case round =>
      obtain ⟨k, hk, rfl, hr, hb⟩ := hrel
      have Hr := Lib.hid hr; clear hr
      by_cases hlt : k < xs.length
      · have hlt' : k < ys.length := by have := Hne.out; omega
        obtain ⟨b, o, rfl, _, hc⟩ := hc k hlt
        obtain ⟨b', o', rfl, _, hc'⟩ := hc' k hlt'
        obtain ⟨x, hx⟩ := get_of_lt hlt
        obtain ⟨y, hy⟩ := get_of_lt hlt'
        have ⟨c0, c1, c2, c3, c4, c5, c6⟩ := hc wr hb k x hx
        have ⟨d0, d1, d2, d3, d4, d5, d6⟩ := hc' wr hb k y hy
        have Hx := Lib.hid hx; clear hx hc
        have Hy := Lib.hid hy; clear hy hc'
        have hl1 : (k : Int) < (xs.length : Int) := by omega
        have hl2 : (k : Int) < (ys.length : Int) := by omega
        have hl0 : (0 : Int) ≤ (k : Int) := by omega
        have nL := neqSpec_
        by_cases hxy : x = y
        · have hd : neB x y = false := neB_no hxy
          have Hxy := Lib.hid hxy; clear hxy
          go_wp2
          go_quiet (fail)
          go_wp2
          refine ⟨?rel, ?measure⟩
          case rel => exact ⟨k + 1, by omega, by go_num, eq_snoc Hx.out Hy.out Hr.out Hxy.out, hb.trans (below_drewN (Below.refl _ _) _)⟩
          case measure => simp [intOf]; omega
        · have hd : neB x y = true := neB_yes hxy
          go_wp2
          go_quiet (fail)
          go_wp2
          go_ret
          exact ⟨ret_bool (by simpa using ne_at Hx.out Hy.out hxy), hb.trans (below_drewN (Below.refl _ _) _)⟩
      · go_wp2
        go_ret
        exact ⟨ret_bool (by simpa using eq_end Hne.out hlt Hr.out), hb⟩
  · have hne' : ((xs.length : Int) != (ys.length : Int)) = true := by simp; omega
    have Hne := Lib.hid hne; clear hne
    go_enter Tryz.func75, Tryz.ntmps75
    go_wp2
    go_ret
    exact ⟨ret_bool (by simp; exact fun e => Hne.out (by rw [e])), Below.refl _ _⟩

end Go.Proofs.YthnckicnnhkkaaaGreat
