/- How slices of structs are opened; '==' and '!=' on structs of numbers; the functions of coinagebase that compare two lists: each answers whether the lists are equal. Condition: the arguments read as lists. -/
import Derived.Test.YthnckicnnhkkaaaGreatLib
namespace Go.Proofs.YthnckicnnhkkaaaGreat
open Go.RowKit

theorem eq_snoc {α : Type} {xs ys : List α} {k : Nat} {x y : α} (hx : xs[k]? = some x) (hy : ys[k]? = some y) (h : xs.take k = ys.take k) (e : x = y) : xs.take (k + 1) = ys.take (k + 1) := by
  rw [take_snoc' hx, take_snoc' hy, h, e]
def neB {α : Type} [DecidableEq α] (x y : α) : Bool := decide (x ≠ y)
def eqB {α : Type} [DecidableEq α] (x y : α) : Bool := decide (x = y)
theorem neB_no {α : Type} [DecidableEq α] {x y : α} (h : x = y) : neB x y = false := by simp [neB, h]
theorem neB_yes {α : Type} [DecidableEq α] {x y : α} (h : x ≠ y) : neB x y = true := by simp [neB, h]
theorem eqB_no {α : Type} [DecidableEq α] {x y : α} (h : x ≠ y) : eqB x y = false := by simp [eqB, h]
theorem eqB_yes {α : Type} [DecidableEq α] {x y : α} (h : x = y) : eqB x y = true := by simp [eqB, h]
theorem ne_at {α : Type} {xs ys : List α} {k : Nat} {x y : α} (hx : xs[k]? = some x) (hy : ys[k]? = some y) (e : x ≠ y) : xs ≠ ys := by
  rintro rfl
  rw [hx] at hy
  exact e (Option.some.inj hy)
theorem eq_end {α : Type} {xs ys : List α} {k : Nat} (hl : xs.length = ys.length) (hk : ¬ k < xs.length) (h : xs.take k = ys.take k) : xs = ys := by
  rwa [List.take_of_length_le (by omega), List.take_of_length_le (by omega)] at h

theorem Ints.cells {w : World} {v : Value} {xs : List Int} (h : Ints w v xs) : ∃ A c, v = .slice A xs.length c ∧ xs.length ≤ c ∧ (c : Int) ≤ 9223372036854775807 ∧
    ∀ k, k < xs.length → ∃ b o, A = some ⟨b, o, none⟩ ∧ b < w.heap.size ∧ ∀ w', Below w.heap.size w w' → ∀ i x, xs[i]? = some x → w'.cell? ⟨b, o + i, none⟩ = some (.int .i64 x) := by
  obtain ⟨A, c, e, h1, h2, h3⟩ := h
  refine ⟨A, c, e, h1, by simp only [maxLen] at h2; omega, fun k hk => ?_⟩
  obtain ⟨b, o, e, hb, hc⟩ := SlOf.opens lenI h3 (by omega)
  exact ⟨b, o, e, hb, fun w' hw' i x hx => by have := cell_later hw' (hc i x hx 0 _ rfl); simpa [Nat.add_assoc] using this⟩

theorem Links.cells {w : World} {v : Value} {xs : List Link} (h : Links w v xs) : ∃ A c, v = .slice A xs.length c ∧ xs.length ≤ c ∧ (c : Int) ≤ 9223372036854775807 ∧
    ∀ k, k < xs.length → ∃ b o, A = some ⟨b, o, none⟩ ∧ b < w.heap.size ∧ ∀ w', Below w.heap.size w w' → ∀ i x, xs[i]? = some x → w'.cell? ⟨b, o + i * 3, none⟩ = some (.int .i64 x.id) ∧ w'.cell? ⟨b, o + i * 3 + 1, none⟩ = some (.int .i64 x.obv) ∧ w'.cell? ⟨b, o + i * 3 + 2, none⟩ = some (.int .i64 x.rev) := by
  obtain ⟨A, c, e, h1, h2, h3⟩ := h
  refine ⟨A, c, e, h1, by simp only [maxLen] at h2; omega, fun k hk => ?_⟩
  obtain ⟨b, o, e, hb, hc⟩ := SlOf.opens lenL h3 (by omega)
  exact ⟨b, o, e, hb, fun w' hw' i x hx => ⟨by have := cell_later hw' (hc i x hx 0 _ rfl); simpa [Nat.add_assoc] using this, by have := cell_later hw' (hc i x hx 1 _ rfl); simpa [Nat.add_assoc] using this, by have := cell_later hw' (hc i x hx 2 _ rfl); simpa [Nat.add_assoc] using this⟩⟩

theorem Dies.cells {w : World} {v : Value} {xs : List Die} (h : Dies w v xs) : ∃ A c, v = .slice A xs.length c ∧ xs.length ≤ c ∧ (c : Int) ≤ 9223372036854775807 ∧
    ∀ k, k < xs.length → ∃ b o, A = some ⟨b, o, none⟩ ∧ b < w.heap.size ∧ ∀ w', Below w.heap.size w w' → ∀ i x, xs[i]? = some x → w'.cell? ⟨b, o + i * 2, none⟩ = some (.int .i64 x.side) ∧ w'.cell? ⟨b, o + i * 2 + 1, none⟩ = some (.int .i64 x.num) := by
  obtain ⟨A, c, e, h1, h2, h3⟩ := h
  refine ⟨A, c, e, h1, by simp only [maxLen] at h2; omega, fun k hk => ?_⟩
  obtain ⟨b, o, e, hb, hc⟩ := SlOf.opens lenD h3 (by omega)
  exact ⟨b, o, e, hb, fun w' hw' i x hx => ⟨by have := cell_later hw' (hc i x hx 0 _ rfl); simpa [Nat.add_assoc] using this, by have := cell_later hw' (hc i x hx 1 _ rfl); simpa [Nat.add_assoc] using this⟩⟩

theorem neqDie (a0 a1 b0 b1 : Int) (w : World) : (binOp .neq 143 (.agg #[.int .i64 a0, .int .i64 a1]) (.agg #[.int .i64 b0, .int .i64 b1])).run Tryz.prog w =
    .ok (.bool (decide ((⟨a0, a1⟩ : Die) ≠ ⟨b0, b1⟩))) w := by
  have uI := Tryz.underlying3
  have aI := Tryz.isAgg3
  have hS : Tryz.prog.underlying 143 = some (.struct (Tryz.prog.fieldsOf 143)) := by kernel_rfl
  have hp : Tryz.prog.stoodInHeld 143 = false := by kernel_rfl
  rw [run_neq_struct, show (10000 : Nat) = 9999 + 1 from rfl, run_equalIn_agg w 9999 143 _ _ hS hp]
  simp only [Program.fieldsOf, Tryz.underlying143]
  go_simp
  by_cases h0 : a0 = b0 <;> by_cases h1 : a1 = b1 <;> simp [h0, h1]

theorem neqDie_ (x y : Die) (w : World) : (binOp .neq 143 (.agg #[.int .i64 x.side, .int .i64 x.num]) (.agg #[.int .i64 y.side, .int .i64 y.num])).run Tryz.prog w = .ok (.bool (neB x y)) w := neqDie _ _ _ _ w

set_option maxHeartbeats 400000 in
theorem baseDies_ok (v u : Value) (xs ys : List Die) (w : World) (h : Dies w v xs) (h' : Dies w u ys) :
    Calls Tryz.prog 85 #[v, u] w fun e w' => e = .returned (.bool (decide (xs = ys))) ∧ Below w.heap.size w w' := by
  obtain ⟨A, c, rfl, h1, h2, hc⟩ := h.cells
  obtain ⟨A', c', rfl, h1', h2', hc'⟩ := h'.cells
  by_cases hne : xs.length = ys.length
  · have hne' : ((xs.length : Int) != (ys.length : Int)) = false := by simp; omega
    have Hne := Lib.hid hne; clear hne
    go_enter Tryz.func85, Tryz.ntmps85
    go_wp2
    go_loopw [5] (fun i wr => ∃ k : Nat, k ≤ xs.length ∧ i = .int .i64 k ∧ xs.take k = ys.take k ∧ Below w.heap.size w wr) (fun i _ => xs.length - (intOf i).toNat)
    case atStart => exact ⟨0, Nat.zero_le _, rfl, by simp, Below.refl _ _⟩
    case round =>
      obtain ⟨k, hk, rfl, hr, hb⟩ := hrel
      have Hr := Lib.hid hr; clear hr
      by_cases hlt : k < xs.length
      · have hlt' : k < ys.length := by have := Hne.out; omega
        obtain ⟨b, o, rfl, _, hc⟩ := hc k hlt
        obtain ⟨b', o', rfl, _, hc'⟩ := hc' k hlt'
        obtain ⟨x, hx⟩ := get_of_lt hlt
        obtain ⟨y, hy⟩ := get_of_lt hlt'
        have ⟨c0, c1⟩ := hc wr hb k x hx
        have ⟨d0, d1⟩ := hc' wr hb k y hy
        have Hx := Lib.hid hx; clear hx hc
        have Hy := Lib.hid hy; clear hy hc'
        have hl1 : (k : Int) < (xs.length : Int) := by omega
        have hl2 : (k : Int) < (ys.length : Int) := by omega
        have hl0 : (0 : Int) ≤ (k : Int) := by omega
        have nL := neqDie_
        by_cases hxy : x = y
        · have hd : neB x y = false := neB_no hxy
          have Hxy := Lib.hid hxy; clear hxy
          go_wp2
          go_quiet (fail)
          go_wp2
          refine ⟨?rel, ?measure⟩
          case rel => exact ⟨k + 1, by omega, by go_num, eq_snoc Hx.out Hy.out Hr.out Hxy.out, hb.trans (below_drewN (Below.refl _ _) _)⟩
          case measure => simp [intOf]; omega
        · have hd : neB x y = true := neB_yes hxy
          go_wp2
          go_quiet (fail)
          go_wp2
          go_ret
          exact ⟨ret_bool (by simpa using ne_at Hx.out Hy.out hxy), hb.trans (below_drewN (Below.refl _ _) _)⟩
      · go_wp2
        go_ret
        exact ⟨ret_bool (by simpa using eq_end Hne.out hlt Hr.out), hb⟩
  · have hne' : ((xs.length : Int) != (ys.length : Int)) = true := by simp; omega
    have Hne := Lib.hid hne; clear hne
    go_enter Tryz.func85, Tryz.ntmps85
    go_wp2
    go_ret
    exact ⟨ret_bool (by simp; exact fun e => Hne.out (by rw [e])), Below.refl _ _⟩

theorem Pairs.cells {w : World} {v : Value} {xs : List Pair} (h : Pairs w v xs) : ∃ A c, v = .slice A xs.length c ∧ xs.length ≤ c ∧ (c : Int) ≤ 9223372036854775807 ∧
    ∀ k, k < xs.length → ∃ b o, A = some ⟨b, o, none⟩ ∧ b < w.heap.size ∧ ∀ w', Below w.heap.size w w' → ∀ i x, xs[i]? = some x → w'.cell? ⟨b, o + i * 2, none⟩ = some (.int .i64 x.a) ∧ w'.cell? ⟨b, o + i * 2 + 1, none⟩ = some (.int .i64 x.b) := by
  obtain ⟨A, c, e, h1, h2, h3⟩ := h
  refine ⟨A, c, e, h1, by simp only [maxLen] at h2; omega, fun k hk => ?_⟩
  obtain ⟨b, o, e, hb, hc⟩ := SlOf.opens lenP h3 (by omega)
  exact ⟨b, o, e, hb, fun w' hw' i x hx => ⟨by have := cell_later hw' (hc i x hx 0 _ rfl); simpa [Nat.add_assoc] using this, by have := cell_later hw' (hc i x hx 1 _ rfl); simpa [Nat.add_assoc] using this⟩⟩

theorem eqlPair (a0 a1 b0 b1 : Int) (w : World) : (binOp .eql 87 (.agg #[.int .i64 a0, .int .i64 a1]) (.agg #[.int .i64 b0, .int .i64 b1])).run Tryz.prog w =
    .ok (.bool (decide ((⟨a0, a1⟩ : Pair) = ⟨b0, b1⟩))) w := by
  have uI := Tryz.underlying3
  have aI := Tryz.isAgg3
  have hS : Tryz.prog.underlying 87 = some (.struct (Tryz.prog.fieldsOf 87)) := by kernel_rfl
  have hp : Tryz.prog.stoodInHeld 87 = false := by kernel_rfl
  rw [run_eql_struct, show (10000 : Nat) = 9999 + 1 from rfl, run_equalIn_agg w 9999 87 _ _ hS hp]
  simp only [Program.fieldsOf, Tryz.underlying87]
  go_simp
  by_cases h0 : a0 = b0 <;> by_cases h1 : a1 = b1 <;> simp [h0, h1]

theorem neqPair (a0 a1 b0 b1 : Int) (w : World) : (binOp .neq 87 (.agg #[.int .i64 a0, .int .i64 a1]) (.agg #[.int .i64 b0, .int .i64 b1])).run Tryz.prog w =
    .ok (.bool (decide ((⟨a0, a1⟩ : Pair) ≠ ⟨b0, b1⟩))) w := by
  have uI := Tryz.underlying3
  have aI := Tryz.isAgg3
  have hS : Tryz.prog.underlying 87 = some (.struct (Tryz.prog.fieldsOf 87)) := by kernel_rfl
  have hp : Tryz.prog.stoodInHeld 87 = false := by kernel_rfl
  rw [run_neq_struct, show (10000 : Nat) = 9999 + 1 from rfl, run_equalIn_agg w 9999 87 _ _ hS hp]
  simp only [Program.fieldsOf, Tryz.underlying87]
  go_simp
  by_cases h0 : a0 = b0 <;> by_cases h1 : a1 = b1 <;> simp [h0, h1]

theorem eqlPair_ (x y : Pair) (w : World) : (binOp .eql 87 (.agg #[.int .i64 x.a, .int .i64 x.b]) (.agg #[.int .i64 y.a, .int .i64 y.b])).run Tryz.prog w = .ok (.bool (eqB x y)) w := eqlPair _ _ _ _ w

theorem neqPair_ (x y : Pair) (w : World) : (binOp .neq 87 (.agg #[.int .i64 x.a, .int .i64 x.b]) (.agg #[.int .i64 y.a, .int .i64 y.b])).run Tryz.prog w = .ok (.bool (neB x y)) w := neqPair _ _ _ _ w

set_option maxHeartbeats 400000 in
theorem basePairs_ok (v u : Value) (xs ys : List Pair) (w : World) (h : Pairs w v xs) (h' : Pairs w u ys) :
    Calls Tryz.prog 29 #[v, u] w fun e w' => e = .returned (.bool (decide (xs = ys))) ∧ Below w.heap.size w w' := by
  obtain ⟨A, c, rfl, h1, h2, hc⟩ := h.cells
  obtain ⟨A', c', rfl, h1', h2', hc'⟩ := h'.cells
  by_cases hne : xs.length = ys.length
  · have hne' : ((xs.length : Int) != (ys.length : Int)) = false := by simp; omega
    have Hne := Lib.hid hne; clear hne
    go_enter Tryz.func29, Tryz.ntmps29
    go_wp2
    go_loopw [5] (fun i wr => ∃ k : Nat, k ≤ xs.length ∧ i = .int .i64 k ∧ xs.take k = ys.take k ∧ Below w.heap.size w wr) (fun i _ => xs.length - (intOf i).toNat)
    case atStart => exact ⟨0, Nat.zero_le _, rfl, by simp, Below.refl _ _⟩
    case round =>
      obtain ⟨k, hk, rfl, hr, hb⟩ := hrel
      have Hr := Lib.hid hr; clear hr
      by_cases hlt : k < xs.length
      · have hlt' : k < ys.length := by have := Hne.out; omega
        obtain ⟨b, o, rfl, _, hc⟩ := hc k hlt
        obtain ⟨b', o', rfl, _, hc'⟩ := hc' k hlt'
        obtain ⟨x, hx⟩ := get_of_lt hlt
        obtain ⟨y, hy⟩ := get_of_lt hlt'
        have ⟨c0, c1⟩ := hc wr hb k x hx
        have ⟨d0, d1⟩ := hc' wr hb k y hy
        have Hx := Lib.hid hx; clear hx hc
        have Hy := Lib.hid hy; clear hy hc'
        have hl1 : (k : Int) < (xs.length : Int) := by omega
        have hl2 : (k : Int) < (ys.length : Int) := by omega
        have hl0 : (0 : Int) ≤ (k : Int) := by omega
        have nL := neqPair_
        by_cases hxy : x = y
        · have hd : neB x y = false := neB_no hxy
          have Hxy := Lib.hid hxy; clear hxy
          go_wp2
          go_quiet (fail)
          go_wp2
          refine ⟨?rel, ?measure⟩
          case rel => exact ⟨k + 1, by omega, by go_num, eq_snoc Hx.out Hy.out Hr.out Hxy.out, hb.trans (below_drewN (Below.refl _ _) _)⟩
          case measure => simp [intOf]; omega
        · have hd : neB x y = true := neB_yes hxy
          go_wp2
          go_quiet (fail)
          go_wp2
          go_ret
          exact ⟨ret_bool (by simpa using ne_at Hx.out Hy.out hxy), hb.trans (below_drewN (Below.refl _ _) _)⟩
      · go_wp2
        go_ret
        exact ⟨ret_bool (by simpa using eq_end Hne.out hlt Hr.out), hb⟩
  · have hne' : ((xs.length : Int) != (ys.length : Int)) = true := by simp; omega
    have Hne := Lib.hid hne; clear hne
    go_enter Tryz.func29, Tryz.ntmps29
    go_wp2
    go_ret
    exact ⟨ret_bool (by simp; exact fun e => Hne.out (by rw [e])), Below.refl _ _⟩

theorem Specs.cells {w : World} {v : Value} {xs : List Spec} (h : Specs w v xs) : ∃ A c, v = .slice A xs.length c ∧ xs.length ≤ c ∧ (c : Int) ≤ 9223372036854775807 ∧
    ∀ k, k < xs.length → ∃ b o, A = some ⟨b, o, none⟩ ∧ b < w.heap.size ∧ ∀ w', Below w.heap.size w w' → ∀ i x, xs[i]? = some x → w'.cell? ⟨b, o + i * 7, none⟩ = some (.int .i64 x.id) ∧ w'.cell? ⟨b, o + i * 7 + 1, none⟩ = some (.int .i64 x.obv) ∧ w'.cell? ⟨b, o + i * 7 + 2, none⟩ = some (.int .i64 x.rev) ∧ w'.cell? ⟨b, o + i * 7 + 3, none⟩ = some (.int .i64 x.os) ∧ w'.cell? ⟨b, o + i * 7 + 4, none⟩ = some (.int .i64 x.rs) ∧ w'.cell? ⟨b, o + i * 7 + 5, none⟩ = some (.int .i64 x.ax) ∧ w'.cell? ⟨b, o + i * 7 + 6, none⟩ = some (.int .i64 x.wt) := by
  obtain ⟨A, c, e, h1, h2, h3⟩ := h
  refine ⟨A, c, e, h1, by simp only [maxLen] at h2; omega, fun k hk => ?_⟩
  obtain ⟨b, o, e, hb, hc⟩ := SlOf.opens lenS h3 (by omega)
  exact ⟨b, o, e, hb, fun w' hw' i x hx => ⟨by have := cell_later hw' (hc i x hx 0 _ rfl); simpa [Nat.add_assoc] using this, by have := cell_later hw' (hc i x hx 1 _ rfl); simpa [Nat.add_assoc] using this, by have := cell_later hw' (hc i x hx 2 _ rfl); simpa [Nat.add_assoc] using this, by have := cell_later hw' (hc i x hx 3 _ rfl); simpa [Nat.add_assoc] using this, by have := cell_later hw' (hc i x hx 4 _ rfl); simpa [Nat.add_assoc] using this, by have := cell_later hw' (hc i x hx 5 _ rfl); simpa [Nat.add_assoc] using this, by have := cell_later hw' (hc i x hx 6 _ rfl); simpa [Nat.add_assoc] using this⟩⟩

theorem neqSpec (a0 a1 a2 a3 a4 a5 a6 b0 b1 b2 b3 b4 b5 b6 : Int) (w : World) : (binOp .neq 31 (.agg #[.int .i64 a0, .int .i64 a1, .int .i64 a2, .int .i64 a3, .int .i64 a4, .int .i64 a5, .int .i64 a6]) (.agg #[.int .i64 b0, .int .i64 b1, .int .i64 b2, .int .i64 b3, .int .i64 b4, .int .i64 b5, .int .i64 b6])).run Tryz.prog w =
    .ok (.bool (decide ((⟨a0, a1, a2, a3, a4, a5, a6⟩ : Spec) ≠ ⟨b0, b1, b2, b3, b4, b5, b6⟩))) w := by
  have uI := Tryz.underlying3
  have aI := Tryz.isAgg3
  have hS : Tryz.prog.underlying 31 = some (.struct (Tryz.prog.fieldsOf 31)) := by kernel_rfl
  have hp : Tryz.prog.stoodInHeld 31 = false := by kernel_rfl
  rw [run_neq_struct, show (10000 : Nat) = 9999 + 1 from rfl, run_equalIn_agg w 9999 31 _ _ hS hp]
  simp only [Program.fieldsOf, Tryz.underlying31]
  go_simp
  by_cases h0 : a0 = b0 <;> by_cases h1 : a1 = b1 <;> by_cases h2 : a2 = b2 <;> by_cases h3 : a3 = b3 <;> by_cases h4 : a4 = b4 <;> by_cases h5 : a5 = b5 <;> by_cases h6 : a6 = b6 <;> simp [h0, h1, h2, h3, h4, h5, h6]

theorem neqSpec_ (x y : Spec) (w : World) : (binOp .neq 31 (.agg #[.int .i64 x.id, .int .i64 x.obv, .int .i64 x.rev, .int .i64 x.os, .int .i64 x.rs, .int .i64 x.ax, .int .i64 x.wt]) (.agg #[.int .i64 y.id, .int .i64 y.obv, .int .i64 y.rev, .int .i64 y.os, .int .i64 y.rs, .int .i64 y.ax, .int .i64 y.wt])).run Tryz.prog w = .ok (.bool (neB x y)) w := neqSpec _ _ _ _ _ _ _ _ _ _ _ _ _ _ w

set_option maxHeartbeats 400000 in
theorem baseSpecs_ok (v u : Value) (xs ys : List Spec) (w : World) (h : Specs w v xs) (h' : Specs w u ys) :
    Calls Tryz.prog 27 #[v, u] w fun e w' => e = .returned (.bool (decide (xs = ys))) ∧ Below w.heap.size w w' := by
  obtain ⟨A, c, rfl, h1, h2, hc⟩ := h.cells
  obtain ⟨A', c', rfl, h1', h2', hc'⟩ := h'.cells
  by_cases hne : xs.length = ys.length
  · have hne' : ((xs.length : Int) != (ys.length : Int)) = false := by simp; omega
    have Hne := Lib.hid hne; clear hne
    go_enter Tryz.func27, Tryz.ntmps27
    go_wp2
    go_loopw [5] (fun i wr => ∃ k : Nat, k ≤ xs.length ∧ i = .int .i64 k ∧ xs.take k = ys.take k ∧ Below w.heap.size w wr) (fun i _ => xs.length - (intOf i).toNat)
    case atStart => exact ⟨0, Nat.zero_le _, rfl, by simp, Below.refl _ _⟩
    case round =>
      obtain ⟨k, hk, rfl, hr, hb⟩ := hrel
      have Hr := Lib.hid hr; clear hr
      by_cases hlt : k < xs.length
      · have hlt' : k < ys.length := by have := Hne.out; omega
        obtain ⟨b, o, rfl, _, hc⟩ := hc k hlt
        obtain ⟨b', o', rfl, _, hc'⟩ := hc' k hlt'
        obtain ⟨x, hx⟩ := get_of_lt hlt
        obtain ⟨y, hy⟩ := get_of_lt hlt'
        have ⟨c0, c1, c2, c3, c4, c5, c6⟩ := hc wr hb k x hx
        have ⟨d0, d1, d2, d3, d4, d5, d6⟩ := hc' wr hb k y hy
        have Hx := Lib.hid hx; clear hx hc
        have Hy := Lib.hid hy; clear hy hc'
        have hl1 : (k : Int) < (xs.length : Int) := by omega
        have hl2 : (k : Int) < (ys.length : Int) := by omega
        have hl0 : (0 : Int) ≤ (k : Int) := by omega
        have nL := neqSpec_
        by_cases hxy : x = y
        · have hd : neB x y = false := neB_no hxy
          have Hxy := Lib.hid hxy; clear hxy
          go_wp2
          go_quiet (fail)
          go_wp2
          refine ⟨?rel, ?measure⟩
          case rel => exact ⟨k + 1, by omega, by go_num, eq_snoc Hx.out Hy.out Hr.out Hxy.out, hb.trans (below_drewN (Below.refl _ _) _)⟩
          case measure => simp [intOf]; omega
        · have hd : neB x y = true := neB_yes hxy
          go_wp2
          go_quiet (fail)
          go_wp2
          go_ret
          exact ⟨ret_bool (by simpa using ne_at Hx.out Hy.out hxy), hb.trans (below_drewN (Below.refl _ _) _)⟩
      · go_wp2
        go_ret
        exact ⟨ret_bool (by simpa using eq_end Hne.out hlt Hr.out), hb⟩
  · have hne' : ((xs.length : Int) != (ys.length : Int)) = true := by simp; omega
    have Hne := Lib.hid hne; clear hne
    go_enter Tryz.func27, Tryz.ntmps27
    go_wp2
    go_ret
    exact ⟨ret_bool (by simp; exact fun e => Hne.out (by rw [e])), Below.refl _ _⟩

end Go.Proofs.YthnckicnnhkkaaaGreat
