/- The functions of coinagebase that say whether numbers, lists, specimens and graphs are valid. Condition: the arguments read as lists. -/
import Derived.Test.YtnaoiochfdipiaaCmp
namespace Go.Proofs.Ytnaoiochfdipiaa
open Go.RowKit

def inB (n lo hi : Int) : Bool := decide (lo ≤ n) && decide (n ≤ hi)
set_option maxHeartbeats 400000 in
theorem In_ok (n lo hi : Int) (w : World) : Calls Try.prog 33 #[.int .i64 n, .int .i64 lo, .int .i64 hi] w fun e w' => e = .returned (.bool (inB n lo hi)) ∧ w = w' := by
  by_cases h1 : lo ≤ n
  · have hd : decide (lo ≤ n) = true := by simpa using h1
    go_enter Try.func33, Try.ntmps33
    go_wp2
    go_ret
    exact ⟨ret_bool (by simp [inB, h1]), rfl⟩
  · have hd : decide (lo ≤ n) = false := by simpa using h1
    go_enter Try.func33, Try.ntmps33
    go_wp2
    go_ret
    exact ⟨ret_bool (by simp only [inB, hd, Bool.false_and]), rfl⟩
theorem Id_ok (n : Int) (w : World) : Calls Try.prog 36 #[.int .i64 n] w fun e w' => e = .returned (.bool (inB n 1 9999)) ∧ w = w' := by
  go_enter Try.func36, Try.ntmps36
  go_wp2_with (go_at_call 33; refine (In_ok _ _ _ _).mono ?_; rintro e w' ⟨rfl, rfl⟩)
  go_ret
  exact ⟨rfl, rfl⟩

def hasB (xs : List Int) (x : Int) : Bool := xs.contains x
theorem hasB_snoc {xs : List Int} {k : Nat} {y x : Int} (h : xs[k]? = some y) (h0 : hasB (xs.take k) x = false) : hasB (xs.take (k + 1)) x = (y == x) := by
  unfold hasB at *
  rw [take_snoc' h, List.contains_eq_any_beq, List.any_append, ← List.contains_eq_any_beq, h0]
  simp [Bool.beq_comm]
theorem hasB_yes {xs : List Int} {k : Nat} {y x : Int} (h : xs[k]? = some y) (h0 : (y == x) = true) : hasB xs x = true := by
  unfold hasB
  have := List.mem_of_getElem? h
  simp at h0 ⊢
  subst h0
  exact this
theorem hasB_iff (xs : List Int) (x : Int) : hasB xs x = true ↔ x ∈ xs := by simp [hasB]

set_option maxHeartbeats 400000 in
theorem Has_ok (v : Value) (xs : List Int) (x : Int) (w : World) (h : Ints w v xs) :
    Calls Try.prog 32 #[v, .int .i64 x] w fun e w' => e = .returned (.bool (hasB xs x)) ∧ w = w' := by
  obtain ⟨A, c, rfl, h1, h2, hc⟩ := h.cells
  go_enter Try.func32, Try.ntmps32
  go_wp2
  go_loop [5] (fun i => ∃ k : Nat, k ≤ xs.length ∧ i = .int .i64 k ∧ hasB (xs.take k) x = false) (fun i => xs.length - (intOf i).toNat)
  case atStart => exact ⟨0, Nat.zero_le _, rfl, by simp [hasB]⟩
  case round =>
    obtain ⟨k, hk, rfl, hr⟩ := hrel
    have Hr := Lib.hid hr; clear hr
    by_cases hlt : k < xs.length
    · obtain ⟨b, o, rfl, hb, hc⟩ := hc k hlt
      obtain ⟨y, hy⟩ := get_of_lt hlt
      have c1 := hc w (Below.refl _ _) k y hy
      have Hy := Lib.hid hy; clear hy hc
      go_wp2
      · go_ret
        exact ⟨ret_bool (hasB_yes Hy.out (by assumption)).symm, rfl⟩
      · go_round
        case rel => exact ⟨k + 1, by omega, by go_num, by rw [hasB_snoc Hy.out Hr.out]; assumption⟩
        case measure => simp [intOf]; omega
    · go_wp2
      go_ret
      have := Hr.out
      rw [List.take_of_length_le (by omega)] at this
      exact ⟨ret_bool this.symm, rfl⟩

/-- Strictly ascending numbers from lo to hi. -/
def ascB (xs : List Int) (lo hi : Int) : Bool := decide ((∀ x ∈ xs, lo ≤ x ∧ x ≤ hi) ∧ xs.Pairwise (· < ·))
theorem ascB_nil (lo hi : Int) : ascB [] lo hi = true := by simp [ascB]
theorem asc_snoc (xs : List Int) (lo hi x : Int) (h : ascB xs lo hi = true) : ascB (xs ++ [x]) lo hi = (decide (lo ≤ x) && decide (x ≤ hi) && (xs.getLast?.all fun y => decide (y < x))) := by
  simp only [ascB, decide_eq_true_eq] at h
  rw [Bool.eq_iff_iff]
  simp only [ascB, decide_eq_true_eq, Bool.and_eq_true, List.pairwise_append, List.mem_append, List.mem_singleton]
  constructor
  · rintro ⟨ha, hp, _, hl⟩
    refine ⟨ha x (.inr rfl), ?_⟩
    cases hx : xs.getLast? with
    | none => rfl
    | some y => simp; exact hl y (List.mem_of_getLast? hx) x rfl
  · rintro ⟨ha, hl⟩
    refine ⟨fun y hy => ?_, h.2, List.pairwise_singleton _ _, fun y hy z hz => ?_⟩
    · rcases hy with hy | rfl
      · exact h.1 y hy
      · exact ha
    · subst hz
      cases hx : xs.getLast? with
      | none => rw [List.getLast?_eq_none_iff] at hx; subst hx; cases hy
      | some u =>
        rw [hx] at hl
        simp at hl
        obtain ⟨l, rfl⟩ := List.getLast?_eq_some_iff.1 hx
        have h3 := (List.pairwise_append.1 h.2).2.2
        simp only [List.mem_append, List.mem_singleton] at hy
        rcases hy with hy | rfl
        · have := h3 y hy u (by simp); omega
        · exact hl
theorem ascB_take {xs : List Int} {lo hi : Int} (h : ascB xs lo hi = true) (k : Nat) : ascB (xs.take k) lo hi = true := by
  simp only [ascB, decide_eq_true_eq] at *
  exact ⟨fun x hx => h.1 x (List.mem_of_mem_take hx), h.2.sublist (List.take_sublist _ _)⟩
theorem last_take {α : Type} {xs : List α} {k : Nat} (hk : k < xs.length) : (xs.take (k + 1)).getLast? = xs[k]? := by
  rw [List.getLast?_take]
  simp
  rw [List.getElem?_eq_getElem hk]
  rfl
theorem asc_go {xs : List Int} {lo hi x : Int} {k : Nat} (hx : xs[k]? = some x) (h : ascB (xs.take k) lo hi = true) (h1 : lo ≤ x) (h2 : x ≤ hi) (h3 : ∀ y, 0 < k → xs[k - 1]? = some y → y < x) : ascB (xs.take (k + 1)) lo hi = true := by
  rw [take_snoc' hx, asc_snoc _ _ _ _ h]
  simp only [h1, h2, decide_true, Bool.and_self, Bool.true_and]
  cases k with
  | zero => simp
  | succ k =>
    rw [last_take (by have := lt_of_get hx; omega)]
    cases hy : xs[k]? with
    | none => rfl
    | some y => simpa using h3 y (by omega) hy
theorem asc_stop {xs : List Int} {lo hi x : Int} {k : Nat} (hx : xs[k]? = some x) (h : ascB (xs.take k) lo hi = true) (h1 : ¬ (lo ≤ x ∧ x ≤ hi ∧ ∀ y, 0 < k → xs[k - 1]? = some y → y < x)) : ascB xs lo hi = false := by
  rw [Bool.eq_false_iff]
  intro ha
  have := ascB_take ha (k + 1)
  rw [take_snoc' hx, asc_snoc _ _ _ _ h] at this
  simp only [Bool.and_eq_true, decide_eq_true_eq] at this
  refine h1 ⟨this.1.1, this.1.2, fun y hk hy => ?_⟩
  cases k with
  | zero => omega
  | succ k =>
    rw [last_take (by have := lt_of_get hx; omega)] at this
    simp only [Nat.add_sub_cancel] at hy
    rw [hy] at this
    simpa using this.2

set_option maxHeartbeats 400000 in
theorem Ascending_ok (v : Value) (xs : List Int) (lo hi : Int) (w : World) (h : Ints w v xs) :
    Calls Try.prog 35 #[v, .int .i64 lo, .int .i64 hi] w fun e w' => e = .returned (.bool (ascB xs lo hi)) ∧ Below w.heap.size w w' := by
  obtain ⟨A, c, rfl, h1, h2, hc⟩ := h.cells
  go_enter Try.func35, Try.ntmps35
  go_wp2
  go_loopw [7] (fun i wr => ∃ k : Nat, k ≤ xs.length ∧ i = .int .i64 k ∧ ascB (xs.take k) lo hi = true ∧ Below w.heap.size w wr) (fun i _ => xs.length - (intOf i).toNat)
  case atStart => exact ⟨0, Nat.zero_le _, rfl, by simp [ascB_nil], Below.refl _ _⟩
  case round =>
    obtain ⟨k, hk, rfl, hr, hb⟩ := hrel
    have Hr := Lib.hid hr; clear hr
    by_cases hlt : k < xs.length
    · obtain ⟨b, o, rfl, hbb, hc⟩ := hc k hlt
      obtain ⟨x, hx⟩ := get_of_lt hlt
      have c1 := hc wr hb k x hx
      have hl1 : (k : Int) < (xs.length : Int) := by omega
      have hl0 : (0 : Int) ≤ (k : Int) := by omega
      by_cases a1 : lo ≤ x
      · have d1 : decide (x < lo) = false := by simpa using a1
        by_cases a2 : x ≤ hi
        · have d2 : decide (hi < x) = false := by simpa using a2
          by_cases a3 : 0 < k
          · have d3 : decide ((0 : Int) < (k : Int)) = true := by simp; omega
            obtain ⟨y, hy⟩ := get_of_lt (show k - 1 < xs.length by omega)
            have c2 := hc wr hb (k - 1) y hy
            have Hx := Lib.hid hx; have Hy := Lib.hid hy; clear hx hy hc
            by_cases a4 : x ≤ y
            · have d4 : decide (x ≤ y) = true := by simpa using a4
              go_wp2
              go_quiet (fail)
              go_wp2
              go_ret
              exact ⟨ret_bool (asc_stop Hx.out Hr.out (fun ⟨_, _, e⟩ => by have := e y a3 Hy.out; omega)).symm, hb.trans (below_drewN (Below.refl _ _) _)⟩
            · have d4 : decide (x ≤ y) = false := by simpa using a4
              go_wp2
              go_quiet (fail)
              go_wp2
              refine ⟨?rel, ?measure⟩
              case rel => exact ⟨k + 1, by omega, by go_num, asc_go Hx.out Hr.out a1 a2 (fun z _ hz => by rw [Hy.out] at hz; cases hz; omega), hb.trans (below_drewN (Below.refl _ _) _)⟩
              case measure => simp [intOf]; omega
          · have d3 : decide ((0 : Int) < (k : Int)) = false := by simp; omega
            have Hx := Lib.hid hx; clear hx hc
            go_wp2
            go_quiet (fail)
            go_wp2
            refine ⟨?rel, ?measure⟩
            case rel => exact ⟨k + 1, by omega, by go_num, asc_go Hx.out Hr.out a1 a2 (fun z hz => absurd hz a3), hb.trans (below_drewN (Below.refl _ _) _)⟩
            case measure => simp [intOf]; omega
        · have d2 : decide (hi < x) = true := by simpa using a2
          have Hx := Lib.hid hx; clear hx hc
          go_wp2
          go_quiet (fail)
          go_wp2
          go_ret
          exact ⟨ret_bool (asc_stop Hx.out Hr.out (fun ⟨_, e, _⟩ => by omega)).symm, hb.trans (below_drewN (Below.refl _ _) _)⟩
      · have d1 : decide (x < lo) = true := by simpa using a1
        have Hx := Lib.hid hx; clear hx hc
        go_wp2
        go_quiet (fail)
        go_wp2
        go_ret
        exact ⟨ret_bool (asc_stop Hx.out Hr.out (fun ⟨e, _⟩ => by omega)).symm, hb.trans (below_drewN (Below.refl _ _) _)⟩
    · go_wp2
      go_ret
      have := Hr.out
      rw [List.take_of_length_le (by omega)] at this
      exact ⟨ret_bool this.symm, hb⟩

/-- Whether a specimen is valid. -/
def specB (s : Spec) : Bool := inB s.id 1 9999 && (inB s.obv 1 999 && inB s.rev 1 999 && inB s.os 1 9 && inB s.rs 1 9) && inB s.ax 0 11 && inB s.wt 1 200000
end Go.Proofs.Ytnaoiochfdipiaa
