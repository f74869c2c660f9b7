/- linkage.numbers, has. Condition: the arguments read as lists. -/
import Derived.Test.YtnaoiochfdipiaaLinkC
namespace Go.Proofs.Ytnaoiochfdipiaa
open Go.RowKit Go.Shelf

def numbersB (xs : List Int) : Bool := ascB xs 1 999 && decide (xs.length ≤ 32)
set_option maxHeartbeats 1000000 in
theorem numbers_ok (v : Value) (xs : List Int) (w : World) (h : Ints w v xs) :
    Calls Try.prog 58 #[v] w fun e w' => e = .returned (.bool (numbersB xs)) ∧ w = w' := by
  obtain ⟨A, c, rfl, h1, h2, hc⟩ := h.cells
  go_enter Try.func58, Try.ntmps58
  go_wp2
  go_loop [7] (fun i => ∃ k : Nat, k ≤ xs.length ∧ i = .int .i64 k ∧ ascB (xs.take k) 1 999 = true) (fun i => xs.length - (intOf i).toNat)
  case atStart => exact ⟨0, Nat.zero_le _, rfl, by simp [ascB_nil]⟩
  case round =>
    obtain ⟨k, hk, rfl, hr⟩ := hrel
    have Hr := Lib.hid hr; clear hr
    have no : ascB xs 1 999 = false → Ending.returned (.bool false) = .returned (.bool (numbersB xs)) := fun h => ret_bool (by simp [numbersB, h])
    have No := Lib.hid no; clear no
    by_cases hlt : k < xs.length
    · obtain ⟨b, o, rfl, hbb, hc⟩ := hc k hlt
      obtain ⟨x, hx⟩ := get_of_lt hlt
      have c1 := hc w (Below.refl _ _) k x hx
      have hl1 : (k : Int) < (xs.length : Int) := by omega
      have hl0 : (0 : Int) ≤ (k : Int) := by omega
      by_cases a1 : 1 ≤ x
      · have d1 : decide (x < 1) = false := by simpa using a1
        by_cases a2 : x ≤ 999
        · have d2 : decide (999 < x) = false := by simpa using a2
          by_cases a3 : 0 < k
          · have d3 : decide ((0 : Int) < (k : Int)) = true := by simp; omega
            obtain ⟨y, hy⟩ := get_of_lt (show k - 1 < xs.length by omega)
            have c2 := hc w (Below.refl _ _) (k - 1) y hy
            have Hx := Lib.hid hx; have Hy := Lib.hid hy; clear hx hy hc
            by_cases a4 : x ≤ y
            · have d4 : decide (x ≤ y) = true := by simpa using a4
              go_wp2
              go_ret
              exact ⟨No.out (asc_stop Hx.out Hr.out (fun ⟨_, _, e⟩ => by have := e y a3 Hy.out; omega)), rfl⟩
            · have d4 : decide (x ≤ y) = false := by simpa using a4
              go_wp2
              go_round
              case rel => exact ⟨k + 1, by omega, by go_num, asc_go Hx.out Hr.out a1 a2 (fun z _ hz => by rw [Hy.out] at hz; cases hz; omega)⟩
              case measure => simp [intOf]; omega
          · have d3 : decide ((0 : Int) < (k : Int)) = false := by simp; omega
            have Hx := Lib.hid hx; clear hx hc
            go_wp2
            go_round
            case rel => exact ⟨k + 1, by omega, by go_num, asc_go Hx.out Hr.out a1 a2 (fun z hz => absurd hz a3)⟩
            case measure => simp [intOf]; omega
        · have d2 : decide (999 < x) = true := by simpa using a2
          have Hx := Lib.hid hx; clear hx hc
          go_wp2
          go_ret
          exact ⟨No.out (asc_stop Hx.out Hr.out (fun ⟨_, e, _⟩ => by omega)), rfl⟩
      · have d1 : decide (x < 1) = true := by simpa using a1
        have Hx := Lib.hid hx; clear hx hc
        go_wp2
        go_ret
        exact ⟨No.out (asc_stop Hx.out Hr.out (fun ⟨e, _⟩ => by omega)), rfl⟩
    · have e1 := Hr.out
      rw [List.take_of_length_le (by omega)] at e1
      have E1 := Lib.hid e1; clear e1 Hr
      go_wp2
      go_ret
      refine ⟨ret_bool ?_, rfl⟩
      rw [numbersB, E1.out, Bool.true_and]
      exact decide_eq_decide.2 (by omega)

set_option maxHeartbeats 1000000 in
theorem searchI_nil (A : Option Addr) (c : Nat) (x : Int) (w : World) :
    Calls Try.prog 69 #[.slice A 0 c, .int .i64 x] w fun e w' => e = .returned (.tuple #[.int .i64 0, .bool false]) ∧ Below w.heap.size w w' := by
  go_enter Try.func69, Try.ntmps69
  go_wp2
  refine wp_loop_rounds 1 ?_
  rw [rounds_succ]
  go_wp2
  go_ret2
  exact ⟨rfl, Below.refl _ _⟩
theorem searchI_ok (v : Value) (xs : List Int) (x : Int) (w : World) (h : Ints w v xs) (hs : xs.Pairwise (· < ·)) (hn : xs.length ≤ 1048576) :
    Calls Try.prog 69 #[v, .int .i64 x] w fun e w' => e = .returned (.tuple #[.int .i64 (xs.countP (· < x) : Nat), .bool (hasB xs x)]) ∧ Below w.heap.size w w' := by
  obtain ⟨A, c, rfl, h1, h2, hc⟩ := h.cells
  rcases Nat.eq_zero_or_pos xs.length with h0 | h0
  · have e0 : xs = [] := List.eq_nil_of_length_eq_zero h0
    subst e0
    exact searchI_nil A c x w
  · obtain ⟨b, o, rfl, hb, hc⟩ := hc 0 h0
    refine (show Calls Try.prog 69 _ w _ from AnyG.slices_BinarySearch_int Try.laySearch b o xs.length c xs x w (Nat.le_refl _) (by omega) (fun j hj => by
      have := hc w (Below.refl _ _) j xs[j] (List.getElem?_eq_getElem hj)
      simpa [List.getD, List.getElem?_eq_getElem hj] using this) (by rw [List.take_length]; exact hs.imp fun h => by omega)).mono ?_
    rintro e w' ⟨rfl, q, rfl⟩
    rw [List.take_length]
    exact ⟨rfl, below_drewN (Below.refl _ _) _⟩
set_option maxHeartbeats 1000000 in
theorem has_ok (v : Value) (xs : List Int) (x : Int) (w : World) (h : Ints w v xs) (hs : xs.Pairwise (· < ·)) (hn : xs.length ≤ 1048576) :
    Calls Try.prog 59 #[v, .int .i64 x] w fun e w' => e = .returned (.bool (hasB xs x)) ∧ Below w.heap.size w w' := by
  go_enter Try.func59, Try.ntmps59
  go_wp2_with (go_at_call 69; refine (searchI_ok v xs x w h hs hn).mono ?_; rintro e w' ⟨rfl, hb⟩)
  go_ret
  exact ⟨rfl, hb⟩

/-! ### Dies that are all used -/
theorem asc_sub : ∀ {xs ys : List Int}, xs.Pairwise (· < ·) → ys.Pairwise (· < ·) → (∀ n ∈ ys, n ∈ xs) → ys.length ≤ xs.length ∧ (ys.length = xs.length → ys = xs)
  | [], [], _, _, _ => by simp
  | [], y :: ys, _, _, h => absurd (h y (by simp)) (by simp)
  | x :: xs, [], _, _, _ => by simp
  | x :: xs, y :: ys, hx, hy, h => by
    rw [List.pairwise_cons] at hx hy
    by_cases e : y = x
    · subst e
      obtain ⟨h1, h2⟩ := asc_sub hx.2 hy.2 fun n hn => by
        have := h n (List.mem_cons_of_mem _ hn)
        rw [List.mem_cons] at this
        rcases this with rfl | this
        · have := hy.1 n hn; omega
        · exact this
      refine ⟨by simpa using h1, fun hl => ?_⟩
      rw [h2 (by simpa using hl)]
    · have hyx : y ∈ xs := by
        have := h y (by simp)
        rw [List.mem_cons] at this
        exact this.resolve_left e
      have hlt := hx.1 y hyx
      obtain ⟨h1, _⟩ := asc_sub (ys := y :: ys) hx.2 (List.pairwise_cons.2 hy) fun n hn => by
        have h3 := h n hn
        rw [List.mem_cons] at h3 hn
        rcases h3 with rfl | h3
        · rcases hn with rfl | hn
          · omega
          · have := hy.1 n hn; omega
        · exact h3
      refine ⟨by simp at h1 ⊢; omega, fun hl => ?_⟩
      simp at h1 hl
      omega
theorem used_iff {xs l : List Int} (hx : xs.Pairwise (· < ·)) (h : ∀ n ∈ l, n ∈ xs) : (withs l).length = xs.length ↔ ∀ n ∈ xs, n ∈ l := by
  constructor
  · intro hl n hn
    have := (asc_sub hx (withs_asc l) fun n hn => h n ((withs_mem l n).1 hn)).2 hl
    exact (withs_mem l n).1 (by rw [this]; exact hn)
  · intro ha
    rw [← withs_unique hx fun n => ⟨ha n, h n⟩]
theorem ascB_asc {xs : List Int} {lo hi : Int} (h : ascB xs lo hi = true) : xs.Pairwise (· < ·) := by
  simp only [ascB, decide_eq_true_eq] at h
  exact h.2
end Go.Proofs.Ytnaoiochfdipiaa
