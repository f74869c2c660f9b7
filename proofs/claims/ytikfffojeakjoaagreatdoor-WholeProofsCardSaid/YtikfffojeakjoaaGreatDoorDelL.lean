/- slices.Clone, IndexFunc and DeleteFunc at links. No condition but a bound of the length. -/
import Derived.Test.YtikfffojeakjoaaGreatDoorOwn
import Derived.Test.YtikfffojeakjoaaGreatDoorRefA
namespace Go.Proofs.YtikfffojeakjoaaGreatDoor
open Go.RowKit

theorem SlOf.sl' {α : Type} {enc : α → List Value} {k : Nat} {w : World} {A : Option Addr} {n c : Nat} {xs : List α} (h : SlOf enc k w (.slice A n c) xs) : Sl w k A xs.length (xs.flatMap enc) := by
  obtain ⟨A', c', e, _, _, hs⟩ := h
  cases e
  exact hs
abbrev valL (x : Link) : Value := .agg #[.int .i64 x.id, .int .i64 x.obv, .int .i64 x.rev]
abbrev valD (x : Die) : Value := .agg #[.int .i64 x.side, .int .i64 x.num]
/-- The place of the first element with a property, or -1. -/
def firstN {α : Type} (p : α → Bool) : List α → Nat → Int
  | [], _ => -1
  | x :: xs, n => if p x = true then (n : Int) else firstN p xs (n + 1)
def firstI {α : Type} (p : α → Bool) (xs : List α) : Int := firstN p xs 0
theorem firstN_hit {α : Type} {p : α → Bool} : ∀ {xs : List α} {k n : Nat} {x : α}, xs[k]? = some x → (xs.take k).all (fun x => !p x) = true → p x = true → firstN p xs n = ((n + k : Nat) : Int)
  | [], _, _, _, h, _, _ => by simp at h
  | y :: ys, 0, n, x, h, _, hp => by
    simp at h
    subst h
    simp [firstN, hp]
  | y :: ys, k + 1, n, x, h, ha, hp => by
    simp only [List.take_succ_cons, List.all_cons, Bool.and_eq_true, Bool.not_eq_true'] at ha
    rw [firstN, if_neg (by simp [ha.1]), firstN_hit (k := k) (by simpa using h) ha.2 hp]
    congr 1
    omega
theorem firstI_hit {α : Type} {p : α → Bool} {xs : List α} {k : Nat} {x : α} (h : xs[k]? = some x) (ha : (xs.take k).all (fun x => !p x) = true) (hp : p x = true) : firstI p xs = k := by
  unfold firstI
  rw [firstN_hit h ha hp, Nat.zero_add]
theorem firstN_miss {α : Type} {p : α → Bool} : ∀ {xs : List α} {n : Nat}, xs.all (fun x => !p x) = true → firstN p xs n = -1
  | [], _, _ => rfl
  | y :: ys, n, h => by
    simp only [List.all_cons, Bool.and_eq_true, Bool.not_eq_true'] at h
    rw [firstN, if_neg (by simp [h.1]), firstN_miss h.2]
theorem firstI_miss {α : Type} {p : α → Bool} {xs : List α} (h : xs.all (fun x => !p x) = true) : firstI p xs = -1 := firstN_miss h
theorem first_hit {α : Type} {p : α → Bool} : ∀ {xs : List α}, ¬ xs.all (fun x => !p x) = true → ∃ (i : Nat) (x : α), xs[i]? = some x ∧ (xs.take i).all (fun x => !p x) = true ∧ p x = true
  | [], h => absurd rfl h
  | y :: ys, h => by
    cases hp : p y
    · obtain ⟨i, x, h1, h2, h3⟩ := first_hit (p := p) (xs := ys) (fun e => h (by simp [hp, e]))
      exact ⟨i + 1, x, by simpa using h1, by simp [hp, h2], h3⟩
    · exact ⟨0, y, rfl, by simp, hp⟩
def zeroL : Value := .agg #[.int .i64 0, .int .i64 0, .int .i64 0]
theorem zeroL_run (w : World) : (zeroValue 73).run Tryz.prog w = .ok zeroL w := by unfold zeroL; kernel_rfl
end Go.Proofs.YtikfffojeakjoaaGreatDoor
