/- The first functions of the reference of layer 13: In, Touches, Valid, place, with, insert. Condition: the arguments read as lists and graphs. -/
import Derived.Test.YtnaoiochfdipiaaBase4
import Derived.Deep.RegionHeld3
import Derived.Deep.DrawnRows
namespace Go.Proofs.Ytnaoiochfdipiaa
open Go.RowKit

/-- Whether a die is in a graph. -/
def dieIn (g : Graph) (d : Die) : Bool := (d.side == 0 && hasB g.obv d.num) || (d.side == 1 && hasB g.rev d.num)
def touchB (l : Link) (d : Die) : Bool := (d.side == 0 && l.obv == d.num) || (d.side == 1 && l.rev == d.num)

/-- The place of a number in a list, or -1. -/
def placeN : List Int → Int → Nat → Int
  | [], _, _ => -1
  | y :: ys, x, n => if y = x then (n : Int) else placeN ys x (n + 1)
def placeI (xs : List Int) (x : Int) : Int := placeN xs x 0
theorem place_go {xs : List Int} {k : Nat} {x y : Int} (hy : xs[k]? = some y) (hr : x ∉ xs.take k) (h : (y == x) = false) : x ∉ xs.take (k + 1) := by
  rw [take_snoc' hy]
  simp only [List.mem_append, List.mem_singleton]
  rintro (h1 | rfl)
  · exact hr h1
  · simp at h
theorem placeN_hit {x : Int} : ∀ {xs : List Int} {k n : Nat}, xs[k]? = some x → x ∉ xs.take k → placeN xs x n = (n + k : Nat)
  | [], k, n, h, _ => by simp at h
  | y :: ys, 0, n, h, _ => by
    simp at h
    simp [placeN, h]
  | y :: ys, k + 1, n, h, hr => by
    simp only [List.take_succ_cons, List.mem_cons, not_or] at hr
    rw [placeN, if_neg (fun e => hr.1 e.symm), placeN_hit (by simpa using h) hr.2]
    omega
theorem place_hit {xs : List Int} {k : Nat} {x y : Int} (hy : xs[k]? = some y) (hr : x ∉ xs.take k) (h : (y == x) = true) : placeI xs x = k := by
  simp at h
  subst h
  unfold placeI
  rw [placeN_hit hy hr, Nat.zero_add]
theorem placeN_miss {x : Int} : ∀ {xs : List Int} {n : Nat}, x ∉ xs → placeN xs x n = -1
  | [], _, _ => rfl
  | y :: ys, n, h => by
    simp only [List.mem_cons, not_or] at h
    rw [placeN, if_neg (fun e => h.1 e.symm), placeN_miss h.2]
theorem place_miss {xs : List Int} {k : Nat} {x : Int} (hk : ¬ k < xs.length) (hr : x ∉ xs.take k) : placeI xs x = -1 := by
  rw [List.take_of_length_le (by omega)] at hr
  exact placeN_miss hr

/-- A number entered into ascending numbers. -/
def withI : List Int → Int → List Int
  | [], n => [n]
  | x :: xs, n => if x < n then x :: withI xs n else if x = n then x :: xs else n :: x :: xs
/-- A link entered into links by Id. -/
def insL : List Link → Link → List Link
  | [], y => [y]
  | x :: xs, y => if x.id < y.id then x :: insL xs y else y :: x :: xs
theorem withI_at : ∀ {xs : List Int} {k : Nat} {n : Int}, (∀ y ∈ xs.take k, y < n) → (∀ y, xs[k]? = some y → ¬ y < n) → withI xs n = if xs[k]? = some n then xs else xs.take k ++ [n] ++ xs.drop k
  | [], k, n, _, _ => by simp [withI]
  | x :: xs, 0, n, _, h => by
    have := h x (by simp)
    by_cases e : x = n <;> simp [withI, this, e]
  | x :: xs, k + 1, n, h1, h2 => by
    have hx := h1 x (by simp)
    rw [withI, if_pos hx, withI_at (k := k) (fun y hy => h1 y (by simp [hy])) (fun y hy => h2 y (by simpa using hy))]
    by_cases e : xs[k]? = some n <;> simp [e]

end Go.Proofs.Ytnaoiochfdipiaa
