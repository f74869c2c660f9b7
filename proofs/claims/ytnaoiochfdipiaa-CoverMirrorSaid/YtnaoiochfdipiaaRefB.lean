/- The reference of layer 13: insert and Made. Condition: the arguments read as lists. -/
import Derived.Test.YtnaoiochfdipiaaRefA
import Derived.Deep.RegionLaw
namespace Go.Proofs.Ytnaoiochfdipiaa
open Go.RowKit

theorem insL_at : ∀ {xs : List Link} {k : Nat} {x : Link}, (∀ y ∈ xs.take k, y.id < x.id) → (∀ y, xs[k]? = some y → ¬ y.id < x.id) → insL xs x = xs.take k ++ [x] ++ xs.drop k
  | [], k, x, _, _ => by simp [insL]
  | y :: xs, 0, x, _, h => by
    have := h y (by simp)
    simp [insL, this]
  | y :: xs, k + 1, x, h1, h2 => by
    have hx := h1 y (by simp)
    rw [insL, if_pos hx, insL_at (k := k) (fun z hz => h1 z (by simp [hz])) (fun z hz => h2 z (by simpa using hz))]
    simp

end Go.Proofs.Ytnaoiochfdipiaa
