/- linkage.Matrix: the walk. Condition: the argument reads as a graph. -/
import Derived.Test.YtnaoiochfdipiaaLinkH
namespace Go.Proofs.Ytnaoiochfdipiaa
open Go.RowKit Go.Shelf

theorem made_zero (n : Nat) : madeCells #[.int .i64 0] n = Array.replicate n (Value.int .i64 0) := by
  apply Array.ext_getElem?
  intro i
  simp only [madeCells, Array.getElem?_map, Array.getElem?_replicate]
  by_cases h : i < n
  · simp [h, Nat.mod_one]
  · simp [h]
theorem ret_mat {u : Value} {a b : Int} (h : a = b) : Ending.returned (.tuple #[u, .int .i64 a]) = .returned (.tuple #[u, .int .i64 b]) := by rw [h]

end Go.Proofs.Ytnaoiochfdipiaa
