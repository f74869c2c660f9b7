/- The tracker of package joining: NewTracker, growth, Components, Joined. Condition: the tracker in its memory. -/
import Derived.Test.YtikfffojeakjoaaGreatDoorGroD
import Derived.Deep.DeepCutAuto
namespace Go.Proofs.YtikfffojeakjoaaGreatDoor
open Go.RowKit Go.Maps

section
variable {w w' : World} {p : Nat} {l : List Spec}
theorem Specs.touch1 {v : Value} {S : List Nat} (h : Specs w v l) (ht : Touch w w' S) (hS : ∀ q ∈ S, ∃ x t, w.heap[q]? = some (.cells #[x] t (0, 0))) : Specs w' v l := by
  obtain ⟨A, c, e, h1, h2, h3, h4⟩ := h
  refine ⟨A, c, e, h1, h2, h3, fun hp => ?_⟩
  obtain ⟨b, o, e, hb, hc⟩ := h4 hp
  have hn : b ∉ S := fun hm => by
    obtain ⟨x, t, hx⟩ := hS b hm
    cases l with
    | nil => simp at hp
    | cons s l =>
      have := hc 1 (.int .i64 s.obv) rfl
      have h6 : w.cell? ⟨b, o + 1, none⟩ = some (.int .i64 s.obv) := this
      rw [heap_cell hx] at h6
      simp at h6
  exact ⟨b, o, e, Nat.lt_of_lt_of_le hb ht.size, fun j u hu => cell_off ht hn (hc j u hu)⟩
end
theorem ofE_nil : ofE [] = 0 := by decide
end Go.Proofs.YtikfffojeakjoaaGreatDoor
/- The tracker of package joining: Clone, Undo; specimen.Find. Condition: the tracker in its memory. -/
namespace Go.Proofs.YtikfffojeakjoaaGreatDoor
open Go.RowKit Go.Maps

theorem SlOf.cut {α : Type} {enc : α → List Value} {k : Nat} {w : World} {A : Option Addr} {n c m : Nat} {xs : List α} (h : SlOf enc k w (.slice A n c) xs) (hk : ∀ x, (enc x).length = k) (hm : m ≤ n) : SlOf enc k w (.slice A m c) (xs.take m) := by
  obtain ⟨A', c', e, h1, h2, h3, h4⟩ := h
  cases e
  have hl : (xs.take m).length = m := by rw [List.length_take]; omega
  have hfl := flat_len enc k hk
  refine ⟨A, c, by rw [hl], by omega, h2, by rw [hfl], fun hp => ?_⟩
  obtain ⟨b, o, e, hb, hc⟩ := h4 (by omega)
  refine ⟨b, o, e, hb, fun j u hu => hc j u ?_⟩
  have : xs.flatMap enc = (xs.take m).flatMap enc ++ (xs.drop m).flatMap enc := by rw [← List.flatMap_append, List.take_append_drop]
  rw [this, List.getElem?_append_left (List.getElem?_eq_some_iff.1 hu).1]
  exact hu
theorem heap_set7 {w : World} {g : Nat} {a b c d e f k x0 x1 x2 x3 x4 x5 x6 : Value} {t : TypeId} (h : w.heap[g]? = some (.cells [a, b, c, d, e, f, k].toArray t (0, 0))) :
    (((((((w.setCell ⟨g, 0, none⟩ x0).setCell ⟨g, 1, none⟩ x1).setCell ⟨g, 2, none⟩ x2).setCell ⟨g, 3, none⟩ x3).setCell ⟨g, 4, none⟩ x4).setCell ⟨g, 5, none⟩ x5).setCell ⟨g, 6, none⟩ x6).heap[g]? = some (.cells #[x0, x1, x2, x3, x4, x5, x6] t (0, 0)) := heap_setCells [x0, x1, x2, x3, x4, x5, x6] [] [a, b, c, d, e, f, k] w h rfl
theorem below_set7 {B g : Nat} {a w : World} {x0 x1 x2 x3 x4 x5 x6 : Value} (h : Below B a w) (hg : B ≤ g) (hB : B ≤ w.heap.size) : Below B a (((((((w.setCell ⟨g, 0, none⟩ x0).setCell ⟨g, 1, none⟩ x1).setCell ⟨g, 2, none⟩ x2).setCell ⟨g, 3, none⟩ x3).setCell ⟨g, 4, none⟩ x4).setCell ⟨g, 5, none⟩ x5).setCell ⟨g, 6, none⟩ x6) :=
  h.grown (setCells_grown g [x0, x1, x2, x3, x4, x5, x6] w 0) hB (fun j e => by cases e; exact hg)
end Go.Proofs.YtikfffojeakjoaaGreatDoor
/- The tracker of package joining: Add. Condition: the tracker in its memory. -/
namespace Go.Proofs.YtikfffojeakjoaaGreatDoor
open Go.RowKit Go.Maps

/-- What Add says: the error. -/
def addE (l : List Spec) (s : Spec) : Int := if specB s = true then (if s.id ∈ l.map Spec.id then 8 else if ofE (l ++ [s]) = 0 then 0 else 6) else 1
def addB (l : List Spec) (s : Spec) : Bool := decide (addE l s = 0) && (apartG s (growL l) && thereG s (growL l))
def addL (l : List Spec) (s : Spec) : List Spec := if addE l s = 0 then l ++ [s] else l
theorem addE_1 {l : List Spec} {s : Spec} (h : specB s = false) : addE l s = 1 := by simp [addE, h]
theorem addE_8 {l : List Spec} {s : Spec} (h : specB s = true) (k : s.id ∈ l.map Spec.id) : addE l s = 8 := by rw [addE, if_pos h, if_pos k]
theorem addE_6 {l : List Spec} {s : Spec} (h : specB s = true) (k : s.id ∉ l.map Spec.id) (m : ofE (l ++ [s]) ≠ 0) : addE l s = 6 := by rw [addE, if_pos h, if_neg k, if_neg m]
theorem addE_0 {l : List Spec} {s : Spec} (h : specB s = true) (k : s.id ∉ l.map Spec.id) (m : ofE (l ++ [s]) = 0) : addE l s = 0 := by rw [addE, if_pos h, if_neg k, if_pos m]
theorem add_no {l : List Spec} {s : Spec} (h : addE l s ≠ 0) : addB l s = false ∧ addL l s = l := ⟨by simp [addB, h], by rw [addL, if_neg h]⟩
theorem add_yes {l : List Spec} {s : Spec} (h : addE l s = 0) : addB l s = (apartG s (growL l) && thereG s (growL l)) ∧ addL l s = l ++ [s] := ⟨by simp [addB, h], by rw [addL, if_pos h]⟩

end Go.Proofs.YtikfffojeakjoaaGreatDoor
