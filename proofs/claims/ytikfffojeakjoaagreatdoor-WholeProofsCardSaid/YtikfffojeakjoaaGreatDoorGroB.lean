/- The growth of package joining: know, joined. Condition: the growth in its memory. -/
import Derived.Test.YtikfffojeakjoaaGreatDoorGroA
namespace Go.Proofs.YtikfffojeakjoaaGreatDoor
open Go.RowKit Go.Maps

theorem blk_cells {w : World} {p : Nat} {x y z : Value} {t : TypeId} (h : w.heap[p]? = some (.cells #[x, y, z] t (0, 0))) :
    w.cell? ⟨p, 0, none⟩ = some x ∧ w.cell? ⟨p, 1, none⟩ = some y ∧ w.cell? ⟨p, 2, none⟩ = some z ∧ w.frozen? ⟨p, 1, none⟩ = false ∧ w.frozen? ⟨p, 2, none⟩ = false := ⟨heap_cell h, heap_cell h, heap_cell h, heap_free h, heap_free h⟩
theorem wfN {n : Nat} (h : n ≤ 1000000) : wfI (n : Int) := by
  show (Lit.int .i64 (n : Int)).wf = true
  have e1 : IntKind.i64.min = -9223372036854775808 := by decide
  have e2 : IntKind.i64.max = 9223372036854775807 := by decide
  simp only [Lit.wf, Bool.and_eq_true, decide_eq_true_eq, e1, e2]
  omega
end Go.Proofs.YtikfffojeakjoaaGreatDoor
/- The growth of package joining: enter. Condition: the growth in its memory. -/
namespace Go.Proofs.YtikfffojeakjoaaGreatDoor
open Go.RowKit Go.Maps

theorem know_named {d : Die} {g : Gr} : (knowG d g).named ≤ g.named + 1 ∧ (knowG d g).count ≤ g.count + 1 ∧ (knowG d g).m.length ≤ g.m.length + 1 := by
  unfold knowG
  split
  · exact ⟨by omega, by omega, by omega⟩
  · have hl : (putM g.m d (g.named : Int)).length ≤ g.m.length + 1 := by
      generalize g.m = m
      induction m with
      | nil => simp [putM]
      | cons p m ih =>
        rw [putM]
        split
        · simp
        · simp only [List.length_cons]; omega
    exact ⟨by simp, by simp, hl⟩
/-- What the walk of the range has turned so far. -/
def midM (m : List (Die × Int)) (f t : Int) (todo : List Die) : List (Die × Int) := m.map fun p => (p.1, if p.1 ∈ todo then p.2 else if p.2 = f then t else p.2)
theorem midM_start (m : List (Die × Int)) (f t : Int) : midM m f t (m.map Prod.fst) = m := by
  unfold midM
  conv => rhs; rw [← List.map_id m]
  refine List.map_congr_left fun p hp => ?_
  rw [if_pos (List.mem_map.2 ⟨p, hp, rfl⟩)]
  rfl
theorem midM_end (m : List (Die × Int)) (f t : Int) : midM m f t [] = turnM m f t := by
  unfold midM turnM
  refine List.map_congr_left fun p _ => ?_
  rw [if_neg (by simp)]
theorem lookM_mid (m : List (Die × Int)) (f t : Int) (todo : List Die) (d : Die) : lookM (midM m f t todo) d = (lookM m d).map fun n => if d ∈ todo then n else if n = f then t else n := by
  induction m with
  | nil => rfl
  | cons p m ih =>
    simp only [midM, List.map_cons, lookM] at ih ⊢
    by_cases h : p.1 = d
    · rw [if_pos h, if_pos h, h]; rfl
    · rw [if_neg h, if_neg h]; exact ih
theorem midM_skip {m : List (Die × Int)} (hn : (m.map Prod.fst).Nodup) {f t : Int} {todo : List Die} {d : Die} {n : Int} (hd : d ∈ todo) (hl : lookM (midM m f t todo) d = some n) (hne : n ≠ f) : midM m f t (todo.filter fun z => decide (z ≠ d)) = midM m f t todo := by
  unfold midM
  refine List.map_congr_left fun p hp => ?_
  by_cases e : p.1 = d
  · have h1 := (lookM_mem hn).2 hp
    rw [lookM_mid, ← e, h1, e] at hl
    simp only [Option.map_some, if_pos hd, Option.some.injEq] at hl
    rw [e, if_neg (by simp), if_pos hd, if_neg (by rw [hl]; exact hne)]
  · by_cases e2 : p.1 ∈ todo
    · rw [if_pos e2, if_pos (by simp [e2, e])]
    · have e3 : ¬ p.1 ∈ todo.filter fun z => decide (z ≠ d) := fun h => e2 (List.mem_filter.1 h).1
      rw [if_neg e2, if_neg e3]
theorem putM_mid {m : List (Die × Int)} (hn : (m.map Prod.fst).Nodup) {f t : Int} {todo : List Die} {d : Die} (hd : d ∈ todo) (hl : lookM (midM m f t todo) d = some f) : putM (midM m f t todo) d t = midM m f t (todo.filter fun z => decide (z ≠ d)) := by
  have hkey : ∀ (l : List (Die × Int)) (x : Die) (y : Int), (l.map Prod.fst).Nodup → x ∈ l.map Prod.fst → putM l x y = l.map fun p => (p.1, if p.1 = x then y else p.2) := by
    intro l x y
    induction l with
    | nil => intro _ h; simp at h
    | cons p l ih =>
      intro hn h
      rw [List.map_cons, List.nodup_cons] at hn
      rw [putM]
      by_cases e : p.1 = x
      · rw [if_pos e, List.map_cons, if_pos e, e]
        congr 1
        conv => lhs; rw [← List.map_id l]
        refine List.map_congr_left fun q hq => ?_
        rw [if_neg]
        · rfl
        · intro e2
          exact hn.1 (List.mem_map.2 ⟨q, hq, by rw [e2, e]⟩)
      · rw [if_neg e, List.map_cons, if_neg e]
        congr 1
        exact ih hn.2 (by simpa [Ne.symm e] using h)
  have hfst : (midM m f t todo).map Prod.fst = m.map Prod.fst := by simp [midM, List.map_map, Function.comp_def]
  have hin : d ∈ (midM m f t todo).map Prod.fst := List.mem_map.2 ⟨_, lookM_some hl, rfl⟩
  rw [hkey _ _ _ (by rw [hfst]; exact hn) hin]
  unfold midM
  rw [List.map_map]
  refine List.map_congr_left fun p hp => ?_
  simp only [Function.comp_apply]
  by_cases e : p.1 = d
  · have h1 := (lookM_mem hn).2 hp
    rw [lookM_mid, ← e, h1, e] at hl
    simp only [Option.map_some, if_pos hd, Option.some.injEq] at hl
    rw [if_pos e, if_neg (by simp [e]), if_pos hl]
  · rw [if_neg e]
    by_cases e2 : p.1 ∈ todo
    · rw [if_pos e2, if_pos (by simp [e2, e])]
    · have e3 : ¬ p.1 ∈ todo.filter fun z => decide (z ≠ d) := fun h => e2 (List.mem_filter.1 h).1
      rw [if_neg e2, if_neg e3]
theorem midM_len (m : List (Die × Int)) (f t : Int) (todo : List Die) : (midM m f t todo).length = m.length := List.length_map _

end Go.Proofs.YtikfffojeakjoaaGreatDoor
