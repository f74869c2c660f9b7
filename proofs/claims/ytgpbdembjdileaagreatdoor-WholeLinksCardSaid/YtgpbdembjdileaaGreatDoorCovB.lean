/- cover.list. Condition: the argument's maps. -/
import Derived.Test.YtgpbdembjdileaaGreatDoorCovA
namespace Go.Proofs.YtgpbdembjdileaaGreatDoor
open Go.RowKit Go.Shelf Go.Maps

/-- What has been read of a map: its entries but for those that are still to come. -/
structure Coll (m : List (Int × Int)) (todo : List Int) (zs : List Pair) : Prop where
  nd : zs.Nodup
  mem : ∀ p : Pair, p ∈ zs ↔ lookM m p.a = some p.b ∧ p.a ∉ todo
section
variable {m : List (Int × Int)} {todo : List Int} {zs : List Pair}
theorem Coll.start (m : List (Int × Int)) : Coll m (m.map Prod.fst) [] := ⟨List.nodup_nil, fun _ => ⟨fun h => absurd h List.not_mem_nil, fun ⟨h1, h2⟩ => absurd (List.mem_map.2 ⟨_, lookM_some h1, rfl⟩) h2⟩⟩
theorem Coll.step (h : Coll m todo zs) {x y : Int} (hx : x ∈ todo) (hl : lookM m x = some y) : Coll m (todo.filter fun z => decide (z ≠ x)) (zs ++ [⟨x, y⟩]) := by
  have hno : (⟨x, y⟩ : Pair) ∉ zs := fun hm => ((h.mem _).1 hm).2 hx
  refine ⟨?_, fun p => ?_⟩
  · rw [List.nodup_append]
    exact ⟨h.nd, by simp, fun a ha c hc e => by simp at hc; subst hc; subst e; exact hno ha⟩
  · rw [List.mem_append, List.mem_singleton, h.mem, List.mem_filter, decide_eq_true_eq]
    constructor
    · rintro (⟨h1, h2⟩ | rfl)
      · exact ⟨h1, fun h3 => h2 h3.1⟩
      · exact ⟨hl, fun h3 => h3.2 rfl⟩
    · rintro ⟨h1, h2⟩
      by_cases e : p.a = x
      · refine .inr ?_
        rw [e, hl] at h1
        have := Option.some.inj h1
        cases p
        simp_all
      · exact .inl ⟨h1, fun h3 => h2 ⟨h3, e⟩⟩
theorem pairs_nodup (hn : (m.map Prod.fst).Nodup) : (m.map pairM).Nodup := by
  refine nodup_map _ (List.Pairwise.of_map Prod.fst (fun a b h e => h (by rw [e])) hn) fun p hp q hq e => ?_
  simp only [pairM, Pair.mk.injEq] at e
  exact Prod.ext e.1 e.2
theorem Coll.sub (h : Coll m todo zs) : ∀ p ∈ zs, p ∈ m.map pairM := fun p hp => List.mem_map.2 ⟨_, lookM_some ((h.mem p).1 hp).1, rfl⟩
theorem Coll.len (h : Coll m todo zs) : zs.length ≤ m.length := by
  have := nodup_len h.nd h.sub
  rwa [List.length_map] at this
theorem Coll.perm (h : Coll m [] zs) (hn : (m.map Prod.fst).Nodup) : zs.Perm (m.map pairM) := by
  refine (List.perm_ext_iff_of_nodup h.nd (pairs_nodup hn)).2 fun p => ⟨h.sub p, fun hp => ?_⟩
  obtain ⟨q, hq, rfl⟩ := List.mem_map.1 hp
  exact (h.mem _).2 ⟨(lookM_mem hn).2 hq, List.not_mem_nil⟩
end
/-- The walk of a range over a map of numbers. -/
def RangeI (w : World) (b r : Nat) (m : List (Int × Int)) (todo : List Int) : Prop := RangeAt (P := Tryz.prog) (keyInt Tryz.underlying3) (elInt Tryz.underlying3 zInt) w b r m todo

end Go.Proofs.YtgpbdembjdileaaGreatDoor
