/- cover.order, of, list. Condition: the arguments read as pairs and maps. -/
import Derived.Test.YtikfffojeakjoaaGreatDoorPairA
import Derived.Test.YtikfffojeakjoaaGreatDoorKuhnA
import Derived.Test.YtikfffojeakjoaaGreatDoorMapK
import Derived.Test.YtikfffojeakjoaaGreatDoorTail
namespace Go.Proofs.YtikfffojeakjoaaGreatDoor
open Go.RowKit Go.Shelf

/-- The two maps of a matching. -/
structure StAt (w : World) (bo br : Nat) (s : St) : Prop where
  o : MapII w bo s.obv
  r : MapII w br s.rev
  ne : bo ≠ br
section
variable {w w' : World} {bo br : Nat} {s : St}
theorem StAt.below (h : StAt w bo br s) (hb : Below w.heap.size w w') : StAt w' bo br s := ⟨h.o.below hb, h.r.below hb, h.ne⟩
theorem StAt.kept {row : Option Nat} (h : StAt w bo br s) (hg : w.grownBy w' row) (h1 : some bo ≠ row) (h2 : some br ≠ row) : StAt w' bo br s := ⟨h.o.kept hg h1, h.r.kept hg h2, h.ne⟩
end
def ofS (l : List Pair) : St := l.foldl (fun s p => s.set p.a p.b) ⟨[], [], []⟩
theorem ofS_snoc {l : List Pair} {k : Nat} {p : Pair} (h : l[k]? = some p) : ofS (l.take (k + 1)) = (ofS (l.take k)).set p.a p.b := by
  unfold ofS
  rw [take_snoc' h, List.foldl_append]
  rfl
theorem set_len (s : St) (o r : Int) : (s.set o r).obv.length ≤ s.obv.length + 1 ∧ (s.set o r).rev.length ≤ s.rev.length + 1 := by
  unfold St.set
  constructor
  · simp only; rw [putM_len]; split <;> omega
  · simp only; rw [putM_len]; split <;> omega
theorem ofS_len (l : List Pair) : (ofS l).obv.length ≤ l.length ∧ (ofS l).rev.length ≤ l.length := by
  have : ∀ (l : List Pair) (s : St), (l.foldl (fun s p => s.set p.a p.b) s).obv.length ≤ s.obv.length + l.length ∧ (l.foldl (fun s p => s.set p.a p.b) s).rev.length ≤ s.rev.length + l.length := by
    intro l
    induction l with
    | nil => intro s; simp
    | cons p l ih =>
      intro s
      have h1 := ih (s.set p.a p.b)
      have h2 := set_len s p.a p.b
      simp only [List.foldl_cons, List.length_cons]
      omega
  have := this l ⟨[], [], []⟩
  unfold ofS
  simpa using this
theorem heap_set2 {w : World} {g : Nat} {a b x y : Value} {t : TypeId} (h : w.heap[g]? = some (.cells #[a, b] t (0, 0))) :
    ((w.setCell ⟨g, 0, none⟩ x).setCell ⟨g, 1, none⟩ y).heap[g]? = some (.cells #[x, y] t (0, 0)) := by
  have h1 := heap_setCell_same w g 0 _ _ x h
  have h2 := heap_setCell_same _ g 1 _ _ y h1
  simpa using h2
theorem blk2 {w : World} {g : Nat} {a b : Value} {t : TypeId} (h : w.heap[g]? = some (.cells #[a, b] t (0, 0))) :
    w.cell? ⟨g, 0, none⟩ = some a ∧ w.cell? ⟨g, 1, none⟩ = some b ∧ w.frozen? ⟨g, 0, none⟩ = false ∧ w.frozen? ⟨g, 1, none⟩ = false := ⟨heap_cell h, heap_cell h, heap_free h, heap_free h⟩
theorem set2_grown (w : World) (g : Nat) (x y : Value) : w.grownBy ((w.setCell ⟨g, 0, none⟩ x).setCell ⟨g, 1, none⟩ y) (some g) := setCells_grown g [x, y] w 0

end Go.Proofs.YtikfffojeakjoaaGreatDoor
/- cover.list. Condition: the argument's maps. -/
namespace Go.Proofs.YtikfffojeakjoaaGreatDoor
open Go.RowKit Go.Shelf Go.Maps

/-- What has been read of a map: its entries but for those that are still to come. -/
structure Coll (m : List (Int × Int)) (todo : List Int) (zs : List Pair) : Prop where
  nd : zs.Nodup
  mem : ∀ p : Pair, p ∈ zs ↔ lookM m p.a = some p.b ∧ p.a ∉ todo
section
variable {m : List (Int × Int)} {todo : List Int} {zs : List Pair}
theorem Coll.start (m : List (Int × Int)) : Coll m (m.map Prod.fst) [] := ⟨List.nodup_nil, fun _ => ⟨fun h => absurd h List.not_mem_nil, fun ⟨h1, h2⟩ => absurd (List.mem_map.2 ⟨_, lookM_some h1, rfl⟩) h2⟩⟩
theorem Coll.step (h : Coll m todo zs) {x y : Int} (hx : x ∈ todo) (hl : lookM m x = some y) : Coll m (todo.filter fun z => decide (z ≠ x)) (zs ++ [⟨x, y⟩]) := by
  have hno : (⟨x, y⟩ : Pair) ∉ zs := fun hm => ((h.mem _).1 hm).2 hx
  refine ⟨?_, fun p => ?_⟩
  · rw [List.nodup_append]
    exact ⟨h.nd, by simp, fun a ha c hc e => by simp at hc; subst hc; subst e; exact hno ha⟩
  · rw [List.mem_append, List.mem_singleton, h.mem, List.mem_filter, decide_eq_true_eq]
    constructor
    · rintro (⟨h1, h2⟩ | rfl)
      · exact ⟨h1, fun h3 => h2 h3.1⟩
      · exact ⟨hl, fun h3 => h3.2 rfl⟩
    · rintro ⟨h1, h2⟩
      by_cases e : p.a = x
      · refine .inr ?_
        rw [e, hl] at h1
        have := Option.some.inj h1
        cases p
        simp_all
      · exact .inl ⟨h1, fun h3 => h2 ⟨h3, e⟩⟩
theorem pairs_nodup (hn : (m.map Prod.fst).Nodup) : (m.map pairM).Nodup := by
  refine nodup_map _ (List.Pairwise.of_map Prod.fst (fun a b h e => h (by rw [e])) hn) fun p hp q hq e => ?_
  simp only [pairM, Pair.mk.injEq] at e
  exact Prod.ext e.1 e.2
theorem Coll.sub (h : Coll m todo zs) : ∀ p ∈ zs, p ∈ m.map pairM := fun p hp => List.mem_map.2 ⟨_, lookM_some ((h.mem p).1 hp).1, rfl⟩
theorem Coll.len (h : Coll m todo zs) : zs.length ≤ m.length := by
  have := nodup_len h.nd h.sub
  rwa [List.length_map] at this
theorem Coll.perm (h : Coll m [] zs) (hn : (m.map Prod.fst).Nodup) : zs.Perm (m.map pairM) := by
  refine (List.perm_ext_iff_of_nodup h.nd (pairs_nodup hn)).2 fun p => ⟨h.sub p, fun hp => ?_⟩
  obtain ⟨q, hq, rfl⟩ := List.mem_map.1 hp
  exact (h.mem _).2 ⟨(lookM_mem hn).2 hq, List.not_mem_nil⟩
end
/-- The walk of a range over a map of numbers. -/
def RangeI (w : World) (b r : Nat) (m : List (Int × Int)) (todo : List Int) : Prop := RangeAt (P := Tryz.prog) (keyInt Tryz.underlying3) (elInt Tryz.underlying3 zInt) w b r m todo

end Go.Proofs.YtikfffojeakjoaaGreatDoor
