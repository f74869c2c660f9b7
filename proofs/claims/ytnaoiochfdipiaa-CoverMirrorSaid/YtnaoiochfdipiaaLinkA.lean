/- slices.Sort, Compact and BinarySearch at numbers of the call's own; linkage.with. Condition: the argument reads as a list of links. -/
import Derived.Test.YtnaoiochfdipiaaShelf
import Derived.Test.YtnaoiochfdipiaaOwn
import Derived.Test.YtnaoiochfdipiaaPlain
namespace Go.Proofs.Ytnaoiochfdipiaa
open Go.RowKit Go.Shelf

def sortI (xs : List Int) : List Int := xs.mergeSort fun x y => decide (x ≤ y)
theorem sortI_len (xs : List Int) : (sortI xs).length = xs.length := by simp [sortI]
theorem compact_sortI (l : List Int) : Lib.compact (sortI l) = withs l := compact_sorted l
theorem sortI_ok (B : Nat) (v : Value) (xs : List Int) (w : World) (h : OwnI B w v xs) (hn : xs.length ≤ 1048576) :
    Calls Try.prog 63 #[v] w fun e w' => e = .returned (.tuple #[]) ∧ OwnI B w' v (sortI xs) ∧ w.grownBy w' v.ownBlock := by
  rcases h.cases with ⟨rfl, rfl⟩ | ⟨g, cap, rfl, hg, hgw, _, _⟩
  · refine (show Calls Try.prog 63 _ w _ from AnyM.slices_Sort_int_none Try.laySort none 0 w).mono ?_
    rintro e w' ⟨rfl, rfl⟩
    exact ⟨rfl, by simpa [sortI] using h, World.grownBy.refl _ _⟩
  · refine (show Calls Try.prog 63 _ w _ from AnyM.slices_Sort_int Try.laySort g 0 cap xs w (own_holdsI h rfl) hgw (by omega)).mono ?_
    rintro e w' ⟨rfl, n, os, rfl⟩
    have := own_sortedI (q := n) (os := os) h rfl (ys := sortI xs) (sortI_len xs)
    exact ⟨rfl, this.1, this.2⟩
theorem compactUpTo_len {α : Type} [Inhabited α] [DecidableEq α] (d : Array α) : ∀ m, (Lib.compactUpTo d m).length ≤ m
  | 0 => by simp [Lib.compactUpTo]
  | m + 1 => by
    rw [Lib.compactUpTo_succ, List.length_append]
    have := compactUpTo_len d m
    split <;> simp <;> omega
theorem compact_len {α : Type} [Inhabited α] [DecidableEq α] (xs : List α) : (Lib.compact xs).length ≤ xs.length := compactUpTo_len _ _
theorem compactI_ok (B : Nat) (v : Value) (xs : List Int) (w : World) (h : OwnI B w v xs) (hn : xs.length ≤ 1048576) :
    Calls Try.prog 64 #[v] w fun e w' => ∃ u, e = .returned u ∧ OwnI B w' u (Lib.compact xs) ∧ u.ownBlock = v.ownBlock ∧ w.grownBy w' v.ownBlock := by
  rcases h.cases with ⟨rfl, rfl⟩ | ⟨g, cap, rfl, hg, hgw, hcap, _⟩
  · refine (show Calls Try.prog 64 _ w _ from AnyG.slices_Compact_int_empty Try.layCompact none 0 w).mono ?_
    rintro e w' ⟨rfl, rfl⟩
    exact ⟨_, rfl, by simpa [Lib.compact, Lib.compactUpTo] using h, rfl, World.grownBy.refl _ _⟩
  · refine (show Calls Try.prog 64 _ w _ from AnyG.slices_Compact_int Try.layCompact g 0 cap xs w (own_holdsI h rfl) (by omega) hcap).mono ?_
    rintro e w' ⟨rfl, q, rfl⟩
    have hl := compact_len xs
    have := own_compactI (q := q) h rfl (ys := Lib.compact xs) (zs := List.replicate (xs.length - (Lib.compact xs).length) 0) (by simp; omega)
    exact ⟨_, rfl, this.1, rfl, this.2⟩

/-- Growth that may turn two rows. -/
structure Grown2 (w w' : World) (r s : Option Nat) : Prop where
  os : w'.os = w.os
  tape : w'.tape = w.tape
  output : w'.output = w.output
  size : w.heap.size ≤ w'.heap.size
  block : ∀ k, k < w.heap.size → some k ≠ r → some k ≠ s → w'.heap[k]? = w.heap[k]?
section
variable {w w' w'' : World} {r s t : Option Nat}
theorem Grown2.refl (w : World) (r s : Option Nat) : Grown2 w w r s := ⟨rfl, rfl, rfl, Nat.le_refl _, fun _ _ _ _ => rfl⟩
theorem Grown2.drew (h : Grown2 w w' r s) : Grown2 w w'.drew r s := ⟨h.os, h.tape, h.output, h.size, h.block⟩
theorem Grown2.by (h : Grown2 w w' r s) (hg : w'.grownBy w'' t) (ht : t = r ∨ t = s ∨ ∀ k, t = some k → w.heap.size ≤ k) : Grown2 w w'' r s :=
  ⟨hg.os.trans h.os, hg.tape.trans h.tape, hg.output.trans h.output, Nat.le_trans h.size hg.size, fun k hk h1 h2 => (hg.block k (Nat.lt_of_lt_of_le hk h.size) (fun e => by
    rcases ht with rfl | rfl | ht
    · exact h1 e
    · exact h2 e
    · have := ht k e.symm; omega)).trans (h.block k hk h1 h2)⟩
theorem Grown2.alloc (h : Grown2 w w' r s) (o : Obj) : Grown2 w (w'.alloc o) r s := h.by (World.grownBy_alloc w' o none) (.inr (.inr fun k e => by cases e))
theorem Grown2.below {B : Nat} (h : Grown2 w w' r s) (hB : B ≤ w.heap.size) (hr : ∀ k, r = some k → B ≤ k) (hs : ∀ k, s = some k → B ≤ k) : Below B w w' :=
  ⟨h.os, h.tape, h.output, h.size, fun k hk => h.block k (by omega) (fun e => by have := hr k e.symm; omega) (fun e => by have := hs k e.symm; omega)⟩
end
end Go.Proofs.Ytnaoiochfdipiaa
