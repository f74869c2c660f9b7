/- Package explanation: only, joins, Is, ends, across. Condition: the arguments read as such. -/
import Derived.Test.YtikfffojeakjoaaGreatDoorExpP
import Derived.Test.YtikfffojeakjoaaGreatDoorTraA
import Derived.Test.YtikfffojeakjoaaGreatDoorShelfX
import Derived.Shelf.SlicesG.Delete
namespace Go.Proofs.YtikfffojeakjoaaGreatDoor
open Go.RowKit Go.Maps

end Go.Proofs.YtikfffojeakjoaaGreatDoor
/- Package explanation: joins, Is, Minimal. Condition: the arguments read as such. -/
namespace Go.Proofs.YtikfffojeakjoaaGreatDoor
open Go.RowKit Go.Maps Go.Shelf

section
variable {l : List Spec} {a b : Die} {set : List Int} {x y : Int} {k : Nat}
/-- How far Is has looked. -/
structure IsUp (l : List Spec) (set : List Int) (k : Nat) : Prop where
  asc : AscL (set.take k)
  mem : ∀ n ∈ set.take k, n ∈ l.map Spec.id
theorem IsUp.start : IsUp l set 0 := ⟨List.Pairwise.nil, fun n h => by simp at h⟩
theorem asc_last {L : List Int} (h : AscL L) (hy : L[L.length - 1]? = some y) : ∀ n ∈ L, n ≤ y := fun n hn => by
  obtain ⟨i, hi, rfl⟩ := List.getElem_of_mem hn
  have hL : L.length - 1 < L.length := by omega
  rw [List.getElem?_eq_getElem hL] at hy
  cases hy
  rcases Nat.lt_or_ge i (L.length - 1) with h1 | h1
  · exact Int.le_of_lt (List.pairwise_iff_getElem.1 h i _ hi hL h1)
  · have : i = L.length - 1 := by omega
    subst this; exact Int.le_refl _
theorem IsUp.step (h : IsUp l set k) (hx : set[k]? = some x) (hm : x ∈ l.map Spec.id) (hy : 0 < k → ∃ y, set[k - 1]? = some y ∧ y < x) : IsUp l set (k + 1) := by
  have hk := lt_of_get hx
  refine ⟨?_, fun n hn => ?_⟩
  · rw [take_snoc' hx, AscL, List.pairwise_append]
    refine ⟨h.asc, List.pairwise_singleton _ _, fun n hn z hz => ?_⟩
    rw [List.mem_singleton] at hz; subst hz
    rcases Nat.eq_zero_or_pos k with h0 | h0
    · subst h0; simp at hn
    · obtain ⟨y, hy, hlt⟩ := hy h0
      have := asc_last h.asc (y := y) (by rw [List.length_take, Nat.min_eq_left (by omega), List.getElem?_take, if_pos (by omega)]; exact hy) n hn
      omega
  · rw [take_snoc' hx] at hn
    rcases List.mem_append.1 hn with hn | hn
    · exact h.mem n hn
    · rw [List.mem_singleton] at hn; subst hn; exact hm
theorem isS_off (h : ofE l ≠ 0) : isS l a b set = false := by simp [isS, h]
theorem isS_mem (hx : set[k]? = some x) (hm : x ∉ l.map Spec.id) : isS l a b set = false := by
  have : set.all (fun n => decide (n ∈ l.map Spec.id)) = false := by
    rw [List.all_eq_false]; exact ⟨x, List.mem_of_getElem? hx, by simpa using hm⟩
  rw [isS, this]; simp
theorem isS_asc (h0 : 0 < k) (hx : set[k]? = some x) (hy : set[k - 1]? = some y) (h : x ≤ y) : isS l a b set = false := by
  have : ¬ AscL set := fun ha => by
    have hk := lt_of_get hx
    rw [List.getElem?_eq_getElem hk] at hx
    rw [List.getElem?_eq_getElem (show k - 1 < set.length by omega)] at hy
    have e1 := Option.some.inj hx; have e2 := Option.some.inj hy
    have := List.pairwise_iff_getElem.1 ha (k - 1) k (by omega) hk (by omega)
    omega
  simp [isS, this]
theorem isS_all (h : ofE l = 0) (hu : IsUp l set k) (hk : ¬ k < set.length) : isS l a b set = jnL (onlyL l set true) a b := by
  have h1 := hu.asc; have h2 := hu.mem
  rw [List.take_of_length_le (by omega)] at h1 h2
  have h3 : set.all (fun n => decide (n ∈ l.map Spec.id)) = true := List.all_eq_true.2 fun n hn => by simpa using h2 n hn
  rw [isS, h3]; simp [h, h1]
end
end Go.Proofs.YtikfffojeakjoaaGreatDoor
/- Package explanation: Is. Condition: the arguments read as such. -/
namespace Go.Proofs.YtikfffojeakjoaaGreatDoor
open Go.RowKit Go.Maps Go.Shelf

end Go.Proofs.YtikfffojeakjoaaGreatDoor
/- Package explanation: Minimal. Condition: the arguments read as such. -/
namespace Go.Proofs.YtikfffojeakjoaaGreatDoor
open Go.RowKit Go.Maps Go.Shelf

section
variable {l : List Spec} {a b : Die} {set : List Int} {k : Nat}
def minUp (l : List Spec) (a b : Die) (set : List Int) (k : Nat) : Prop := ∀ i, i < k → jnL (onlyL l (set.eraseIdx i) true) a b = false
theorem minS_off (h : isS l a b set = false) : minS l a b set = false := by rw [minS, h]; rfl
theorem minS_hit (hk : k < set.length) (h : jnL (onlyL l (set.eraseIdx k) true) a b = true) : minS l a b set = false := by
  have : ((List.range set.length).all fun i => !jnL (onlyL l (set.eraseIdx i) true) a b) = false := by
    rw [List.all_eq_false]; exact ⟨k, List.mem_range.2 hk, by simp [h]⟩
  rw [minS, this, Bool.and_false]
theorem minS_all (h : isS l a b set = true) (hu : minUp l a b set k) (hk : ¬ k < set.length) : minS l a b set = true := by
  have : ((List.range set.length).all fun i => !jnL (onlyL l (set.eraseIdx i) true) a b) = true := by
    rw [List.all_eq_true]; intro i hi; simpa using hu i (by have := List.mem_range.1 hi; omega)
  rw [minS, this, h]; rfl
end
end Go.Proofs.YtikfffojeakjoaaGreatDoor
