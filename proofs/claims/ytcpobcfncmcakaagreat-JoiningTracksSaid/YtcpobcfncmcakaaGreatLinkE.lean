/- linkage.numbers, has. Condition: the arguments read as lists. -/
import Derived.Test.YtcpobcfncmcakaaGreatLinkA
namespace Go.Proofs.YtcpobcfncmcakaaGreat
open Go.RowKit Go.Shelf

def numbersB (xs : List Int) : Bool := ascB xs 1 999 && decide (xs.length ≤ 32)
/-! ### Dies that are all used -/
theorem asc_sub : ∀ {xs ys : List Int}, xs.Pairwise (· < ·) → ys.Pairwise (· < ·) → (∀ n ∈ ys, n ∈ xs) → ys.length ≤ xs.length ∧ (ys.length = xs.length → ys = xs)
  | [], [], _, _, _ => by simp
  | [], y :: ys, _, _, h => absurd (h y (by simp)) (by simp)
  | x :: xs, [], _, _, _ => by simp
  | x :: xs, y :: ys, hx, hy, h => by
    rw [List.pairwise_cons] at hx hy
    by_cases e : y = x
    · subst e
      obtain ⟨h1, h2⟩ := asc_sub hx.2 hy.2 fun n hn => by
        have := h n (List.mem_cons_of_mem _ hn)
        rw [List.mem_cons] at this
        rcases this with rfl | this
        · have := hy.1 n hn; omega
        · exact this
      refine ⟨by simpa using h1, fun hl => ?_⟩
      rw [h2 (by simpa using hl)]
    · have hyx : y ∈ xs := by
        have := h y (by simp)
        rw [List.mem_cons] at this
        exact this.resolve_left e
      have hlt := hx.1 y hyx
      obtain ⟨h1, _⟩ := asc_sub (ys := y :: ys) hx.2 (List.pairwise_cons.2 hy) fun n hn => by
        have h3 := h n hn
        rw [List.mem_cons] at h3 hn
        rcases h3 with rfl | h3
        · rcases hn with rfl | hn
          · omega
          · have := hy.1 n hn; omega
        · exact h3
      refine ⟨by simp at h1 ⊢; omega, fun hl => ?_⟩
      simp at h1 hl
      omega
theorem used_iff {xs l : List Int} (hx : xs.Pairwise (· < ·)) (h : ∀ n ∈ l, n ∈ xs) : (withs l).length = xs.length ↔ ∀ n ∈ xs, n ∈ l := by
  constructor
  · intro hl n hn
    have := (asc_sub hx (withs_asc l) fun n hn => h n ((withs_mem l n).1 hn)).2 hl
    exact (withs_mem l n).1 (by rw [this]; exact hn)
  · intro ha
    rw [← withs_unique hx fun n => ⟨ha n, h n⟩]
theorem ascB_asc {xs : List Int} {lo hi : Int} (h : ascB xs lo hi = true) : xs.Pairwise (· < ·) := by
  simp only [ascB, decide_eq_true_eq] at h
  exact h.2
end Go.Proofs.YtcpobcfncmcakaaGreat
/- linkage.Valid. Condition: the argument reads as a graph. -/
namespace Go.Proofs.YtcpobcfncmcakaaGreat
open Go.RowKit Go.Shelf

theorem graphB_parts (g : Graph) : graphB g = true ↔ ((numbersB g.obv = true ∧ numbersB g.rev = true ∧ g.links.length ≤ 64) ∧ ascB (g.links.map Link.id) 1 9999 = true ∧ g.links.all (linkOK g) = true) ∧
    (withs (g.links.map Link.obv)).length = g.obv.length ∧ (withs (g.links.map Link.rev)).length = g.rev.length := by
  rw [graphB_iff]
  constructor
  · rintro ⟨a, b, c, d, e, f, h, i, j⟩
    have ho : ∀ n ∈ g.links.map Link.obv, n ∈ g.obv := by
      intro n hn
      obtain ⟨x, hx, rfl⟩ := List.mem_map.1 hn
      have := List.all_eq_true.1 h x hx
      simp only [Bool.and_eq_true, hasB_iff] at this
      exact this.1
    have hr : ∀ n ∈ g.links.map Link.rev, n ∈ g.rev := by
      intro n hn
      obtain ⟨x, hx, rfl⟩ := List.mem_map.1 hn
      have := List.all_eq_true.1 h x hx
      simp only [Bool.and_eq_true, hasB_iff] at this
      exact this.2
    refine ⟨⟨⟨by simp [numbersB, d, a], by simp [numbersB, e, b], c⟩, f, h⟩, (used_iff (ascB_asc d) ho).2 fun n hn => ?_, (used_iff (ascB_asc e) hr).2 fun n hn => ?_⟩
    · exact (hasB_iff _ _).1 (List.all_eq_true.1 i n hn)
    · exact (hasB_iff _ _).1 (List.all_eq_true.1 j n hn)
  · rintro ⟨⟨⟨a, b, c⟩, f, h⟩, u1, u2⟩
    simp only [numbersB, Bool.and_eq_true, decide_eq_true_eq] at a b
    have ho : ∀ n ∈ g.links.map Link.obv, n ∈ g.obv := by
      intro n hn
      obtain ⟨x, hx, rfl⟩ := List.mem_map.1 hn
      have := List.all_eq_true.1 h x hx
      simp only [linkOK, Bool.and_eq_true, hasB_iff] at this
      exact this.1
    have hr : ∀ n ∈ g.links.map Link.rev, n ∈ g.rev := by
      intro n hn
      obtain ⟨x, hx, rfl⟩ := List.mem_map.1 hn
      have := List.all_eq_true.1 h x hx
      simp only [linkOK, Bool.and_eq_true, hasB_iff] at this
      exact this.2
    refine ⟨a.2, b.2, c, a.1, b.1, f, h, ?_, ?_⟩
    · exact List.all_eq_true.2 fun n hn => (hasB_iff _ _).2 ((used_iff (ascB_asc a.1) ho).1 u1 n hn)
    · exact List.all_eq_true.2 fun n hn => (hasB_iff _ _).2 ((used_iff (ascB_asc b.1) hr).1 u2 n hn)

end Go.Proofs.YtcpobcfncmcakaaGreat
/- linkage.end and Degree. Condition: the argument reads as a graph. -/
namespace Go.Proofs.YtcpobcfncmcakaaGreat
open Go.RowKit Go.Shelf

def endI (x : Link) (side : Int) : Int := if side = 0 then x.obv else x.rev
/-- The number of links of a die. -/
def degI (g : Graph) (d : Die) : Int := if graphB g = true then (g.links.countP (fun x => touchB x d) : Nat) else 0
theorem touch_end {x : Link} {d : Die} (h : d.side = 0 ∨ d.side = 1) : touchB x d = (endI x d.side == d.num) := by
  unfold touchB endI
  rcases h with h | h <;> simp [h]
theorem touch_none {x : Link} {d : Die} (h : ¬ (d.side = 0 ∨ d.side = 1)) : touchB x d = false := by
  unfold touchB
  simp only [not_or] at h
  simp [h.1, h.2]
theorem countP_snoc {α : Type} {p : α → Bool} {l : List α} {k : Nat} {x : α} (hx : l[k]? = some x) : (l.take (k + 1)).countP p = (l.take k).countP p + (if p x = true then 1 else 0) := by
  rw [take_snoc' hx, List.countP_append, List.countP_singleton]

end Go.Proofs.YtcpobcfncmcakaaGreat
