/- Plain laws for LinkageIgnores: the die graph of a list whose states, axes and weights are turned, in the reverse order; a graph that Of returns is valid. No condition. -/
import Derived.Test.YtikfffojeakjoaaGreatDoorLinkE
import Derived.Test.YtikfffojeakjoaaGreatDoorLinkD
namespace Go.Proofs.YtikfffojeakjoaaGreatDoor
open Go.RowKit Go.Shelf

def modS (st ax : Int) (s : Spec) : Spec := ⟨s.id, s.obv, s.rev, st, s.rs, ax, 1⟩
def backS (st ax : Int) (l : List Spec) : List Spec := (l.map (modS st ax)).reverse
theorem back_links (st ax : Int) (l : List Spec) : (backS st ax l).map linkOf = (l.map linkOf).reverse := by
  unfold backS
  rw [List.map_reverse, List.map_map]
  rfl
theorem back_ids (st ax : Int) (l : List Spec) : (backS st ax l).map Spec.id = (l.map Spec.id).reverse := by
  unfold backS
  rw [List.map_reverse, List.map_map]
  rfl
theorem nodup_rev {l : List Int} (h : l.Nodup) : l.reverse.Nodup := by
  unfold List.Nodup at *
  rw [List.pairwise_reverse]
  exact h.imp Ne.symm
theorem back_check {st ax : Int} {l : List Spec} (h1 : 1 ≤ st) (h2 : st ≤ 9) (h3 : 0 ≤ ax) (h4 : ax ≤ 11) (h : checkE l = 0) : checkE (backS st ax l) = 0 := by
  obtain ⟨a, b, c⟩ := checkE_zero h
  refine checkE_ok (by simp [backS]; omega) ?_ ?_
  · rw [List.all_eq_true] at b ⊢
    intro x hx
    simp only [backS, List.mem_reverse, List.mem_map] at hx
    obtain ⟨s, hs, rfl⟩ := hx
    have := b s hs
    simp [specB, inB] at this
    show ((decide (1 ≤ s.id) && decide (s.id ≤ 9999)) && ((decide (1 ≤ s.obv) && decide (s.obv ≤ 999)) && (decide (1 ≤ s.rev) && decide (s.rev ≤ 999)) && (decide (1 ≤ st) && decide (st ≤ 9)) && (decide (1 ≤ s.rs) && decide (s.rs ≤ 9))) && (decide (0 ≤ ax) && decide (ax ≤ 11)) && (decide ((1 : Int) ≤ 1) && decide ((1 : Int) ≤ 200000))) = true
    simp
    omega
  · rw [back_ids]
    exact nodup_rev c
theorem madeG_congr {l k : List Link} (hd : (l.map Link.id).Nodup) (hk : (k.map Link.id).Nodup) (h : ∀ n, n ∈ l ↔ n ∈ k) : madeG l = madeG k := by
  unfold madeG
  rw [inss_unique hk (inss_asc hd) fun n => (inss_mem hd n).trans (h n)]
  rw [withs_congr (l := l.map Link.obv) (k := k.map Link.obv) fun n => by simp only [List.mem_map, h], withs_congr (l := l.map Link.rev) (k := k.map Link.rev) fun n => by simp only [List.mem_map, h]]
theorem links_nodup {l : List Spec} (h : (l.map Spec.id).Nodup) : ((l.map linkOf).map Link.id).Nodup := by rw [List.map_map]; exact h
theorem back_made {st ax : Int} {l : List Spec} (h : checkE l = 0) : madeG ((backS st ax l).map linkOf) = madeG (l.map linkOf) := by
  have hd := links_nodup (checkE_zero h).2.2
  rw [back_links]
  exact madeG_congr (by rw [List.map_reverse]; exact nodup_rev hd) hd fun n => List.mem_reverse
theorem ofE_zero {l : List Spec} (h : ofE l = 0) : checkE l = 0 ∧ full (madeG (l.map linkOf)) = false := by
  unfold ofE at h
  split at h
  · refine ⟨by assumption, ?_⟩
    split at h
    · cases h
    · simp_all
  · contradiction
theorem back_of {st ax : Int} {l : List Spec} (h1 : 1 ≤ st) (h2 : st ≤ 9) (h3 : 0 ≤ ax) (h4 : ax ≤ 11) (h : ofE l = 0) : ofE (backS st ax l) = 0 ∧ ofG (backS st ax l) = ofG l := by
  obtain ⟨a, b⟩ := ofE_zero h
  have hc := back_check (st := st) (ax := ax) h1 h2 h3 h4 a
  have hm := back_made (st := st) (ax := ax) a
  have hE : ofE (backS st ax l) = 0 := by rw [ofE, if_pos hc, hm, b]; rfl
  exact ⟨hE, by rw [ofG, if_pos hE, hm, ofG, if_pos h]⟩
theorem of_made {l : List Spec} (h : ofE l = 0) : ofG l = madeG (l.map linkOf) := by rw [ofG, if_pos h]
theorem of_len {l : List Spec} (h : ofE l = 0) : (ofG l).links.length = l.length := by rw [of_made h]; simp [madeG, inss_len]
theorem of_none {l : List Spec} (h : ¬ ofE l = 0) : ofG l = emptyG := by rw [ofG, if_neg h]
/-- The graph of links with different Ids, ends in order, is valid. -/
theorem made_valid {l : List Link} (hd : (l.map Link.id).Nodup) (hl : l.length ≤ 64) (hb : ∀ x ∈ l, (1 ≤ x.id ∧ x.id ≤ 9999) ∧ (1 ≤ x.obv ∧ x.obv ≤ 999) ∧ (1 ≤ x.rev ∧ x.rev ≤ 999)) (hf : full (madeG l) = false) : graphB (madeG l) = true := by
  simp only [full, Bool.or_eq_false_iff, decide_eq_false_iff_not] at hf
  have hm : ∀ n, n ∈ inss l ↔ n ∈ l := inss_mem hd
  refine (graphB_iff _).2 ⟨by omega, by omega, by simpa [madeG, inss_len] using hl, ?_, ?_, ?_, ?_, ?_, ?_⟩
  · simp only [madeG, ascB]
    refine decide_eq_true ⟨fun x hx => ?_, withs_asc _⟩
    obtain ⟨y, hy, rfl⟩ := List.mem_map.1 ((withs_mem _ _).1 hx)
    exact (hb y hy).2.1
  · simp only [madeG, ascB]
    refine decide_eq_true ⟨fun x hx => ?_, withs_asc _⟩
    obtain ⟨y, hy, rfl⟩ := List.mem_map.1 ((withs_mem _ _).1 hx)
    exact (hb y hy).2.2
  · simp only [madeG, ascB]
    refine decide_eq_true ⟨fun x hx => ?_, ?_⟩
    · obtain ⟨y, hy, rfl⟩ := List.mem_map.1 hx
      exact (hb y ((hm y).1 hy)).1
    · rw [List.pairwise_map]; exact inss_asc hd
  · rw [List.all_eq_true]
    intro x hx
    have hx' := (hm x).1 hx
    simp only [madeG, Bool.and_eq_true, hasB_iff, withs_mem, List.mem_map]
    exact ⟨⟨x, hx', rfl⟩, ⟨x, hx', rfl⟩⟩
  · rw [List.all_eq_true]
    intro n hn
    obtain ⟨y, hy, rfl⟩ := List.mem_map.1 ((withs_mem _ _).1 hn)
    simp only [madeG, hasB_iff, List.mem_map]
    exact ⟨y, (hm y).2 hy, rfl⟩
  · rw [List.all_eq_true]
    intro n hn
    obtain ⟨y, hy, rfl⟩ := List.mem_map.1 ((withs_mem _ _).1 hn)
    simp only [madeG, hasB_iff, List.mem_map]
    exact ⟨y, (hm y).2 hy, rfl⟩
theorem of_valid {l : List Spec} (h : ofE l = 0) : graphB (ofG l) = true := by
  obtain ⟨a, b⟩ := ofE_zero h
  obtain ⟨c, d, e⟩ := checkE_zero a
  rw [of_made h]
  refine made_valid (links_nodup e) (by simpa using c) (fun x hx => ?_) b
  obtain ⟨s, hs, rfl⟩ := List.mem_map.1 hx
  have := List.all_eq_true.1 d s hs
  simp only [specB, inB, Bool.and_eq_true, decide_eq_true_eq] at this
  simp only [linkOf]
  omega
theorem back_take {st ax : Int} {l : List Spec} {k : Nat} {x : Spec} (hx : l[k]? = some x) : backS st ax (l.drop k) = backS st ax (l.drop (k + 1)) ++ [modS st ax x] := by
  have : l.drop k = x :: l.drop (k + 1) := by
    obtain ⟨h, rfl⟩ := List.getElem?_eq_some_iff.1 hx
    exact List.drop_eq_getElem_cons h
  rw [this]
  simp [backS]
end Go.Proofs.YtikfffojeakjoaaGreatDoor
