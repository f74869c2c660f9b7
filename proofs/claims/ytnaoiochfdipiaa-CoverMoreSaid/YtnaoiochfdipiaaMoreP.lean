/- A graph without one of its links, plain: it is valid, and its matchings have the same size or one less. No program in sight, no condition. -/
import Derived.Test.YtnaoiochfdipiaaCovK
namespace Go.Proofs.Ytnaoiochfdipiaa
open Go.RowKit

/-- A die that has no other link than x. -/
def aloneB (f : Link → Int) (rest : List Link) (v n : Int) : Bool := n == v && rest.all fun y => !(f y == v)
/-- The graph without the link x. -/
def lessG (g : Graph) (x : Link) (rest : List Link) : Graph := ⟨g.obv.filter fun n => !aloneB Link.obv rest x.obv n, g.rev.filter fun n => !aloneB Link.rev rest x.rev n, rest⟩
section
variable {g : Graph} {x : Link} {k : Nat}
def restL (g : Graph) (k : Nat) : List Link := g.links.take k ++ g.links.drop (k + 1)
theorem rest_mem (hx : g.links[k]? = some x) (y : Link) : y ∈ g.links ↔ y = x ∨ y ∈ restL g k := by
  have h : g.links = g.links.take k ++ x :: g.links.drop (k + 1) := by
    rw [← drop_at hx, List.take_append_drop]
  constructor
  · intro hy
    rw [h, List.mem_append, List.mem_cons] at hy
    rw [restL, List.mem_append]
    rcases hy with hy | hy | hy
    · exact .inr (.inl hy)
    · exact .inl hy
    · exact .inr (.inr hy)
  · intro hy
    rw [h, List.mem_append, List.mem_cons]
    rw [restL, List.mem_append] at hy
    rcases hy with hy | hy | hy
    · exact .inr (.inl hy)
    · exact .inl hy
    · exact .inr (.inr hy)
theorem rest_sub (g : Graph) (k : Nat) : (restL g k).Sublist g.links := by
  have h : ((g.links.take k ++ g.links.drop (k + 1))).Sublist (g.links.take k ++ g.links.drop k) := by
    refine List.Sublist.append (List.Sublist.refl _) ?_
    rw [show k + 1 = k + 1 from rfl, ← List.drop_drop (i := 1) (j := k)]
    exact List.drop_sublist _ _
  rwa [List.take_append_drop] at h
theorem alone_keeps {f : Link → Int} {rest : List Link} {v : Int} {y : Link} (hy : y ∈ rest) : aloneB f rest v (f y) = false := by
  cases h : aloneB f rest v (f y)
  · rfl
  · simp only [aloneB, Bool.and_eq_true, beq_iff_eq, List.all_eq_true] at h
    have := h.2 y hy
    rw [h.1] at this
    simp at this
theorem alone_has {f : Link → Int} {rest : List Link} {v n : Int} (h : aloneB f rest v n = false) (hn : n = v) : ∃ y ∈ rest, f y = n := by
  subst hn
  simp only [aloneB, beq_self_eq_true, Bool.true_and, List.all_eq_false] at h
  obtain ⟨y, hy, e⟩ := h
  exact ⟨y, hy, by simpa using e⟩
theorem ascB_sub {l c : List Int} {lo hi : Int} (h : ascB c lo hi = true) (hs : l.Sublist c) : ascB l lo hi = true := by
  simp only [ascB, decide_eq_true_eq] at h ⊢
  exact ⟨fun x hx => h.1 x (hs.subset hx), h.2.sublist hs⟩
theorem less_valid (hg : graphB g = true) (hx : g.links[k]? = some x) : graphB (lessG g x (restL g k)) = true := by
  have h := (graphB_iff g).1 hg
  have hends : ∀ y ∈ g.links, y.obv ∈ g.obv ∧ y.rev ∈ g.rev := fun y hy => by
    have := List.all_eq_true.1 h.ends y hy
    simp only [Bool.and_eq_true, hasB_iff] at this
    exact this
  have hsub := rest_sub g k
  refine (graphB_iff _).2 ⟨?_, ?_, ?_, ?_, ?_, ?_, ?_, ?_, ?_⟩
  · exact Nat.le_trans (List.length_filter_le _ _) h.lo
  · exact Nat.le_trans (List.length_filter_le _ _) h.lr
  · exact Nat.le_trans hsub.length_le h.ll
  · exact ascB_sub h.ao List.filter_sublist
  · exact ascB_sub h.ar List.filter_sublist
  · exact ascB_sub h.ids (hsub.map Link.id)
  · refine List.all_eq_true.2 fun y hy0 => ?_
    have hy : y ∈ restL g k := hy0
    have hy' := hends y (hsub.subset hy)
    simp only [Bool.and_eq_true, hasB_iff]
    exact ⟨List.mem_filter.2 ⟨hy'.1, by rw [alone_keeps hy]; rfl⟩, List.mem_filter.2 ⟨hy'.2, by rw [alone_keeps hy]; rfl⟩⟩
  · refine List.all_eq_true.2 fun n hn => ?_
    obtain ⟨h1, h2⟩ := List.mem_filter.1 hn
    have h2' : aloneB Link.obv (restL g k) x.obv n = false := by simpa using h2
    have h3 := List.all_eq_true.1 h.uo n h1
    rw [hasB_iff] at h3 ⊢
    obtain ⟨y, hy, rfl⟩ := List.mem_map.1 h3
    rcases (rest_mem hx y).1 hy with rfl | hy
    · obtain ⟨z, hz, e⟩ := alone_has h2' rfl
      exact List.mem_map.2 ⟨z, hz, e⟩
    · exact List.mem_map.2 ⟨y, hy, rfl⟩
  · refine List.all_eq_true.2 fun n hn => ?_
    obtain ⟨h1, h2⟩ := List.mem_filter.1 hn
    have h2' : aloneB Link.rev (restL g k) x.rev n = false := by simpa using h2
    have h3 := List.all_eq_true.1 h.ur n h1
    rw [hasB_iff] at h3 ⊢
    obtain ⟨y, hy, rfl⟩ := List.mem_map.1 h3
    rcases (rest_mem hx y).1 hy with rfl | hy
    · obtain ⟨z, hz, e⟩ := alone_has h2' rfl
      exact List.mem_map.2 ⟨z, hz, e⟩
    · exact List.mem_map.2 ⟨y, hy, rfl⟩
/-- Of a matching at most one pair needs the link. -/
theorem less_sizes (hg : graphB g = true) (hx : g.links[k]? = some x) : (mchG (lessG g x (restL g k))).length ≤ (mchG g).length ∧ (mchG g).length ≤ (mchG (lessG g x (restL g k))).length + 1 := by
  obtain ⟨m1, o1⟩ := mch_facts hg
  obtain ⟨m2, o2⟩ := mch_facts (less_valid hg hx)
  constructor
  · refine o1.le ⟨fun p hp => ?_, m2.asc, m2.inj⟩
    obtain ⟨y, hy, e1, e2⟩ := m2.link p hp
    exact ⟨y, (rest_sub g k).subset hy, e1, e2⟩
  · have h3 : IsMat (lessG g x (restL g k)) ((mchG g).filter fun p => !(p == ⟨x.obv, x.rev⟩)) := by
      refine ⟨fun p hp => ?_, m1.asc.sublist (List.filter_sublist.map _), m1.inj.sublist (List.filter_sublist.map _)⟩
      obtain ⟨h4, h5⟩ := List.mem_filter.1 hp
      obtain ⟨y, hy, e1, e2⟩ := m1.link p h4
      rcases (rest_mem hx y).1 hy with rfl | hy
      · have : p = ⟨y.obv, y.rev⟩ := by cases p; simp_all
        rw [this] at h5
        simp at h5
      · exact ⟨y, hy, e1, e2⟩
    have h6 := o2.le h3
    have h7 := filter_not_len (fun p : Pair => !(p == ⟨x.obv, x.rev⟩)) (mchG g)
    have h8 : ((mchG g).filter fun p => !(!(p == ⟨x.obv, x.rev⟩))).length ≤ 1 := by
      have hs : ∀ p ∈ (mchG g).filter fun p => !(!(p == ⟨x.obv, x.rev⟩)), p ∈ [(⟨x.obv, x.rev⟩ : Pair)] := fun p hp => by
        have := (List.mem_filter.1 hp).2
        simpa using this
      have := nodup_len (m1.nodup.filter _) hs
      simpa using this
    omega
end
end Go.Proofs.Ytnaoiochfdipiaa
