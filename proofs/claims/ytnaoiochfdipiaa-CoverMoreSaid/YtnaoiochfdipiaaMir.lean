/- The mirrored graph, plain: its matchings are as great. No program in sight, no condition. -/
import Derived.Test.YtnaoiochfdipiaaCovE
namespace Go.Proofs.Ytnaoiochfdipiaa
open Go.RowKit

def mirL (x : Link) : Link := ⟨x.id, x.rev, x.obv⟩
def mirG (g : Graph) : Graph := ⟨g.rev, g.obv, g.links.map mirL⟩
theorem mirG_mirG (g : Graph) : mirG (mirG g) = g := by
  obtain ⟨o, r, l⟩ := g
  simp only [mirG, List.map_map, Graph.mk.injEq, true_and]
  exact (List.map_congr_left (fun x _ => by cases x; rfl)).trans (List.map_id l)
theorem mir_obv (l : List Link) : (l.map mirL).map Link.obv = l.map Link.rev := by rw [List.map_map]; rfl
theorem mir_rev (l : List Link) : (l.map mirL).map Link.rev = l.map Link.obv := by rw [List.map_map]; rfl
theorem mir_id (l : List Link) : (l.map mirL).map Link.id = l.map Link.id := by rw [List.map_map]; rfl
theorem mirG_ok {g : Graph} (h : GraphOK g) : GraphOK (mirG g) where
  lo := h.lr
  lr := h.lo
  ll := by simpa [mirG] using h.ll
  ao := h.ar
  ar := h.ao
  ids := by simp only [mirG, mir_id]; exact h.ids
  ends := by
    simp only [mirG, List.all_map]
    refine List.all_eq_true.2 fun x hx => ?_
    have := List.all_eq_true.1 h.ends x hx
    simp only [Bool.and_eq_true] at this
    simp [mirL, this.1, this.2]
  uo := by simp only [mirG, mir_obv]; exact h.ur
  ur := by simp only [mirG, mir_rev]; exact h.uo
theorem mirG_graphB (g : Graph) : graphB (mirG g) = graphB g := by
  rw [Bool.eq_iff_iff, graphB_iff, graphB_iff]
  refine ⟨fun h => ?_, mirG_ok⟩
  have := mirG_ok h
  rwa [mirG_mirG] at this
theorem mirG_linked {g : Graph} {a b : Int} (h : linkedP g a b) : linkedP (mirG g) b a := by
  obtain ⟨x, hx, rfl, rfl⟩ := h
  exact ⟨mirL x, List.mem_map.2 ⟨x, hx, rfl⟩, rfl, rfl⟩
theorem opt_mir {g : Graph} {n : Nat} (h : Opt g n) : Opt (mirG g) n := by
  obtain ⟨l, c, hl, hc, h1, h2⟩ := h
  have hnd : ((l.map fun p => (p.b, p.a)).map Prod.fst).Nodup := by rw [List.map_map]; exact hl.inj
  have hL := sortM_of hnd
  refine ⟨_, (c.filter fun d => d.side == 1).map (fun d => ⟨0, d.num⟩) ++ (c.filter fun d => !(d.side == 1)).map (fun d => ⟨1, d.num⟩), ⟨fun p hp => ?_, ?_, ?_⟩, ⟨fun d hd => ?_, ?_, fun x hx => ?_⟩, by rw [hL.len, List.length_map, h1], ?_⟩
  · obtain ⟨q, hq, rfl⟩ := List.mem_map.1 (hL.perm.mem_iff.1 hp)
    obtain ⟨r, hr, rfl⟩ := List.mem_map.1 hq
    exact mirG_linked (hl.link r hr)
  · rw [List.pairwise_map]
    refine hL.asc.imp_of_mem fun {a b} ha hb hab => ?_
    rcases hab with hab | ⟨e1, e2⟩
    · exact hab
    · have k1 := (hL.mem hnd).1 ha
      have k2 := (hL.mem hnd).1 hb
      rw [e1, k2] at k1
      have := Option.some.inj k1
      omega
  · have h3 : ((sortM (l.map fun p => (p.b, p.a))).map Pair.b).Perm (l.map Pair.a) := by
      have := hL.perm.map Pair.b
      rw [List.map_map, List.map_map] at this
      exact this
    rw [h3.nodup_iff]
    exact hl.asc.imp fun h e => by omega
  · rcases List.mem_append.1 hd with hd | hd
    · obtain ⟨e, he, rfl⟩ := List.mem_map.1 hd
      obtain ⟨he, hs⟩ := List.mem_filter.1 he
      have := hc.die e he
      simp only [dieIn, Bool.or_eq_true, Bool.and_eq_true, beq_iff_eq] at this hs ⊢
      rcases this with h | h
      · rw [hs] at h; omega
      · exact .inl ⟨trivial, h.2⟩
    · obtain ⟨e, he, rfl⟩ := List.mem_map.1 hd
      obtain ⟨he, hs⟩ := List.mem_filter.1 he
      have := hc.die e he
      simp only [dieIn, Bool.or_eq_true, Bool.and_eq_true, beq_iff_eq, Bool.not_eq_true', beq_eq_false_iff_ne] at this hs ⊢
      rcases this with h | h
      · exact .inr ⟨trivial, h.2⟩
      · exact absurd h.1 hs
  · refine List.pairwise_append.2 ⟨?_, ?_, fun a ha b hb => ?_⟩
    · rw [List.pairwise_map]
      refine (hc.asc.filter _).imp_of_mem fun {a b} ha hb hab => ?_
      have e1 := (List.mem_filter.1 ha).2
      have e2 := (List.mem_filter.1 hb).2
      simp only [beq_iff_eq] at e1 e2
      refine .inr ⟨rfl, ?_⟩
      show a.num < b.num
      unfold ltD at hab
      omega
    · rw [List.pairwise_map]
      refine (hc.asc.filter _).imp_of_mem fun {a b} ha hb hab => ?_
      have d1 := hc.die a (List.mem_filter.1 ha).1
      have d2 := hc.die b (List.mem_filter.1 hb).1
      have e1 := (List.mem_filter.1 ha).2
      have e2 := (List.mem_filter.1 hb).2
      simp only [dieIn, Bool.or_eq_true, Bool.and_eq_true, beq_iff_eq, Bool.not_eq_true', beq_eq_false_iff_ne] at d1 d2 e1 e2
      refine .inr ⟨rfl, ?_⟩
      show a.num < b.num
      unfold ltD at hab
      omega
    · obtain ⟨_, _, rfl⟩ := List.mem_map.1 ha
      obtain ⟨_, _, rfl⟩ := List.mem_map.1 hb
      exact .inl (by simp)
  · obtain ⟨y, hy, rfl⟩ := List.mem_map.1 hx
    rcases hc.cov y hy with h | h
    · exact .inr (List.mem_append_right _ (List.mem_map.2 ⟨_, List.mem_filter.2 ⟨h, by simp⟩, rfl⟩))
    · exact .inl (List.mem_append_left _ (List.mem_map.2 ⟨_, List.mem_filter.2 ⟨h, by simp⟩, rfl⟩))
  · rw [List.length_append, List.length_map, List.length_map, filter_not_len, h2]
theorem size_opt {g : Graph} (hg : graphB g = true) : Opt g (mchG g).length := by
  have h := (gm_great hg).opt hg (mchG_of hg)
  rwa [← (gm_great hg).good.len, ← (mchG_of hg).len] at h
theorem size_mir (g : Graph) : sizeG (mirG g) = sizeG g := by
  unfold sizeG
  cases hg : graphB g
  · have hg' := mirG_graphB g
    rw [hg] at hg'
    simp [mchG, hg, hg']
  · have hg' : graphB (mirG g) = true := by rw [mirG_graphB, hg]
    rw [(size_opt hg').unique (opt_mir (size_opt hg))]
theorem validE_mir (g : Graph) : validE (mirG g) = validE g := by simp [validE, mirG_graphB]
end Go.Proofs.Ytnaoiochfdipiaa
