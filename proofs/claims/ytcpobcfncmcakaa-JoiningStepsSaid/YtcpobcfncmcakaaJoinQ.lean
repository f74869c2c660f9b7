/- The components of a corpus list and of its die graph, plain. No program in sight, no condition. -/
import Derived.Test.YtcpobcfncmcakaaJoinP
import Derived.Test.YtcpobcfncmcakaaIgn
import Derived.Test.YtcpobcfncmcakaaCovG
namespace Go.Proofs.Ytcpobcfncmcakaa
open Go.RowKit Go.Shelf

def edgesS (l : List Spec) : List (Die × Die) := l.map fun s => (dA s, dB s)
theorem edges_of {l : List Spec} (h : ofE l = 0) (e : Die × Die) : e ∈ edgesG (ofG l) ↔ e ∈ edgesS l := by
  have hd := links_nodup (checkE_zero (ofE_zero h).1).2.2
  rw [of_made h, edgesG, edgesS, List.mem_map, List.mem_map]
  constructor
  · rintro ⟨x, hx, rfl⟩
    obtain ⟨s, hs, rfl⟩ := List.mem_map.1 ((inss_mem hd x).1 hx)
    exact ⟨s, hs, rfl⟩
  · rintro ⟨s, hs, rfl⟩
    exact ⟨linkOf s, (inss_mem hd _).2 (List.mem_map.2 ⟨s, hs, rfl⟩), rfl⟩
theorem join_of {l : List Spec} (h : ofE l = 0) (a b : Die) : joinB (edgesG (ofG l)) a b = joinB (edgesS l) a b := by
  rw [Bool.eq_iff_iff, joinB_iff, joinB_iff]
  exact joinE_congr (edges_of h)
theorem withs_len_mono {l k : List Int} (h : ∀ n ∈ l, n ∈ k) : (withs l).length ≤ (withs k).length :=
  nodup_len ((withs_asc l).imp fun h e => by omega) fun x hx => (withs_mem k x).2 (h x ((withs_mem l x).1 hx))
theorem check_sub {l k : List Spec} (h : checkE l = 0) (hs : k.Sublist l) : checkE k = 0 := by
  obtain ⟨h1, h2, h3⟩ := checkE_zero h
  refine checkE_ok (by have := hs.length_le; omega) ?_ (h3.sublist (hs.map Spec.id))
  rw [List.all_eq_true] at h2 ⊢
  exact fun x hx => h2 x (hs.subset hx)
/-- A list of some of the specimens has a die graph if the whole list has one. -/
theorem of_sub {l k : List Spec} (h : ofE l = 0) (hs : k.Sublist l) : ofE k = 0 := by
  obtain ⟨h1, h2⟩ := ofE_zero h
  have hd := links_nodup (checkE_zero h1).2.2
  have hc := check_sub h1 hs
  rw [ofE, if_pos hc, if_neg]
  intro hf
  have g2 : ¬ 32 < (withs ((l.map linkOf).map Link.obv)).length ∧ ¬ 32 < (withs ((l.map linkOf).map Link.rev)).length := by
    unfold full madeG at h2
    rw [Bool.or_eq_false_iff, decide_eq_false_iff_not, decide_eq_false_iff_not] at h2
    exact h2
  have gf : 32 < (withs ((k.map linkOf).map Link.obv)).length ∨ 32 < (withs ((k.map linkOf).map Link.rev)).length := by
    unfold full madeG at hf
    rw [Bool.or_eq_true, decide_eq_true_eq, decide_eq_true_eq] at hf
    exact hf
  have m1 := withs_len_mono (l := (k.map linkOf).map Link.obv) (k := (l.map linkOf).map Link.obv) fun n hn => ((hs.map linkOf).map Link.obv).subset hn
  have m2 := withs_len_mono (l := (k.map linkOf).map Link.rev) (k := (l.map linkOf).map Link.rev) fun n hn => ((hs.map linkOf).map Link.rev).subset hn
  omega
theorem of_take {l : List Spec} (h : ofE l = 0) (k : Nat) : ofE (l.take k) = 0 := of_sub h (List.take_sublist k l)
theorem dies_end {g : Graph} (hg : graphB g = true) (d : Die) : d ∈ diesG g ↔ EndE (edgesG g) d := by
  have hok := (graphB_iff g).1 hg
  have hE := graphB_ends hg
  rw [diesG_mem hg]
  obtain ⟨s, n⟩ := d
  simp only [dieIn, Bool.or_eq_true, Bool.and_eq_true, beq_iff_eq, hasB_iff]
  constructor
  · rintro (⟨rfl, hn⟩ | ⟨rfl, hn⟩)
    · have := List.all_eq_true.1 hok.uo n hn
      rw [hasB_iff] at this
      obtain ⟨x, hx, rfl⟩ := List.mem_map.1 this
      exact ⟨_, List.mem_map.2 ⟨x, hx, rfl⟩, .inl rfl⟩
    · have := List.all_eq_true.1 hok.ur n hn
      rw [hasB_iff] at this
      obtain ⟨x, hx, rfl⟩ := List.mem_map.1 this
      exact ⟨_, List.mem_map.2 ⟨x, hx, rfl⟩, .inr rfl⟩
  · rintro ⟨e, he, h⟩
    obtain ⟨x, hx, rfl⟩ := List.mem_map.1 he
    rcases h with h | h
    · simp only [Die.mk.injEq] at h
      obtain ⟨rfl, rfl⟩ := h
      exact .inl ⟨rfl, hE.1 x hx⟩
    · simp only [Die.mk.injEq] at h
      obtain ⟨rfl, rfl⟩ := h
      exact .inr ⟨rfl, hE.2 x hx⟩
theorem dies_nodup {g : Graph} (hg : graphB g = true) : (diesG g).Nodup := by
  have hok := (graphB_iff g).1 hg
  have h1 : g.obv.Nodup := (ascB_asc hok.ao).imp fun h e => by omega
  have h2 : g.rev.Nodup := (ascB_asc hok.ar).imp fun h e => by omega
  rw [diesG, if_pos hg, List.nodup_append]
  refine ⟨nodup_map _ h1 fun x _ y _ e => by simpa using e, nodup_map _ h2 fun x _ y _ e => by simpa using e, fun a ha b hb e => ?_⟩
  obtain ⟨x, _, rfl⟩ := List.mem_map.1 ha
  obtain ⟨y, _, rfl⟩ := List.mem_map.1 hb
  simp at e
/-- The number of components. -/
noncomputable def compN (g : Graph) : Nat := firstsA (joinB (edgesG g)) [] (diesG g)
/-- The growth of a list. -/
def growL (l : List Spec) : Gr := l.foldl (fun g s => enterG s g) beginG
theorem growL_snoc (l : List Spec) (s : Spec) : growL (l ++ [s]) = enterG s (growL l) := by rw [growL, List.foldl_append]; rfl
theorem edgesS_snoc (l : List Spec) (s : Spec) : edgesS (l ++ [s]) = edgesS l ++ [(dA s, dB s)] := by rw [edgesS, List.map_append]; rfl
theorem growL_take {l : List Spec} {k : Nat} {s : Spec} (h : l[k]? = some s) : growL (l.take (k + 1)) = enterG s (growL (l.take k)) := by rw [take_snoc' h, growL_snoc]
theorem ninv_list (l : List Spec) : NInv (edgesS l) (growL l) := by
  have : ∀ k, k ≤ l.length → NInv (edgesS (l.take k)) (growL (l.take k)) := by
    intro k
    induction k with
    | zero => intro _; exact ninv_begin
    | succ k ih =>
      intro hk
      obtain ⟨s, hs⟩ := get_of_lt (show k < l.length by omega)
      rw [take_snoc' hs, growL_snoc, edgesS_snoc]
      exact ((ih (by omega)).enter s).1
  have := this l.length (Nat.le_refl _)
  rwa [List.take_length] at this
/-- Two dies that a growth knows are joined just when they have one name. -/
theorem NInv.joined {E : List (Die × Die)} {g : Gr} (h : NInv E g) (a b : Die) : joinB E a b = ((lookM g.m a).isSome && (lookM g.m b).isSome && ((lookM g.m a).getD 0 == (lookM g.m b).getD 0)) := by
  rw [Bool.eq_iff_iff, joinB_iff, Bool.and_eq_true, Bool.and_eq_true, h.keys, h.keys, beq_iff_eq]
  constructor
  · rintro ⟨h1, h2, h3⟩
    obtain ⟨n, hn⟩ := Option.isSome_iff_exists.1 ((h.keys a).2 h1)
    obtain ⟨k, hk⟩ := Option.isSome_iff_exists.1 ((h.keys b).2 h2)
    refine ⟨⟨h1, h2⟩, ?_⟩
    rw [hn, hk]
    exact (h.con a b n k hn hk).2 h3
  · rintro ⟨⟨h1, h2⟩, h3⟩
    obtain ⟨n, hn⟩ := Option.isSome_iff_exists.1 ((h.keys a).2 h1)
    obtain ⟨k, hk⟩ := Option.isSome_iff_exists.1 ((h.keys b).2 h2)
    rw [hn, hk] at h3
    exact ⟨h1, h2, (h.con a b n k hn hk).1 h3⟩
theorem count_comp {l : List Spec} (h : ofE l = 0) : (growL l).count = compN (ofG l) := by
  have hI := ninv_list l
  have hg := of_valid h
  have hmem : ∀ d, d ∈ diesG (ofG l) ↔ EndE (edgesS l) d := fun d => by
    rw [dies_end hg]
    constructor
    · rintro ⟨e, he, h1⟩; exact ⟨e, (edges_of h e).1 he, h1⟩
    · rintro ⟨e, he, h1⟩; exact ⟨e, (edges_of h e).2 he, h1⟩
  obtain ⟨f, hf⟩ : ∃ f : Die → Int, f = fun d => (lookM (growL l).m d).getD 0 := ⟨_, rfl⟩
  have hfr : ∀ d ∈ diesG (ofG l), ∃ n, lookM (growL l).m d = some n ∧ f d = n := fun d hd => by
    obtain ⟨n, hn⟩ := Option.isSome_iff_exists.1 ((hI.keys d).2 ((hmem d).1 hd))
    exact ⟨n, hn, by rw [hf]; simp [hn]⟩
  have h1 := firsts_values f (growL l).named (diesG (ofG l)) (fun d hd => by
    obtain ⟨n, hn, e⟩ := hfr d hd
    rw [e]; exact hI.rng d n hn)
  rw [compN, hI.cnt]
  have h2 : dcount (growL l).named ((growL l).m.map Prod.snd) = dcount (growL l).named ((diesG (ofG l)).map f) := dcount_congr fun x => by
    simp only [List.mem_map]
    constructor
    · rintro ⟨p, hp, rfl⟩
      have hl := (lookM_mem hI.nod).2 hp
      have hd := (hmem p.1).2 ((hI.keys p.1).1 (by rw [hl]; rfl))
      exact ⟨p.1, hd, by rw [hf]; simp [hl]⟩
    · rintro ⟨d, hd, rfl⟩
      obtain ⟨n, hn, e⟩ := hfr d hd
      exact ⟨(d, n), lookM_some hn, by rw [e]⟩
  rw [h2, ← h1]
  refine firstsA_congr _ _ fun a ha b hb => ?_
  rw [List.nil_append] at ha hb
  obtain ⟨n, hn, en⟩ := hfr a ha
  obtain ⟨k, hk, ek⟩ := hfr b hb
  rw [join_of h, hI.joined, hn, hk, en, ek]
  rfl
end Go.Proofs.Ytcpobcfncmcakaa
