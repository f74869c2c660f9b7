/- Plain laws for LinkageIgnores: the die graph of a list whose states, axes and weights are turned, in the reverse order; a graph that Of returns is valid. No condition. -/
import Derived.Test.YthnckicnnhkkaaaGreatLinkE
import Derived.Test.YthnckicnnhkkaaaGreatSpecA
import Derived.Test.YthnckicnnhkkaaaGreatJoinP
import Derived.Test.YthnckicnnhkkaaaGreatCovA
namespace Go.Proofs.YthnckicnnhkkaaaGreat
open Go.RowKit Go.Shelf

def modS (st ax : Int) (s : Spec) : Spec := ⟨s.id, s.obv, s.rev, st, s.rs, ax, 1⟩
def backS (st ax : Int) (l : List Spec) : List Spec := (l.map (modS st ax)).reverse
theorem back_ids (st ax : Int) (l : List Spec) : (backS st ax l).map Spec.id = (l.map Spec.id).reverse := by
  unfold backS
  rw [List.map_reverse, List.map_map]
  rfl
theorem nodup_rev {l : List Int} (h : l.Nodup) : l.reverse.Nodup := by
  unfold List.Nodup at *
  rw [List.pairwise_reverse]
  exact h.imp Ne.symm
theorem back_check {st ax : Int} {l : List Spec} (h1 : 1 ≤ st) (h2 : st ≤ 9) (h3 : 0 ≤ ax) (h4 : ax ≤ 11) (h : checkE l = 0) : checkE (backS st ax l) = 0 := by
  obtain ⟨a, b, c⟩ := checkE_zero h
  refine checkE_ok (by simp [backS]; omega) ?_ ?_
  · rw [List.all_eq_true] at b ⊢
    intro x hx
    simp only [backS, List.mem_reverse, List.mem_map] at hx
    obtain ⟨s, hs, rfl⟩ := hx
    have := b s hs
    simp [specB, inB] at this
    show ((decide (1 ≤ s.id) && decide (s.id ≤ 9999)) && ((decide (1 ≤ s.obv) && decide (s.obv ≤ 999)) && (decide (1 ≤ s.rev) && decide (s.rev ≤ 999)) && (decide (1 ≤ st) && decide (st ≤ 9)) && (decide (1 ≤ s.rs) && decide (s.rs ≤ 9))) && (decide (0 ≤ ax) && decide (ax ≤ 11)) && (decide ((1 : Int) ≤ 1) && decide ((1 : Int) ≤ 200000))) = true
    simp
    omega
  · rw [back_ids]
    exact nodup_rev c
theorem links_nodup {l : List Spec} (h : (l.map Spec.id).Nodup) : ((l.map linkOf).map Link.id).Nodup := by rw [List.map_map]; exact h
theorem ofE_zero {l : List Spec} (h : ofE l = 0) : checkE l = 0 ∧ full (madeG (l.map linkOf)) = false := by
  unfold ofE at h
  split at h
  · refine ⟨by assumption, ?_⟩
    split at h
    · cases h
    · simp_all
  · contradiction
theorem of_made {l : List Spec} (h : ofE l = 0) : ofG l = madeG (l.map linkOf) := by rw [ofG, if_pos h]
/-- The graph of links with different Ids, ends in order, is valid. -/
theorem made_valid {l : List Link} (hd : (l.map Link.id).Nodup) (hl : l.length ≤ 64) (hb : ∀ x ∈ l, (1 ≤ x.id ∧ x.id ≤ 9999) ∧ (1 ≤ x.obv ∧ x.obv ≤ 999) ∧ (1 ≤ x.rev ∧ x.rev ≤ 999)) (hf : full (madeG l) = false) : graphB (madeG l) = true := by
  simp only [full, Bool.or_eq_false_iff, decide_eq_false_iff_not] at hf
  have hm : ∀ n, n ∈ inss l ↔ n ∈ l := inss_mem hd
  refine (graphB_iff _).2 ⟨by omega, by omega, by simpa [madeG, inss_len] using hl, ?_, ?_, ?_, ?_, ?_, ?_⟩
  · simp only [madeG, ascB]
    refine decide_eq_true ⟨fun x hx => ?_, withs_asc _⟩
    obtain ⟨y, hy, rfl⟩ := List.mem_map.1 ((withs_mem _ _).1 hx)
    exact (hb y hy).2.1
  · simp only [madeG, ascB]
    refine decide_eq_true ⟨fun x hx => ?_, withs_asc _⟩
    obtain ⟨y, hy, rfl⟩ := List.mem_map.1 ((withs_mem _ _).1 hx)
    exact (hb y hy).2.2
  · simp only [madeG, ascB]
    refine decide_eq_true ⟨fun x hx => ?_, ?_⟩
    · obtain ⟨y, hy, rfl⟩ := List.mem_map.1 hx
      exact (hb y ((hm y).1 hy)).1
    · rw [List.pairwise_map]; exact inss_asc hd
  · rw [List.all_eq_true]
    intro x hx
    have hx' := (hm x).1 hx
    simp only [madeG, Bool.and_eq_true, hasB_iff, withs_mem, List.mem_map]
    exact ⟨⟨x, hx', rfl⟩, ⟨x, hx', rfl⟩⟩
  · rw [List.all_eq_true]
    intro n hn
    obtain ⟨y, hy, rfl⟩ := List.mem_map.1 ((withs_mem _ _).1 hn)
    simp only [madeG, hasB_iff, List.mem_map]
    exact ⟨y, (hm y).2 hy, rfl⟩
  · rw [List.all_eq_true]
    intro n hn
    obtain ⟨y, hy, rfl⟩ := List.mem_map.1 ((withs_mem _ _).1 hn)
    simp only [madeG, hasB_iff, List.mem_map]
    exact ⟨y, (hm y).2 hy, rfl⟩
theorem of_valid {l : List Spec} (h : ofE l = 0) : graphB (ofG l) = true := by
  obtain ⟨a, b⟩ := ofE_zero h
  obtain ⟨c, d, e⟩ := checkE_zero a
  rw [of_made h]
  refine made_valid (links_nodup e) (by simpa using c) (fun x hx => ?_) b
  obtain ⟨s, hs, rfl⟩ := List.mem_map.1 hx
  have := List.all_eq_true.1 d s hs
  simp only [specB, inB, Bool.and_eq_true, decide_eq_true_eq] at this
  simp only [linkOf]
  omega
end Go.Proofs.YthnckicnnhkkaaaGreat
/- The components of a corpus list and of its die graph, plain. No program in sight, no condition. -/
namespace Go.Proofs.YthnckicnnhkkaaaGreat
open Go.RowKit Go.Shelf

def edgesS (l : List Spec) : List (Die × Die) := l.map fun s => (dA s, dB s)
theorem edges_of {l : List Spec} (h : ofE l = 0) (e : Die × Die) : e ∈ edgesG (ofG l) ↔ e ∈ edgesS l := by
  have hd := links_nodup (checkE_zero (ofE_zero h).1).2.2
  rw [of_made h, edgesG, edgesS, List.mem_map, List.mem_map]
  constructor
  · rintro ⟨x, hx, rfl⟩
    obtain ⟨s, hs, rfl⟩ := List.mem_map.1 ((inss_mem hd x).1 hx)
    exact ⟨s, hs, rfl⟩
  · rintro ⟨s, hs, rfl⟩
    exact ⟨linkOf s, (inss_mem hd _).2 (List.mem_map.2 ⟨s, hs, rfl⟩), rfl⟩
theorem join_of {l : List Spec} (h : ofE l = 0) (a b : Die) : joinB (edgesG (ofG l)) a b = joinB (edgesS l) a b := by
  rw [Bool.eq_iff_iff, joinB_iff, joinB_iff]
  exact joinE_congr (edges_of h)
theorem dies_end {g : Graph} (hg : graphB g = true) (d : Die) : d ∈ diesG g ↔ EndE (edgesG g) d := by
  have hok := (graphB_iff g).1 hg
  have hE := graphB_ends hg
  rw [diesG_mem hg]
  obtain ⟨s, n⟩ := d
  simp only [dieIn, Bool.or_eq_true, Bool.and_eq_true, beq_iff_eq, hasB_iff]
  constructor
  · rintro (⟨rfl, hn⟩ | ⟨rfl, hn⟩)
    · have := List.all_eq_true.1 hok.uo n hn
      rw [hasB_iff] at this
      obtain ⟨x, hx, rfl⟩ := List.mem_map.1 this
      exact ⟨_, List.mem_map.2 ⟨x, hx, rfl⟩, .inl rfl⟩
    · have := List.all_eq_true.1 hok.ur n hn
      rw [hasB_iff] at this
      obtain ⟨x, hx, rfl⟩ := List.mem_map.1 this
      exact ⟨_, List.mem_map.2 ⟨x, hx, rfl⟩, .inr rfl⟩
  · rintro ⟨e, he, h⟩
    obtain ⟨x, hx, rfl⟩ := List.mem_map.1 he
    rcases h with h | h
    · simp only [Die.mk.injEq] at h
      obtain ⟨rfl, rfl⟩ := h
      exact .inl ⟨rfl, hE.1 x hx⟩
    · simp only [Die.mk.injEq] at h
      obtain ⟨rfl, rfl⟩ := h
      exact .inr ⟨rfl, hE.2 x hx⟩
/-- The number of components. -/
noncomputable def compN (g : Graph) : Nat := firstsA (joinB (edgesG g)) [] (diesG g)
/-- The growth of a list. -/
def growL (l : List Spec) : Gr := l.foldl (fun g s => enterG s g) beginG
theorem growL_snoc (l : List Spec) (s : Spec) : growL (l ++ [s]) = enterG s (growL l) := by rw [growL, List.foldl_append]; rfl
theorem edgesS_snoc (l : List Spec) (s : Spec) : edgesS (l ++ [s]) = edgesS l ++ [(dA s, dB s)] := by rw [edgesS, List.map_append]; rfl
theorem ninv_list (l : List Spec) : NInv (edgesS l) (growL l) := by
  have : ∀ k, k ≤ l.length → NInv (edgesS (l.take k)) (growL (l.take k)) := by
    intro k
    induction k with
    | zero => intro _; exact ninv_begin
    | succ k ih =>
      intro hk
      obtain ⟨s, hs⟩ := get_of_lt (show k < l.length by omega)
      rw [take_snoc' hs, growL_snoc, edgesS_snoc]
      exact ((ih (by omega)).enter s).1
  have := this l.length (Nat.le_refl _)
  rwa [List.take_length] at this
/-- Two dies that a growth knows are joined just when they have one name. -/
theorem NInv.joined {E : List (Die × Die)} {g : Gr} (h : NInv E g) (a b : Die) : joinB E a b = ((lookM g.m a).isSome && (lookM g.m b).isSome && ((lookM g.m a).getD 0 == (lookM g.m b).getD 0)) := by
  rw [Bool.eq_iff_iff, joinB_iff, Bool.and_eq_true, Bool.and_eq_true, h.keys, h.keys, beq_iff_eq]
  constructor
  · rintro ⟨h1, h2, h3⟩
    obtain ⟨n, hn⟩ := Option.isSome_iff_exists.1 ((h.keys a).2 h1)
    obtain ⟨k, hk⟩ := Option.isSome_iff_exists.1 ((h.keys b).2 h2)
    refine ⟨⟨h1, h2⟩, ?_⟩
    rw [hn, hk]
    exact (h.con a b n k hn hk).2 h3
  · rintro ⟨⟨h1, h2⟩, h3⟩
    obtain ⟨n, hn⟩ := Option.isSome_iff_exists.1 ((h.keys a).2 h1)
    obtain ⟨k, hk⟩ := Option.isSome_iff_exists.1 ((h.keys b).2 h2)
    rw [hn, hk] at h3
    exact ⟨h1, h2, (h.con a b n k hn hk).1 h3⟩
theorem count_comp {l : List Spec} (h : ofE l = 0) : (growL l).count = compN (ofG l) := by
  have hI := ninv_list l
  have hg := of_valid h
  have hmem : ∀ d, d ∈ diesG (ofG l) ↔ EndE (edgesS l) d := fun d => by
    rw [dies_end hg]
    constructor
    · rintro ⟨e, he, h1⟩; exact ⟨e, (edges_of h e).1 he, h1⟩
    · rintro ⟨e, he, h1⟩; exact ⟨e, (edges_of h e).2 he, h1⟩
  obtain ⟨f, hf⟩ : ∃ f : Die → Int, f = fun d => (lookM (growL l).m d).getD 0 := ⟨_, rfl⟩
  have hfr : ∀ d ∈ diesG (ofG l), ∃ n, lookM (growL l).m d = some n ∧ f d = n := fun d hd => by
    obtain ⟨n, hn⟩ := Option.isSome_iff_exists.1 ((hI.keys d).2 ((hmem d).1 hd))
    exact ⟨n, hn, by rw [hf]; simp [hn]⟩
  have h1 := firsts_values f (growL l).named (diesG (ofG l)) (fun d hd => by
    obtain ⟨n, hn, e⟩ := hfr d hd
    rw [e]; exact hI.rng d n hn)
  rw [compN, hI.cnt]
  have h2 : dcount (growL l).named ((growL l).m.map Prod.snd) = dcount (growL l).named ((diesG (ofG l)).map f) := dcount_congr fun x => by
    simp only [List.mem_map]
    constructor
    · rintro ⟨p, hp, rfl⟩
      have hl := (lookM_mem hI.nod).2 hp
      have hd := (hmem p.1).2 ((hI.keys p.1).1 (by rw [hl]; rfl))
      exact ⟨p.1, hd, by rw [hf]; simp [hl]⟩
    · rintro ⟨d, hd, rfl⟩
      obtain ⟨n, hn, e⟩ := hfr d hd
      exact ⟨(d, n), lookM_some hn, by rw [e]⟩
  rw [h2, ← h1]
  refine firstsA_congr _ _ fun a ha b hb => ?_
  rw [List.nil_append] at ha hb
  obtain ⟨n, hn, en⟩ := hfr a ha
  obtain ⟨k, hk, ek⟩ := hfr b hb
  rw [join_of h, hI.joined, hn, hk, en, ek]
  rfl
end Go.Proofs.YthnckicnnhkkaaaGreat
/- Walks in a forest, plain: there is one at most, and one between joined dies. No program in sight, no condition. -/
namespace Go.Proofs.YthnckicnnhkkaaaGreat
open Go.RowKit Go.Shelf

def otherS (s : Spec) (d : Die) : Die := if dA s = d then dB s else dA s
def EndS (s : Spec) (d : Die) : Prop := dA s = d ∨ dB s = d
/-- A walk that never goes back over the link that it came by. -/
inductive Walk (t : List Spec) : Die → List Spec → Die → Prop
  | nil (a : Die) : Walk t a [] a
  | cons {a b : Die} {s : Spec} {p : List Spec} : s ∈ t → EndS s a → Walk t (otherS s a) p b → (∀ s', p.head? = some s' → s'.id ≠ s.id) → Walk t a (s :: p) b
section
variable {t t' : List Spec} {a b c u v : Die} {s : Spec} {p q : List Spec}
theorem Walk.mono (h : Walk t a p b) (hs : ∀ e ∈ p, e ∈ t') : Walk t' a p b := by
  induction h with
  | nil => exact .nil _
  | cons _ he _ hn ih => exact .cons (hs _ (by simp)) he (ih fun e hm => hs e (by simp [hm])) hn
end

/-! ### The forest of a list -/
end Go.Proofs.YthnckicnnhkkaaaGreat
