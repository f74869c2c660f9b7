/- The components of a corpus list and of its die graph, plain. No program in sight, no condition. -/
import Derived.Test.YtikfffojeakjoaaGreatDoorJoinP
import Derived.Test.YtikfffojeakjoaaGreatDoorIgn
import Derived.Test.YtikfffojeakjoaaGreatDoorCovG
namespace Go.Proofs.YtikfffojeakjoaaGreatDoor
open Go.RowKit Go.Shelf

def edgesS (l : List Spec) : List (Die × Die) := l.map fun s => (dA s, dB s)
theorem edges_of {l : List Spec} (h : ofE l = 0) (e : Die × Die) : e ∈ edgesG (ofG l) ↔ e ∈ edgesS l := by
  have hd := links_nodup (checkE_zero (ofE_zero h).1).2.2
  rw [of_made h, edgesG, edgesS, List.mem_map, List.mem_map]
  constructor
  · rintro ⟨x, hx, rfl⟩
    obtain ⟨s, hs, rfl⟩ := List.mem_map.1 ((inss_mem hd x).1 hx)
    exact ⟨s, hs, rfl⟩
  · rintro ⟨s, hs, rfl⟩
    exact ⟨linkOf s, (inss_mem hd _).2 (List.mem_map.2 ⟨s, hs, rfl⟩), rfl⟩
theorem join_of {l : List Spec} (h : ofE l = 0) (a b : Die) : joinB (edgesG (ofG l)) a b = joinB (edgesS l) a b := by
  rw [Bool.eq_iff_iff, joinB_iff, joinB_iff]
  exact joinE_congr (edges_of h)
theorem withs_len_mono {l k : List Int} (h : ∀ n ∈ l, n ∈ k) : (withs l).length ≤ (withs k).length :=
  nodup_len ((withs_asc l).imp fun h e => by omega) fun x hx => (withs_mem k x).2 (h x ((withs_mem l x).1 hx))
theorem check_sub {l k : List Spec} (h : checkE l = 0) (hs : k.Sublist l) : checkE k = 0 := by
  obtain ⟨h1, h2, h3⟩ := checkE_zero h
  refine checkE_ok (by have := hs.length_le; omega) ?_ (h3.sublist (hs.map Spec.id))
  rw [List.all_eq_true] at h2 ⊢
  exact fun x hx => h2 x (hs.subset hx)
/-- A list of some of the specimens has a die graph if the whole list has one. -/
theorem of_sub {l k : List Spec} (h : ofE l = 0) (hs : k.Sublist l) : ofE k = 0 := by
  obtain ⟨h1, h2⟩ := ofE_zero h
  have hd := links_nodup (checkE_zero h1).2.2
  have hc := check_sub h1 hs
  rw [ofE, if_pos hc, if_neg]
  intro hf
  have g2 : ¬ 32 < (withs ((l.map linkOf).map Link.obv)).length ∧ ¬ 32 < (withs ((l.map linkOf).map Link.rev)).length := by
    unfold full madeG at h2
    rw [Bool.or_eq_false_iff, decide_eq_false_iff_not, decide_eq_false_iff_not] at h2
    exact h2
  have gf : 32 < (withs ((k.map linkOf).map Link.obv)).length ∨ 32 < (withs ((k.map linkOf).map Link.rev)).length := by
    unfold full madeG at hf
    rw [Bool.or_eq_true, decide_eq_true_eq, decide_eq_true_eq] at hf
    exact hf
  have m1 := withs_len_mono (l := (k.map linkOf).map Link.obv) (k := (l.map linkOf).map Link.obv) fun n hn => ((hs.map linkOf).map Link.obv).subset hn
  have m2 := withs_len_mono (l := (k.map linkOf).map Link.rev) (k := (l.map linkOf).map Link.rev) fun n hn => ((hs.map linkOf).map Link.rev).subset hn
  omega
theorem of_take {l : List Spec} (h : ofE l = 0) (k : Nat) : ofE (l.take k) = 0 := of_sub h (List.take_sublist k l)
theorem dies_end {g : Graph} (hg : graphB g = true) (d : Die) : d ∈ diesG g ↔ EndE (edgesG g) d := by
  have hok := (graphB_iff g).1 hg
  have hE := graphB_ends hg
  rw [diesG_mem hg]
  obtain ⟨s, n⟩ := d
  simp only [dieIn, Bool.or_eq_true, Bool.and_eq_true, beq_iff_eq, hasB_iff]
  constructor
  · rintro (⟨rfl, hn⟩ | ⟨rfl, hn⟩)
    · have := List.all_eq_true.1 hok.uo n hn
      rw [hasB_iff] at this
      obtain ⟨x, hx, rfl⟩ := List.mem_map.1 this
      exact ⟨_, List.mem_map.2 ⟨x, hx, rfl⟩, .inl rfl⟩
    · have := List.all_eq_true.1 hok.ur n hn
      rw [hasB_iff] at this
      obtain ⟨x, hx, rfl⟩ := List.mem_map.1 this
      exact ⟨_, List.mem_map.2 ⟨x, hx, rfl⟩, .inr rfl⟩
  · rintro ⟨e, he, h⟩
    obtain ⟨x, hx, rfl⟩ := List.mem_map.1 he
    rcases h with h | h
    · simp only [Die.mk.injEq] at h
      obtain ⟨rfl, rfl⟩ := h
      exact .inl ⟨rfl, hE.1 x hx⟩
    · simp only [Die.mk.injEq] at h
      obtain ⟨rfl, rfl⟩ := h
      exact .inr ⟨rfl, hE.2 x hx⟩
theorem dies_nodup {g : Graph} (hg : graphB g = true) : (diesG g).Nodup := by
  have hok := (graphB_iff g).1 hg
  have h1 : g.obv.Nodup := (ascB_asc hok.ao).imp fun h e => by omega
  have h2 : g.rev.Nodup := (ascB_asc hok.ar).imp fun h e => by omega
  rw [diesG, if_pos hg, List.nodup_append]
  refine ⟨nodup_map _ h1 fun x _ y _ e => by simpa using e, nodup_map _ h2 fun x _ y _ e => by simpa using e, fun a ha b hb e => ?_⟩
  obtain ⟨x, _, rfl⟩ := List.mem_map.1 ha
  obtain ⟨y, _, rfl⟩ := List.mem_map.1 hb
  simp at e
/-- The number of components. -/
noncomputable def compN (g : Graph) : Nat := firstsA (joinB (edgesG g)) [] (diesG g)
/-- The growth of a list. -/
def growL (l : List Spec) : Gr := l.foldl (fun g s => enterG s g) beginG
theorem growL_snoc (l : List Spec) (s : Spec) : growL (l ++ [s]) = enterG s (growL l) := by rw [growL, List.foldl_append]; rfl
theorem edgesS_snoc (l : List Spec) (s : Spec) : edgesS (l ++ [s]) = edgesS l ++ [(dA s, dB s)] := by rw [edgesS, List.map_append]; rfl
theorem growL_take {l : List Spec} {k : Nat} {s : Spec} (h : l[k]? = some s) : growL (l.take (k + 1)) = enterG s (growL (l.take k)) := by rw [take_snoc' h, growL_snoc]
theorem ninv_list (l : List Spec) : NInv (edgesS l) (growL l) := by
  have : ∀ k, k ≤ l.length → NInv (edgesS (l.take k)) (growL (l.take k)) := by
    intro k
    induction k with
    | zero => intro _; exact ninv_begin
    | succ k ih =>
      intro hk
      obtain ⟨s, hs⟩ := get_of_lt (show k < l.length by omega)
      rw [take_snoc' hs, growL_snoc, edgesS_snoc]
      exact ((ih (by omega)).enter s).1
  have := this l.length (Nat.le_refl _)
  rwa [List.take_length] at this
/-- Two dies that a growth knows are joined just when they have one name. -/
theorem NInv.joined {E : List (Die × Die)} {g : Gr} (h : NInv E g) (a b : Die) : joinB E a b = ((lookM g.m a).isSome && (lookM g.m b).isSome && ((lookM g.m a).getD 0 == (lookM g.m b).getD 0)) := by
  rw [Bool.eq_iff_iff, joinB_iff, Bool.and_eq_true, Bool.and_eq_true, h.keys, h.keys, beq_iff_eq]
  constructor
  · rintro ⟨h1, h2, h3⟩
    obtain ⟨n, hn⟩ := Option.isSome_iff_exists.1 ((h.keys a).2 h1)
    obtain ⟨k, hk⟩ := Option.isSome_iff_exists.1 ((h.keys b).2 h2)
    refine ⟨⟨h1, h2⟩, ?_⟩
    rw [hn, hk]
    exact (h.con a b n k hn hk).2 h3
  · rintro ⟨⟨h1, h2⟩, h3⟩
    obtain ⟨n, hn⟩ := Option.isSome_iff_exists.1 ((h.keys a).2 h1)
    obtain ⟨k, hk⟩ := Option.isSome_iff_exists.1 ((h.keys b).2 h2)
    rw [hn, hk] at h3
    exact ⟨h1, h2, (h.con a b n k hn hk).1 h3⟩
theorem count_comp {l : List Spec} (h : ofE l = 0) : (growL l).count = compN (ofG l) := by
  have hI := ninv_list l
  have hg := of_valid h
  have hmem : ∀ d, d ∈ diesG (ofG l) ↔ EndE (edgesS l) d := fun d => by
    rw [dies_end hg]
    constructor
    · rintro ⟨e, he, h1⟩; exact ⟨e, (edges_of h e).1 he, h1⟩
    · rintro ⟨e, he, h1⟩; exact ⟨e, (edges_of h e).2 he, h1⟩
  obtain ⟨f, hf⟩ : ∃ f : Die → Int, f = fun d => (lookM (growL l).m d).getD 0 := ⟨_, rfl⟩
  have hfr : ∀ d ∈ diesG (ofG l), ∃ n, lookM (growL l).m d = some n ∧ f d = n := fun d hd => by
    obtain ⟨n, hn⟩ := Option.isSome_iff_exists.1 ((hI.keys d).2 ((hmem d).1 hd))
    exact ⟨n, hn, by rw [hf]; simp [hn]⟩
  have h1 := firsts_values f (growL l).named (diesG (ofG l)) (fun d hd => by
    obtain ⟨n, hn, e⟩ := hfr d hd
    rw [e]; exact hI.rng d n hn)
  rw [compN, hI.cnt]
  have h2 : dcount (growL l).named ((growL l).m.map Prod.snd) = dcount (growL l).named ((diesG (ofG l)).map f) := dcount_congr fun x => by
    simp only [List.mem_map]
    constructor
    · rintro ⟨p, hp, rfl⟩
      have hl := (lookM_mem hI.nod).2 hp
      have hd := (hmem p.1).2 ((hI.keys p.1).1 (by rw [hl]; rfl))
      exact ⟨p.1, hd, by rw [hf]; simp [hl]⟩
    · rintro ⟨d, hd, rfl⟩
      obtain ⟨n, hn, e⟩ := hfr d hd
      exact ⟨(d, n), lookM_some hn, by rw [e]⟩
  rw [h2, ← h1]
  refine firstsA_congr _ _ fun a ha b hb => ?_
  rw [List.nil_append] at ha hb
  obtain ⟨n, hn, en⟩ := hfr a ha
  obtain ⟨k, hk, ek⟩ := hfr b hb
  rw [join_of h, hI.joined, hn, hk, en, ek]
  rfl
end Go.Proofs.YtikfffojeakjoaaGreatDoor
/- Walks in a forest, plain: there is one at most, and one between joined dies. No program in sight, no condition. -/
namespace Go.Proofs.YtikfffojeakjoaaGreatDoor
open Go.RowKit Go.Shelf

def otherS (s : Spec) (d : Die) : Die := if dA s = d then dB s else dA s
def EndS (s : Spec) (d : Die) : Prop := dA s = d ∨ dB s = d
theorem other_end {s : Spec} {d : Die} (_ : EndS s d) : EndS s (otherS s d) := by
  unfold otherS EndS
  split
  · exact .inr rfl
  · exact .inl rfl
theorem other_other {s : Spec} {d : Die} (h : EndS s d) : otherS s (otherS s d) = d := by
  unfold otherS
  by_cases e : dA s = d
  · rw [if_pos e, if_neg (dA_ne s s)]; exact e
  · rw [if_neg e, if_pos rfl]; exact h.resolve_left e
theorem con_other {t : List Spec} {s : Spec} {d : Die} (hs : s ∈ t) (h : EndS s d) : Con (edgesS t) d (otherS s d) := by
  have he : (dA s, dB s) ∈ edgesS t := List.mem_map.2 ⟨s, hs, rfl⟩
  unfold otherS
  by_cases e : dA s = d
  · rw [if_pos e, ← e]; exact con_edge he
  · rw [if_neg e, ← h.resolve_left e]; exact (con_edge he).symm
/-- A walk that never goes back over the link that it came by. -/
inductive Walk (t : List Spec) : Die → List Spec → Die → Prop
  | nil (a : Die) : Walk t a [] a
  | cons {a b : Die} {s : Spec} {p : List Spec} : s ∈ t → EndS s a → Walk t (otherS s a) p b → (∀ s', p.head? = some s' → s'.id ≠ s.id) → Walk t a (s :: p) b
section
variable {t t' : List Spec} {a b c u v : Die} {s : Spec} {p q : List Spec}
theorem Walk.mem (h : Walk t a p b) : ∀ e ∈ p, e ∈ t := by
  induction h with
  | nil => intro e he; cases he
  | cons hs _ _ _ ih =>
    intro e he
    rcases List.mem_cons.1 he with rfl | he
    · exact hs
    · exact ih e he
theorem Walk.con (h : Walk t a p b) : Con (edgesS t) a b := by
  induction h with
  | nil => exact .refl _
  | cons hs he _ _ ih => exact (con_other hs he).trans ih
theorem Walk.con_mem (h : Walk t a p b) : ∀ e ∈ p, Con (edgesS t) a (dA e) := by
  induction h with
  | nil => intro e he; cases he
  | @cons a b s p hs he _ _ ih =>
    intro e hm
    rcases List.mem_cons.1 hm with rfl | hm
    · rcases he with h | h
      · rw [h]; exact .refl _
      · rw [← h]; exact (con_edge (List.mem_map.2 ⟨_, hs, rfl⟩)).symm
    · exact (con_other hs he).trans (ih e hm)
theorem Walk.mono (h : Walk t a p b) (hs : ∀ e ∈ p, e ∈ t') : Walk t' a p b := by
  induction h with
  | nil => exact .nil _
  | cons _ he _ hn ih => exact .cons (hs _ (by simp)) he (ih fun e hm => hs e (by simp [hm])) hn
theorem Walk.append (h : Walk t a p b) (k : Walk t b q c) (hn : ∀ x y, p.getLast? = some x → q.head? = some y → y.id ≠ x.id) : Walk t a (p ++ q) c := by
  induction h with
  | nil => exact k
  | @cons a b s p hs he hw hh ih =>
    rw [List.cons_append]
    refine .cons hs he (ih k fun x y hx hy => hn x y ?_ hy) fun s' hs' => ?_
    · cases p with
      | nil => simp at hx
      | cons z p => rw [List.getLast?_cons_cons]; exact hx
    · cases p with
      | nil =>
        rw [List.nil_append] at hs'
        exact hn s s' (by simp) hs'
      | cons z p => exact hh s' hs'
/-- A walk in the links and one more: up to the first time that it takes that one. -/
theorem Walk.split (hid : ∀ e ∈ t, e.id ≠ s.id) (h : Walk (t ++ [s]) a p b) (hm : s ∈ p) :
    ∃ p1 p2 u, p = p1 ++ s :: p2 ∧ Walk t a p1 u ∧ EndS s u ∧ Walk (t ++ [s]) (otherS s u) p2 b ∧ ∀ s', p2.head? = some s' → s'.id ≠ s.id := by
  induction h with
  | nil => cases hm
  | @cons a b x p hs he hw hh ih =>
    by_cases e : x = s
    · subst e
      exact ⟨[], p, a, rfl, .nil _, he, hw, hh⟩
    · have hm' : s ∈ p := (List.mem_cons.1 hm).resolve_left fun e' => e e'.symm
      have hxt : x ∈ t := by
        rcases List.mem_append.1 hs with h | h
        · exact h
        · exact absurd (List.mem_singleton.1 h) e
      obtain ⟨p1, p2, u, rfl, h1, h2, h3, h4⟩ := ih hm'
      refine ⟨x :: p1, p2, u, rfl, .cons hxt he h1 fun s' hs' => ?_, h2, h3, h4⟩
      cases p1 with
      | nil => cases hs'
      | cons z p1 => exact hh s' hs'
/-- What holds of the walks in a forest. -/
structure Uni (t : List Spec) : Prop where
  uni : ∀ {a b : Die} {p q : List Spec}, Walk t a p b → Walk t a q b → p = q
  nod : ∀ {a b : Die} {p : List Spec}, Walk t a p b → p.Nodup
theorem uni_nil : Uni [] where
  uni h k := by
    cases h with
    | nil => cases k with
      | nil => rfl
      | cons hs => cases hs
    | cons hs => cases hs
  nod h := by
    cases h with
    | nil => exact List.nodup_nil
    | cons hs => cases hs
theorem Uni.snoc (hU : Uni t) (hid : ∀ e ∈ t, e.id ≠ s.id) (hn : ¬ Con (edgesS t) (dA s) (dB s)) : Uni (t ++ [s]) := by
  have hnot : ∀ {u v : Die}, EndS s u → EndS s v → u ≠ v → ¬ Con (edgesS t) u v := fun hu hv hne hc => by
    rcases hu with rfl | rfl <;> rcases hv with rfl | rfl
    · exact hne rfl
    · exact hn hc
    · exact hn hc.symm
    · exact hne rfl
  have hst : s ∉ t := fun h => hid s h rfl
  have hone : ∀ {v b : Die} {p : List Spec}, EndS s v → Walk (t ++ [s]) v p b → (∀ s', p.head? = some s' → s'.id ≠ s.id) → Walk t v p b := fun {v b p} hv hw hh => by
    by_cases hm : s ∈ p
    · exfalso
      obtain ⟨p1, p2, u, rfl, h1, h2, _, _⟩ := hw.split hid hm
      by_cases e : v = u
      · subst e
        have := hU.uni h1 (.nil _)
        subst this
        exact hh s rfl rfl
      · exact hnot hv h2 e h1.con
    · exact hw.mono fun e he => by
        rcases List.mem_append.1 (hw.mem e he) with h | h
        · exact h
        · rw [List.mem_singleton] at h; subst h; exact absurd he hm
  have hcut : ∀ {a b : Die} {p : List Spec}, Walk (t ++ [s]) a p b → Walk t a p b ∨ ∃ p1 p2 u, p = p1 ++ s :: p2 ∧ EndS s u ∧ Walk t a p1 u ∧ Walk t (otherS s u) p2 b := fun {a b p} hw => by
    by_cases hm : s ∈ p
    · obtain ⟨p1, p2, u, rfl, h1, h2, h3, h4⟩ := hw.split hid hm
      exact .inr ⟨p1, p2, u, rfl, h2, h1, hone (other_end h2) h3 h4⟩
    · exact .inl (hw.mono fun e he => by
        rcases List.mem_append.1 (hw.mem e he) with h | h
        · exact h
        · rw [List.mem_singleton] at h; subst h; exact absurd he hm)
  have hoth : ∀ {u : Die}, EndS s u → u ≠ otherS s u := fun {u} hu e => by
    unfold otherS at e
    by_cases h : dA s = u
    · rw [if_pos h] at e; exact dA_ne s s (h.trans e)
    · rw [if_neg h] at e; exact h e.symm
  constructor
  · intro a b p q hp hq
    rcases hcut hp with h1 | ⟨p1, p2, u, rfl, hu, h1, h2⟩ <;> rcases hcut hq with k1 | ⟨q1, q2, v, rfl, hv, k1, k2⟩
    · exact hU.uni h1 k1
    · exact absurd (k1.con.symm.trans (h1.con.trans k2.con.symm)) (hnot hv (other_end hv) (hoth hv))
    · exact absurd (h1.con.symm.trans (k1.con.trans h2.con.symm)) (hnot hu (other_end hu) (hoth hu))
    · by_cases e : u = v
      · subst e
        rw [hU.uni h1 k1, hU.uni h2 k2]
      · exact absurd (h1.con.symm.trans k1.con) (hnot hu hv e)
  · intro a b p hp
    rcases hcut hp with h1 | ⟨p1, p2, u, rfl, hu, h1, h2⟩
    · exact hU.nod h1
    · rw [List.nodup_append, List.nodup_cons]
      refine ⟨hU.nod h1, ⟨fun h => hst (h2.mem s h), hU.nod h2⟩, fun x hx y hy e => ?_⟩
      subst e
      rcases List.mem_cons.1 hy with rfl | hy
      · exact hst (h1.mem _ hx)
      · exact absurd (h1.con.symm.trans ((h1.con_mem x hx).trans (h2.con_mem x hy).symm)) (hnot hu (other_end hu) (hoth hu))
/-- Joined dies have a walk. -/
theorem walk_exists : ∀ (k : Nat) {a b : Die}, (t.map Spec.id).Nodup → k ≤ t.length → Con (edgesS (t.take k)) a b → ∃ p, Walk (t.take k) a p b
  | 0, a, b, _, _, h => by
    rw [List.take_zero] at h ⊢
    have : a = b := by
      induction h with
      | refl => rfl
      | fwd _ he _ => cases he
      | bwd _ he _ => cases he
    subst this
    exact ⟨[], .nil _⟩
  | k + 1, a, b, hd, hk, h => by
    obtain ⟨s, hs⟩ := get_of_lt (show k < t.length by omega)
    have hid : ∀ e ∈ t.take k, e.id ≠ s.id := fun e he e' => by
      have h1 := hd
      rw [← List.take_append_drop k t, List.map_append, List.nodup_append] at h1
      refine h1.2.2 e.id (List.mem_map_of_mem (f := Spec.id) he) s.id ?_ e'
      obtain ⟨hlt, rfl⟩ := List.getElem?_eq_some_iff.1 hs
      exact List.mem_map_of_mem (f := Spec.id) (show t[k] ∈ t.drop k from by rw [List.drop_eq_getElem_cons hlt]; exact List.mem_cons_self)
    rw [take_snoc' hs] at h ⊢
    rw [edgesS_snoc, con_snoc] at h
    have up : ∀ {a b : Die} {p : List Spec}, Walk (t.take k) a p b → Walk (t.take k ++ [s]) a p b := fun hw => hw.mono fun e he => List.mem_append_left _ (hw.mem e he)
    have join : ∀ {u a b : Die} {p q : List Spec}, EndS s u → Walk (t.take k) a p u → Walk (t.take k) (otherS s u) q b → ∃ p, Walk (t.take k ++ [s]) a p b := fun {u a b p q} hu h1 h2 =>
      ⟨p ++ s :: q, (up h1).append (.cons (List.mem_append_right _ (by simp)) hu (up h2) fun s' hs' => hid s' (h2.mem s' (List.mem_of_mem_head? hs'))) fun x y hx hy => by
        simp only [List.head?_cons, Option.some.injEq] at hy
        subst hy
        exact fun e => hid x (h1.mem x (List.mem_of_getLast? hx)) e.symm⟩
    rcases h with h | ⟨h1, h2⟩ | ⟨h1, h2⟩
    · obtain ⟨p, hp⟩ := walk_exists k hd (by omega) h
      exact ⟨p, up hp⟩
    · obtain ⟨p, hp⟩ := walk_exists k hd (by omega) h1
      obtain ⟨q, hq⟩ := walk_exists k hd (by omega) h2
      exact join (u := dA s) (.inl rfl) hp (by rw [otherS, if_pos rfl]; exact hq)
    · obtain ⟨p, hp⟩ := walk_exists k hd (by omega) h1
      obtain ⟨q, hq⟩ := walk_exists k hd (by omega) h2
      exact join (u := dB s) (.inr rfl) hp (by rw [otherS, if_neg (dA_ne s s)]; exact hq)
end

/-! ### The forest of a list -/
noncomputable def forA : List Spec → List Spec → List Spec
  | _, [] => []
  | pre, s :: r => (if joinB (edgesS pre) (dA s) (dB s) = true then [] else [s]) ++ forA (pre ++ [s]) r
noncomputable def forL (l : List Spec) : List Spec := forA [] l
theorem forA_snoc : ∀ (r pre : List Spec) (s : Spec), forA pre (r ++ [s]) = forA pre r ++ (if joinB (edgesS (pre ++ r)) (dA s) (dB s) = true then [] else [s])
  | [], pre, s => by simp [forA]
  | x :: r, pre, s => by
    rw [List.cons_append, forA, forA, forA_snoc r (pre ++ [x]) s, List.append_assoc, List.append_assoc]
    rfl
theorem forL_snoc (l : List Spec) (s : Spec) : forL (l ++ [s]) = forL l ++ (if joinB (edgesS l) (dA s) (dB s) = true then [] else [s]) := by
  rw [forL, forA_snoc]; rfl
theorem con_join {E : List (Die × Die)} {s : Spec} : joinB E (dA s) (dB s) = true ↔ Con E (dA s) (dB s) := by
  rw [joinB_iff]
  exact ⟨fun h => h.2.2, fun h => ⟨(con_end h (dA_ne s s)).1, (con_end h (dA_ne s s)).2, h⟩⟩
/-- The forest joins what the list joins, and is one. -/
theorem forL_facts (l : List Spec) : (forL l).Sublist l ∧ (∀ a b, Con (edgesS (forL l)) a b ↔ Con (edgesS l) a b) ∧ ((l.map Spec.id).Nodup → Uni (forL l)) := by
  have : ∀ k, k ≤ l.length → (forL (l.take k)).Sublist (l.take k) ∧ (∀ a b, Con (edgesS (forL (l.take k))) a b ↔ Con (edgesS (l.take k)) a b) ∧ ((l.map Spec.id).Nodup → Uni (forL (l.take k))) := by
    intro k
    induction k with
    | zero => intro _; exact ⟨List.Sublist.refl _, fun _ _ => Iff.rfl, fun _ => uni_nil⟩
    | succ k ih =>
      intro hk
      obtain ⟨s, hs⟩ := get_of_lt (show k < l.length by omega)
      obtain ⟨h1, h2, h3⟩ := ih (by omega)
      rw [take_snoc' hs, forL_snoc]
      by_cases hj : joinB (edgesS (l.take k)) (dA s) (dB s) = true
      · rw [if_pos hj, List.append_nil]
        refine ⟨h1.trans (List.sublist_append_left _ _), fun a b => ?_, h3⟩
        have hc := con_join.1 hj
        rw [h2, edgesS_snoc, con_snoc]
        constructor
        · exact .inl
        · rintro (h | ⟨h, k⟩ | ⟨h, k⟩)
          · exact h
          · exact h.trans (hc.trans k)
          · exact h.trans (hc.symm.trans k)
      · rw [if_neg hj]
        have hc : ¬ Con (edgesS (l.take k)) (dA s) (dB s) := fun h => hj (con_join.2 h)
        refine ⟨h1.append (List.Sublist.refl _), fun a b => ?_, fun hd => (h3 hd).snoc (fun e he e' => ?_) fun h => hc ((h2 _ _).1 h)⟩
        · rw [edgesS_snoc, edgesS_snoc, con_snoc, con_snoc, h2, h2, h2, h2, h2]
        · have h4 := h1.subset he
          have h5 := hd
          rw [← List.take_append_drop k l, List.map_append, List.nodup_append] at h5
          refine h5.2.2 e.id (List.mem_map_of_mem (f := Spec.id) h4) s.id ?_ e'
          obtain ⟨hlt, rfl⟩ := List.getElem?_eq_some_iff.1 hs
          exact List.mem_map_of_mem (f := Spec.id) (show l[k] ∈ l.drop k from by rw [List.drop_eq_getElem_cons hlt]; exact List.mem_cons_self)
  have := this l.length (Nat.le_refl _)
  rwa [List.take_length] at this
end Go.Proofs.YtikfffojeakjoaaGreatDoor
