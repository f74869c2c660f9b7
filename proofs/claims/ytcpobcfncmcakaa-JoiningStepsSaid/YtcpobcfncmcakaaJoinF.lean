/- Walks in a forest, plain: there is one at most, and one between joined dies. No program in sight, no condition. -/
import Derived.Test.YtcpobcfncmcakaaJoinQ
namespace Go.Proofs.Ytcpobcfncmcakaa
open Go.RowKit Go.Shelf

def otherS (s : Spec) (d : Die) : Die := if dA s = d then dB s else dA s
def EndS (s : Spec) (d : Die) : Prop := dA s = d ∨ dB s = d
theorem other_end {s : Spec} {d : Die} (_ : EndS s d) : EndS s (otherS s d) := by
  unfold otherS EndS
  split
  · exact .inr rfl
  · exact .inl rfl
theorem other_other {s : Spec} {d : Die} (h : EndS s d) : otherS s (otherS s d) = d := by
  unfold otherS
  by_cases e : dA s = d
  · rw [if_pos e, if_neg (dA_ne s s)]; exact e
  · rw [if_neg e, if_pos rfl]; exact h.resolve_left e
theorem con_other {t : List Spec} {s : Spec} {d : Die} (hs : s ∈ t) (h : EndS s d) : Con (edgesS t) d (otherS s d) := by
  have he : (dA s, dB s) ∈ edgesS t := List.mem_map.2 ⟨s, hs, rfl⟩
  unfold otherS
  by_cases e : dA s = d
  · rw [if_pos e, ← e]; exact con_edge he
  · rw [if_neg e, ← h.resolve_left e]; exact (con_edge he).symm
/-- A walk that never goes back over the link that it came by. -/
inductive Walk (t : List Spec) : Die → List Spec → Die → Prop
  | nil (a : Die) : Walk t a [] a
  | cons {a b : Die} {s : Spec} {p : List Spec} : s ∈ t → EndS s a → Walk t (otherS s a) p b → (∀ s', p.head? = some s' → s'.id ≠ s.id) → Walk t a (s :: p) b
section
variable {t t' : List Spec} {a b c u v : Die} {s : Spec} {p q : List Spec}
theorem Walk.mem (h : Walk t a p b) : ∀ e ∈ p, e ∈ t := by
  induction h with
  | nil => intro e he; cases he
  | cons hs _ _ _ ih =>
    intro e he
    rcases List.mem_cons.1 he with rfl | he
    · exact hs
    · exact ih e he
theorem Walk.con (h : Walk t a p b) : Con (edgesS t) a b := by
  induction h with
  | nil => exact .refl _
  | cons hs he _ _ ih => exact (con_other hs he).trans ih
theorem Walk.con_mem (h : Walk t a p b) : ∀ e ∈ p, Con (edgesS t) a (dA e) := by
  induction h with
  | nil => intro e he; cases he
  | @cons a b s p hs he _ _ ih =>
    intro e hm
    rcases List.mem_cons.1 hm with rfl | hm
    · rcases he with h | h
      · rw [h]; exact .refl _
      · rw [← h]; exact (con_edge (List.mem_map.2 ⟨_, hs, rfl⟩)).symm
    · exact (con_other hs he).trans (ih e hm)
theorem Walk.mono (h : Walk t a p b) (hs : ∀ e ∈ p, e ∈ t') : Walk t' a p b := by
  induction h with
  | nil => exact .nil _
  | cons _ he _ hn ih => exact .cons (hs _ (by simp)) he (ih fun e hm => hs e (by simp [hm])) hn
theorem Walk.append (h : Walk t a p b) (k : Walk t b q c) (hn : ∀ x y, p.getLast? = some x → q.head? = some y → y.id ≠ x.id) : Walk t a (p ++ q) c := by
  induction h with
  | nil => exact k
  | @cons a b s p hs he hw hh ih =>
    rw [List.cons_append]
    refine .cons hs he (ih k fun x y hx hy => hn x y ?_ hy) fun s' hs' => ?_
    · cases p with
      | nil => simp at hx
      | cons z p => rw [List.getLast?_cons_cons]; exact hx
    · cases p with
      | nil =>
        rw [List.nil_append] at hs'
        exact hn s s' (by simp) hs'
      | cons z p => exact hh s' hs'
/-- A walk in the links and one more: up to the first time that it takes that one. -/
theorem Walk.split (hid : ∀ e ∈ t, e.id ≠ s.id) (h : Walk (t ++ [s]) a p b) (hm : s ∈ p) :
    ∃ p1 p2 u, p = p1 ++ s :: p2 ∧ Walk t a p1 u ∧ EndS s u ∧ Walk (t ++ [s]) (otherS s u) p2 b ∧ ∀ s', p2.head? = some s' → s'.id ≠ s.id := by
  induction h with
  | nil => cases hm
  | @cons a b x p hs he hw hh ih =>
    by_cases e : x = s
    · subst e
      exact ⟨[], p, a, rfl, .nil _, he, hw, hh⟩
    · have hm' : s ∈ p := (List.mem_cons.1 hm).resolve_left fun e' => e e'.symm
      have hxt : x ∈ t := by
        rcases List.mem_append.1 hs with h | h
        · exact h
        · exact absurd (List.mem_singleton.1 h) e
      obtain ⟨p1, p2, u, rfl, h1, h2, h3, h4⟩ := ih hm'
      refine ⟨x :: p1, p2, u, rfl, .cons hxt he h1 fun s' hs' => ?_, h2, h3, h4⟩
      cases p1 with
      | nil => cases hs'
      | cons z p1 => exact hh s' hs'
/-- What holds of the walks in a forest. -/
structure Uni (t : List Spec) : Prop where
  uni : ∀ {a b : Die} {p q : List Spec}, Walk t a p b → Walk t a q b → p = q
  nod : ∀ {a b : Die} {p : List Spec}, Walk t a p b → p.Nodup
theorem uni_nil : Uni [] where
  uni h k := by
    cases h with
    | nil => cases k with
      | nil => rfl
      | cons hs => cases hs
    | cons hs => cases hs
  nod h := by
    cases h with
    | nil => exact List.nodup_nil
    | cons hs => cases hs
theorem Uni.snoc (hU : Uni t) (hid : ∀ e ∈ t, e.id ≠ s.id) (hn : ¬ Con (edgesS t) (dA s) (dB s)) : Uni (t ++ [s]) := by
  have hnot : ∀ {u v : Die}, EndS s u → EndS s v → u ≠ v → ¬ Con (edgesS t) u v := fun hu hv hne hc => by
    rcases hu with rfl | rfl <;> rcases hv with rfl | rfl
    · exact hne rfl
    · exact hn hc
    · exact hn hc.symm
    · exact hne rfl
  have hst : s ∉ t := fun h => hid s h rfl
  have hone : ∀ {v b : Die} {p : List Spec}, EndS s v → Walk (t ++ [s]) v p b → (∀ s', p.head? = some s' → s'.id ≠ s.id) → Walk t v p b := fun {v b p} hv hw hh => by
    by_cases hm : s ∈ p
    · exfalso
      obtain ⟨p1, p2, u, rfl, h1, h2, _, _⟩ := hw.split hid hm
      by_cases e : v = u
      · subst e
        have := hU.uni h1 (.nil _)
        subst this
        exact hh s rfl rfl
      · exact hnot hv h2 e h1.con
    · exact hw.mono fun e he => by
        rcases List.mem_append.1 (hw.mem e he) with h | h
        · exact h
        · rw [List.mem_singleton] at h; subst h; exact absurd he hm
  have hcut : ∀ {a b : Die} {p : List Spec}, Walk (t ++ [s]) a p b → Walk t a p b ∨ ∃ p1 p2 u, p = p1 ++ s :: p2 ∧ EndS s u ∧ Walk t a p1 u ∧ Walk t (otherS s u) p2 b := fun {a b p} hw => by
    by_cases hm : s ∈ p
    · obtain ⟨p1, p2, u, rfl, h1, h2, h3, h4⟩ := hw.split hid hm
      exact .inr ⟨p1, p2, u, rfl, h2, h1, hone (other_end h2) h3 h4⟩
    · exact .inl (hw.mono fun e he => by
        rcases List.mem_append.1 (hw.mem e he) with h | h
        · exact h
        · rw [List.mem_singleton] at h; subst h; exact absurd he hm)
  have hoth : ∀ {u : Die}, EndS s u → u ≠ otherS s u := fun {u} hu e => by
    unfold otherS at e
    by_cases h : dA s = u
    · rw [if_pos h] at e; exact dA_ne s s (h.trans e)
    · rw [if_neg h] at e; exact h e.symm
  constructor
  · intro a b p q hp hq
    rcases hcut hp with h1 | ⟨p1, p2, u, rfl, hu, h1, h2⟩ <;> rcases hcut hq with k1 | ⟨q1, q2, v, rfl, hv, k1, k2⟩
    · exact hU.uni h1 k1
    · exact absurd (k1.con.symm.trans (h1.con.trans k2.con.symm)) (hnot hv (other_end hv) (hoth hv))
    · exact absurd (h1.con.symm.trans (k1.con.trans h2.con.symm)) (hnot hu (other_end hu) (hoth hu))
    · by_cases e : u = v
      · subst e
        rw [hU.uni h1 k1, hU.uni h2 k2]
      · exact absurd (h1.con.symm.trans k1.con) (hnot hu hv e)
  · intro a b p hp
    rcases hcut hp with h1 | ⟨p1, p2, u, rfl, hu, h1, h2⟩
    · exact hU.nod h1
    · rw [List.nodup_append, List.nodup_cons]
      refine ⟨hU.nod h1, ⟨fun h => hst (h2.mem s h), hU.nod h2⟩, fun x hx y hy e => ?_⟩
      subst e
      rcases List.mem_cons.1 hy with rfl | hy
      · exact hst (h1.mem _ hx)
      · exact absurd (h1.con.symm.trans ((h1.con_mem x hx).trans (h2.con_mem x hy).symm)) (hnot hu (other_end hu) (hoth hu))
/-- Joined dies have a walk. -/
theorem walk_exists : ∀ (k : Nat) {a b : Die}, (t.map Spec.id).Nodup → k ≤ t.length → Con (edgesS (t.take k)) a b → ∃ p, Walk (t.take k) a p b
  | 0, a, b, _, _, h => by
    rw [List.take_zero] at h ⊢
    have : a = b := by
      induction h with
      | refl => rfl
      | fwd _ he _ => cases he
      | bwd _ he _ => cases he
    subst this
    exact ⟨[], .nil _⟩
  | k + 1, a, b, hd, hk, h => by
    obtain ⟨s, hs⟩ := get_of_lt (show k < t.length by omega)
    have hid : ∀ e ∈ t.take k, e.id ≠ s.id := fun e he e' => by
      have h1 := hd
      rw [← List.take_append_drop k t, List.map_append, List.nodup_append] at h1
      refine h1.2.2 e.id (List.mem_map_of_mem (f := Spec.id) he) s.id ?_ e'
      obtain ⟨hlt, rfl⟩ := List.getElem?_eq_some_iff.1 hs
      exact List.mem_map_of_mem (f := Spec.id) (show t[k] ∈ t.drop k from by rw [List.drop_eq_getElem_cons hlt]; exact List.mem_cons_self)
    rw [take_snoc' hs] at h ⊢
    rw [edgesS_snoc, con_snoc] at h
    have up : ∀ {a b : Die} {p : List Spec}, Walk (t.take k) a p b → Walk (t.take k ++ [s]) a p b := fun hw => hw.mono fun e he => List.mem_append_left _ (hw.mem e he)
    have join : ∀ {u a b : Die} {p q : List Spec}, EndS s u → Walk (t.take k) a p u → Walk (t.take k) (otherS s u) q b → ∃ p, Walk (t.take k ++ [s]) a p b := fun {u a b p q} hu h1 h2 =>
      ⟨p ++ s :: q, (up h1).append (.cons (List.mem_append_right _ (by simp)) hu (up h2) fun s' hs' => hid s' (h2.mem s' (List.mem_of_mem_head? hs'))) fun x y hx hy => by
        simp only [List.head?_cons, Option.some.injEq] at hy
        subst hy
        exact fun e => hid x (h1.mem x (List.mem_of_getLast? hx)) e.symm⟩
    rcases h with h | ⟨h1, h2⟩ | ⟨h1, h2⟩
    · obtain ⟨p, hp⟩ := walk_exists k hd (by omega) h
      exact ⟨p, up hp⟩
    · obtain ⟨p, hp⟩ := walk_exists k hd (by omega) h1
      obtain ⟨q, hq⟩ := walk_exists k hd (by omega) h2
      exact join (u := dA s) (.inl rfl) hp (by rw [otherS, if_pos rfl]; exact hq)
    · obtain ⟨p, hp⟩ := walk_exists k hd (by omega) h1
      obtain ⟨q, hq⟩ := walk_exists k hd (by omega) h2
      exact join (u := dB s) (.inr rfl) hp (by rw [otherS, if_neg (dA_ne s s)]; exact hq)
end

/-! ### The forest of a list -/
noncomputable def forA : List Spec → List Spec → List Spec
  | _, [] => []
  | pre, s :: r => (if joinB (edgesS pre) (dA s) (dB s) = true then [] else [s]) ++ forA (pre ++ [s]) r
noncomputable def forL (l : List Spec) : List Spec := forA [] l
theorem forA_snoc : ∀ (r pre : List Spec) (s : Spec), forA pre (r ++ [s]) = forA pre r ++ (if joinB (edgesS (pre ++ r)) (dA s) (dB s) = true then [] else [s])
  | [], pre, s => by simp [forA]
  | x :: r, pre, s => by
    rw [List.cons_append, forA, forA, forA_snoc r (pre ++ [x]) s, List.append_assoc, List.append_assoc]
    rfl
theorem forL_snoc (l : List Spec) (s : Spec) : forL (l ++ [s]) = forL l ++ (if joinB (edgesS l) (dA s) (dB s) = true then [] else [s]) := by
  rw [forL, forA_snoc]; rfl
theorem con_join {E : List (Die × Die)} {s : Spec} : joinB E (dA s) (dB s) = true ↔ Con E (dA s) (dB s) := by
  rw [joinB_iff]
  exact ⟨fun h => h.2.2, fun h => ⟨(con_end h (dA_ne s s)).1, (con_end h (dA_ne s s)).2, h⟩⟩
/-- The forest joins what the list joins, and is one. -/
theorem forL_facts (l : List Spec) : (forL l).Sublist l ∧ (∀ a b, Con (edgesS (forL l)) a b ↔ Con (edgesS l) a b) ∧ ((l.map Spec.id).Nodup → Uni (forL l)) := by
  have : ∀ k, k ≤ l.length → (forL (l.take k)).Sublist (l.take k) ∧ (∀ a b, Con (edgesS (forL (l.take k))) a b ↔ Con (edgesS (l.take k)) a b) ∧ ((l.map Spec.id).Nodup → Uni (forL (l.take k))) := by
    intro k
    induction k with
    | zero => intro _; exact ⟨List.Sublist.refl _, fun _ _ => Iff.rfl, fun _ => uni_nil⟩
    | succ k ih =>
      intro hk
      obtain ⟨s, hs⟩ := get_of_lt (show k < l.length by omega)
      obtain ⟨h1, h2, h3⟩ := ih (by omega)
      rw [take_snoc' hs, forL_snoc]
      by_cases hj : joinB (edgesS (l.take k)) (dA s) (dB s) = true
      · rw [if_pos hj, List.append_nil]
        refine ⟨h1.trans (List.sublist_append_left _ _), fun a b => ?_, h3⟩
        have hc := con_join.1 hj
        rw [h2, edgesS_snoc, con_snoc]
        constructor
        · exact .inl
        · rintro (h | ⟨h, k⟩ | ⟨h, k⟩)
          · exact h
          · exact h.trans (hc.trans k)
          · exact h.trans (hc.symm.trans k)
      · rw [if_neg hj]
        have hc : ¬ Con (edgesS (l.take k)) (dA s) (dB s) := fun h => hj (con_join.2 h)
        refine ⟨h1.append (List.Sublist.refl _), fun a b => ?_, fun hd => (h3 hd).snoc (fun e he e' => ?_) fun h => hc ((h2 _ _).1 h)⟩
        · rw [edgesS_snoc, edgesS_snoc, con_snoc, con_snoc, h2, h2, h2, h2, h2]
        · have h4 := h1.subset he
          have h5 := hd
          rw [← List.take_append_drop k l, List.map_append, List.nodup_append] at h5
          refine h5.2.2 e.id (List.mem_map_of_mem (f := Spec.id) h4) s.id ?_ e'
          obtain ⟨hlt, rfl⟩ := List.getElem?_eq_some_iff.1 hs
          exact List.mem_map_of_mem (f := Spec.id) (show l[k] ∈ l.drop k from by rw [List.drop_eq_getElem_cons hlt]; exact List.mem_cons_self)
  have := this l.length (Nat.le_refl _)
  rwa [List.take_length] at this
end Go.Proofs.Ytcpobcfncmcakaa
