/- Matchings and covers, plain: no cover has fewer dies than a matching has pairs; a closed set of reverses gives a cover of the matching's size; the searches of the program and of the reference. No program in sight, no condition. -/
import Derived.Test.YtnaoiochfdipiaaKuhnB
import Derived.Test.YtnaoiochfdipiaaPartA
import Derived.Test.YtnaoiochfdipiaaPairP
namespace Go.Proofs.Ytnaoiochfdipiaa
open Go.RowKit

theorem nodup_len {α : Type} [DecidableEq α] : ∀ {l c : List α}, l.Nodup → (∀ x ∈ l, x ∈ c) → l.length ≤ c.length
  | [], c, _, _ => by simp
  | x :: l, c, hn, hs => by
    rw [List.nodup_cons] at hn
    have hx := hs x (by simp)
    have := nodup_len (c := c.erase x) hn.2 (fun y hy => (List.mem_erase_of_ne (fun e => hn.1 (by rw [← e]; exact hy))).2 (hs y (List.mem_cons_of_mem _ hy)))
    rw [List.length_erase_of_mem hx] at this
    have := List.length_pos_of_mem hx
    simp only [List.length_cons]
    omega
theorem nodup_same {α : Type} [DecidableEq α] {l c : List α} (h1 : l.Nodup) (h2 : c.Nodup) (h : ∀ x, x ∈ l ↔ x ∈ c) : l.length = c.length :=
  Nat.le_antisymm (nodup_len h1 fun x hx => (h x).1 hx) (nodup_len h2 fun x hx => (h x).2 hx)
theorem nodup_map {α β : Type} {l : List α} (f : α → β) (h : l.Nodup) (hf : ∀ x ∈ l, ∀ y ∈ l, f x = f y → x = y) : (l.map f).Nodup := by
  induction l with
  | nil => simp
  | cons a l ih =>
    rw [List.nodup_cons] at h
    rw [List.map_cons, List.nodup_cons]
    refine ⟨fun hm => ?_, ih h.2 fun x hx y hy => hf x (List.mem_cons_of_mem _ hx) y (List.mem_cons_of_mem _ hy)⟩
    obtain ⟨y, hy, e⟩ := List.mem_map.1 hm
    exact h.1 (hf a (by simp) y (List.mem_cons_of_mem _ hy) e.symm ▸ hy)

/-! ### Matchings and covers -/
def linkedP (g : Graph) (a b : Int) : Prop := ∃ x ∈ g.links, x.obv = a ∧ x.rev = b
structure IsMat (g : Graph) (l : List Pair) : Prop where
  link : ∀ p ∈ l, linkedP g p.a p.b
  asc : (l.map Pair.a).Pairwise (· < ·)
  inj : (l.map Pair.b).Nodup
def ltD (x y : Die) : Prop := x.side < y.side ∨ x.side = y.side ∧ x.num < y.num
structure IsCov (g : Graph) (c : List Die) : Prop where
  die : ∀ d ∈ c, dieIn g d = true
  asc : c.Pairwise ltD
  cov : ∀ x ∈ g.links, (⟨0, x.obv⟩ : Die) ∈ c ∨ (⟨1, x.rev⟩ : Die) ∈ c
theorem IsMat.nodup {g : Graph} {l : List Pair} (h : IsMat g l) : l.Nodup := by
  have := h.asc
  rw [List.pairwise_map] at this
  exact this.imp fun h e => by subst e; omega
theorem IsMat.eqA {g : Graph} {l : List Pair} (h : IsMat g l) {p q : Pair} (hp : p ∈ l) (hq : q ∈ l) (e : p.a = q.a) : p = q := by
  have h1 := h.asc
  rw [List.pairwise_map] at h1
  obtain ⟨i, hi⟩ := List.mem_iff_getElem?.1 hp
  obtain ⟨j, hj⟩ := List.mem_iff_getElem?.1 hq
  obtain ⟨l1, e1⟩ := List.getElem?_eq_some_iff.1 hi
  obtain ⟨l2, e2⟩ := List.getElem?_eq_some_iff.1 hj
  have h2 := List.pairwise_iff_getElem.1 h1
  rcases Nat.lt_trichotomy i j with hlt | rfl | hlt
  · have := h2 i j l1 l2 hlt; rw [e1, e2] at this; omega
  · rw [← e1, ← e2]
  · have := h2 j i l2 l1 hlt; rw [e1, e2] at this; omega
theorem IsMat.eqB {g : Graph} {l : List Pair} (h : IsMat g l) {p q : Pair} (hp : p ∈ l) (hq : q ∈ l) (e : p.b = q.b) : p = q := by
  obtain ⟨i, hi⟩ := List.mem_iff_getElem?.1 hp
  obtain ⟨j, hj⟩ := List.mem_iff_getElem?.1 hq
  obtain ⟨l1, e1⟩ := List.getElem?_eq_some_iff.1 hi
  obtain ⟨l2, e2⟩ := List.getElem?_eq_some_iff.1 hj
  have h2 := List.pairwise_iff_getElem.1 h.inj
  rcases Nat.lt_trichotomy i j with hlt | rfl | hlt
  · have := h2 i j (by simpa using l1) (by simpa using l2) hlt; simp only [List.getElem_map, e1, e2] at this; exact absurd e this
  · rw [← e1, ← e2]
  · have := h2 j i (by simpa using l2) (by simpa using l1) hlt; simp only [List.getElem_map, e1, e2] at this; exact absurd e.symm this
/-- No matching has more pairs than a cover has dies. -/
theorem mat_le_cov {g : Graph} {l : List Pair} {c : List Die} (h : IsMat g l) (hc : IsCov g c) : l.length ≤ c.length := by
  have : (l.map fun p => if (⟨0, p.a⟩ : Die) ∈ c then (⟨0, p.a⟩ : Die) else ⟨1, p.b⟩).length ≤ c.length := by
    refine nodup_len (nodup_map _ h.nodup fun p hp q hq e => ?_) fun d hd => ?_
    · by_cases h1 : (⟨0, p.a⟩ : Die) ∈ c <;> by_cases h2 : (⟨0, q.a⟩ : Die) ∈ c <;> simp only [h1, h2, if_true, if_false, Die.mk.injEq] at e
      · exact h.eqA hp hq e.2
      · exact absurd e.1 (by decide)
      · exact absurd e.1 (by decide)
      · exact h.eqB hp hq e.2
    · obtain ⟨p, hp, rfl⟩ := List.mem_map.1 hd
      obtain ⟨x, hx, e1, e2⟩ := h.link p hp
      by_cases h1 : (⟨0, p.a⟩ : Die) ∈ c
      · simp only [h1, if_true]
      · simp only [h1, if_false]
        rcases hc.cov x hx with h3 | h3
        · rw [e1] at h3; exact absurd h3 h1
        · rw [e2] at h3; exact h3
  simpa using this
/-- The size of the largest matchings. -/
def Opt (g : Graph) (n : Nat) : Prop := ∃ l c, IsMat g l ∧ IsCov g c ∧ l.length = n ∧ c.length = n
theorem Opt.unique {g : Graph} {m n : Nat} (h : Opt g m) (k : Opt g n) : m = n := by
  obtain ⟨l, c, h1, h2, h3, h4⟩ := h
  obtain ⟨l', c', k1, k2, k3, k4⟩ := k
  have := mat_le_cov h1 k2
  have := mat_le_cov k1 h2
  omega
theorem Opt.le {g : Graph} {n : Nat} (h : Opt g n) {l : List Pair} (hl : IsMat g l) : l.length ≤ n := by
  obtain ⟨_, c, _, h2, _, h4⟩ := h
  have := mat_le_cov hl h2
  omega
theorem Opt.ge {g : Graph} {n : Nat} (h : Opt g n) {c : List Die} (hc : IsCov g c) : n ≤ c.length := by
  obtain ⟨l, _, h1, _, h3, _⟩ := h
  have := mat_le_cov h1 hc
  omega

/-! ### The partners of an obverse -/
def nbr (g : Graph) (o : Int) : List Int := partG g ⟨0, o⟩
theorem nbr_mem {g : Graph} (hg : graphB g = true) {o r : Int} : r ∈ nbr g o ↔ linkedP g o r := by
  unfold nbr partG
  rw [if_pos hg, withs_mem]
  unfold partL linkedP
  simp only [List.mem_map, List.mem_filter, touchB, endI]
  constructor
  · rintro ⟨x, ⟨hx, ht⟩, rfl⟩
    refine ⟨x, hx, by simpa using ht, ?_⟩
    rfl
  · rintro ⟨x, hx, rfl, rfl⟩
    exact ⟨x, ⟨hx, by simp⟩, rfl⟩
theorem nbr_rev {g : Graph} (hg : graphB g = true) (o : Int) : ∀ r ∈ nbr g o, r ∈ g.rev := fun r hr => by
  obtain ⟨x, hx, _, rfl⟩ := (nbr_mem hg).1 hr
  exact (graphB_ends hg).2 x hx
theorem nbr_obv {g : Graph} (hg : graphB g = true) {o r : Int} (h : r ∈ nbr g o) : o ∈ g.obv := by
  obtain ⟨x, hx, rfl, _⟩ := (nbr_mem hg).1 h
  exact (graphB_ends hg).1 x hx

/-! ### A closed set gives a cover of the matching's size -/
def coverL (g : Graph) (obv : List (Int × Int)) (F : Int → Bool) : List Die :=
  (g.obv.filter fun o => match lookM obv o with | none => false | some r => !F r).map (Die.mk 0) ++ (g.rev.filter F).map (Die.mk 1)
theorem coverL_cov {g : Graph} (hg : graphB g = true) {s : St} {F : Int → Bool} (hM : Mate (nbr g) s) (hC : Closed (nbr g) s.rev (fun r => F r = true)) (hF : ∀ o ∈ g.obv, lookM s.obv o = none → ∀ r ∈ nbr g o, F r = true) : IsCov g (coverL g s.obv F) := by
  have hok := (graphB_iff g).1 hg
  refine ⟨fun d hd => ?_, ?_, fun x hx => ?_⟩
  · rw [coverL, List.mem_append] at hd
    rcases hd with hd | hd
    · obtain ⟨o, ho, rfl⟩ := List.mem_map.1 hd
      simp [dieIn, hasB_iff, (List.mem_filter.1 ho).1]
    · obtain ⟨o, ho, rfl⟩ := List.mem_map.1 hd
      simp [dieIn, hasB_iff, (List.mem_filter.1 ho).1]
  · rw [coverL, List.pairwise_append]
    refine ⟨?_, ?_, fun a ha b hb => ?_⟩
    · rw [List.pairwise_map]
      exact ((ascB_asc hok.ao).sublist List.filter_sublist).imp fun h => .inr ⟨rfl, h⟩
    · rw [List.pairwise_map]
      exact ((ascB_asc hok.ar).sublist List.filter_sublist).imp fun h => .inr ⟨rfl, h⟩
    · obtain ⟨o, _, rfl⟩ := List.mem_map.1 ha
      obtain ⟨r, _, rfl⟩ := List.mem_map.1 hb
      exact .inl (by show (0 : Int) < 1; omega)
  · have hE := graphB_ends hg
    have hr : x.rev ∈ nbr g x.obv := (nbr_mem hg).2 ⟨x, hx, rfl, rfl⟩
    rw [coverL, List.mem_append, List.mem_append]
    cases hFr : F x.rev
    · left; left
      refine List.mem_map.2 ⟨x.obv, List.mem_filter.2 ⟨hE.1 x hx, ?_⟩, rfl⟩
      cases hl : lookM s.obv x.obv with
      | none => rw [hF _ (hE.1 x hx) hl _ hr] at hFr; cases hFr
      | some r =>
        simp only [Bool.not_eq_true']
        cases hF2 : F r
        · rfl
        · obtain ⟨o', h1, h2⟩ := hC r hF2
          rw [hM.fwd _ _ hl] at h1
          cases h1
          rw [h2 _ hr] at hFr
          cases hFr
    · right; right
      exact List.mem_map.2 ⟨x.rev, List.mem_filter.2 ⟨hE.2 x hx, hFr⟩, rfl⟩
theorem filter_not_len {α : Type} (p : α → Bool) (l : List α) : (l.filter p).length + (l.filter fun x => !p x).length = l.length := by
  induction l with
  | nil => rfl
  | cons a l ih => cases h : p a <;> simp [h] <;> omega
theorem coverL_len {g : Graph} (hg : graphB g = true) {s : St} {F : Int → Bool} (hM : Mate (nbr g) s) (hn : (s.rev.map Prod.fst).Nodup) (hC : Closed (nbr g) s.rev (fun r => F r = true)) : (coverL g s.obv F).length = s.rev.length := by
  have hok := (graphB_iff g).1 hg
  have key : ∀ r, r ∈ s.rev.map Prod.fst ↔ ∃ a, lookM s.rev r = some a := fun r => by
    rw [← isSome_mem]
    cases lookM s.rev r <;> simp
  have e1 : (g.rev.filter F).length = ((s.rev.map Prod.fst).filter F).length := by
    refine nodup_same (((ascB_asc hok.ar).imp (fun {a b} (h : a < b) (e : a = b) => by omega)).filter _) (hn.filter _) fun r => ?_
    simp only [List.mem_filter]
    refine and_congr_left fun hF => ?_
    rw [key]
    obtain ⟨o, h1, h2⟩ := hC r hF
    exact ⟨fun _ => ⟨o, h1⟩, fun _ => nbr_rev hg o r (hM.link o r h1)⟩
  have e2 : (g.obv.filter fun o => match lookM s.obv o with | none => false | some r => !F r).length = ((s.rev.map Prod.fst).filter fun r => !F r).length := by
    rw [← List.length_map (f := fun o => (lookM s.obv o).getD 0)]
    refine nodup_same (nodup_map _ (((ascB_asc hok.ao).imp (fun {a b} (h : a < b) (e : a = b) => by omega)).filter _) fun a ha b hb e => ?_) (hn.filter _) fun r => ?_
    · have ha' := (List.mem_filter.1 ha).2
      have hb' := (List.mem_filter.1 hb).2
      cases h1 : lookM s.obv a with
      | none => rw [h1] at ha'; cases ha'
      | some x =>
        cases h2 : lookM s.obv b with
        | none => rw [h2] at hb'; cases hb'
        | some y =>
          rw [h1, h2] at e
          simp only [Option.getD_some] at e
          subst e
          have h3 := hM.fwd _ _ h1
          rw [hM.fwd _ _ h2] at h3
          exact (Option.some.inj h3).symm
    · simp only [List.mem_map, List.mem_filter]
      constructor
      · rintro ⟨o, ⟨ho, hf⟩, rfl⟩
        cases h1 : lookM s.obv o with
        | none => rw [h1] at hf; cases hf
        | some x =>
          rw [h1] at hf
          refine ⟨?_, by simpa using hf⟩
          have := (key x).2 ⟨o, hM.fwd _ _ h1⟩
          simpa using this
      · rintro ⟨⟨p, hp, rfl⟩, hf⟩
        obtain ⟨a, ha⟩ := (key p.1).1 (List.mem_map_of_mem hp)
        have hb := hM.bwd _ _ ha
        exact ⟨a, ⟨nbr_obv hg (hM.link _ _ ha), by rw [hb]; exact hf⟩, by rw [hb]; rfl⟩
  rw [coverL, List.length_append, List.length_map, List.length_map, e1, e2, Nat.add_comm, filter_not_len, List.length_map]
end Go.Proofs.Ytnaoiochfdipiaa
