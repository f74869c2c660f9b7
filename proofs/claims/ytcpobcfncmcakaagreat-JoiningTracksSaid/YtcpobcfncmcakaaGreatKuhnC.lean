/- Matchings and covers, plain: no cover has fewer dies than a matching has pairs; a closed set of reverses gives a cover of the matching's size; the searches of the program and of the reference. No program in sight, no condition. -/
import Derived.Test.YtcpobcfncmcakaaGreatKuhnA
import Derived.Test.YtcpobcfncmcakaaGreatReadB
import Derived.Test.YtcpobcfncmcakaaGreatPairA
namespace Go.Proofs.YtcpobcfncmcakaaGreat
open Go.RowKit

theorem nodup_same {α : Type} [DecidableEq α] {l c : List α} (h1 : l.Nodup) (h2 : c.Nodup) (h : ∀ x, x ∈ l ↔ x ∈ c) : l.length = c.length :=
  Nat.le_antisymm (nodup_len h1 fun x hx => (h x).1 hx) (nodup_len h2 fun x hx => (h x).2 hx)
theorem nodup_map {α β : Type} {l : List α} (f : α → β) (h : l.Nodup) (hf : ∀ x ∈ l, ∀ y ∈ l, f x = f y → x = y) : (l.map f).Nodup := by
  induction l with
  | nil => simp
  | cons a l ih =>
    rw [List.nodup_cons] at h
    rw [List.map_cons, List.nodup_cons]
    refine ⟨fun hm => ?_, ih h.2 fun x hx y hy => hf x (List.mem_cons_of_mem _ hx) y (List.mem_cons_of_mem _ hy)⟩
    obtain ⟨y, hy, e⟩ := List.mem_map.1 hm
    exact h.1 (hf a (by simp) y (List.mem_cons_of_mem _ hy) e.symm ▸ hy)

/-! ### Matchings and covers -/
def linkedP (g : Graph) (a b : Int) : Prop := ∃ x ∈ g.links, x.obv = a ∧ x.rev = b
structure IsMat (g : Graph) (l : List Pair) : Prop where
  link : ∀ p ∈ l, linkedP g p.a p.b
  asc : (l.map Pair.a).Pairwise (· < ·)
  inj : (l.map Pair.b).Nodup
def ltD (x y : Die) : Prop := x.side < y.side ∨ x.side = y.side ∧ x.num < y.num
structure IsCov (g : Graph) (c : List Die) : Prop where
  die : ∀ d ∈ c, dieIn g d = true
  asc : c.Pairwise ltD
  cov : ∀ x ∈ g.links, (⟨0, x.obv⟩ : Die) ∈ c ∨ (⟨1, x.rev⟩ : Die) ∈ c
theorem IsMat.nodup {g : Graph} {l : List Pair} (h : IsMat g l) : l.Nodup := by
  have := h.asc
  rw [List.pairwise_map] at this
  exact this.imp fun h e => by subst e; omega
theorem IsMat.eqA {g : Graph} {l : List Pair} (h : IsMat g l) {p q : Pair} (hp : p ∈ l) (hq : q ∈ l) (e : p.a = q.a) : p = q := by
  have h1 := h.asc
  rw [List.pairwise_map] at h1
  obtain ⟨i, hi⟩ := List.mem_iff_getElem?.1 hp
  obtain ⟨j, hj⟩ := List.mem_iff_getElem?.1 hq
  obtain ⟨l1, e1⟩ := List.getElem?_eq_some_iff.1 hi
  obtain ⟨l2, e2⟩ := List.getElem?_eq_some_iff.1 hj
  have h2 := List.pairwise_iff_getElem.1 h1
  rcases Nat.lt_trichotomy i j with hlt | rfl | hlt
  · have := h2 i j l1 l2 hlt; rw [e1, e2] at this; omega
  · rw [← e1, ← e2]
  · have := h2 j i l2 l1 hlt; rw [e1, e2] at this; omega
theorem IsMat.eqB {g : Graph} {l : List Pair} (h : IsMat g l) {p q : Pair} (hp : p ∈ l) (hq : q ∈ l) (e : p.b = q.b) : p = q := by
  obtain ⟨i, hi⟩ := List.mem_iff_getElem?.1 hp
  obtain ⟨j, hj⟩ := List.mem_iff_getElem?.1 hq
  obtain ⟨l1, e1⟩ := List.getElem?_eq_some_iff.1 hi
  obtain ⟨l2, e2⟩ := List.getElem?_eq_some_iff.1 hj
  have h2 := List.pairwise_iff_getElem.1 h.inj
  rcases Nat.lt_trichotomy i j with hlt | rfl | hlt
  · have := h2 i j (by simpa using l1) (by simpa using l2) hlt; simp only [List.getElem_map, e1, e2] at this; exact absurd e this
  · rw [← e1, ← e2]
  · have := h2 j i (by simpa using l2) (by simpa using l1) hlt; simp only [List.getElem_map, e1, e2] at this; exact absurd e.symm this
/-- No matching has more pairs than a cover has dies. -/
theorem mat_le_cov {g : Graph} {l : List Pair} {c : List Die} (h : IsMat g l) (hc : IsCov g c) : l.length ≤ c.length := by
  have : (l.map fun p => if (⟨0, p.a⟩ : Die) ∈ c then (⟨0, p.a⟩ : Die) else ⟨1, p.b⟩).length ≤ c.length := by
    refine nodup_len (nodup_map _ h.nodup fun p hp q hq e => ?_) fun d hd => ?_
    · by_cases h1 : (⟨0, p.a⟩ : Die) ∈ c <;> by_cases h2 : (⟨0, q.a⟩ : Die) ∈ c <;> simp only [h1, h2, if_true, if_false, Die.mk.injEq] at e
      · exact h.eqA hp hq e.2
      · exact absurd e.1 (by decide)
      · exact absurd e.1 (by decide)
      · exact h.eqB hp hq e.2
    · obtain ⟨p, hp, rfl⟩ := List.mem_map.1 hd
      obtain ⟨x, hx, e1, e2⟩ := h.link p hp
      by_cases h1 : (⟨0, p.a⟩ : Die) ∈ c
      · simp only [h1, if_true]
      · simp only [h1, if_false]
        rcases hc.cov x hx with h3 | h3
        · rw [e1] at h3; exact absurd h3 h1
        · rw [e2] at h3; exact h3
  simpa using this
/-- The size of the largest matchings. -/
def Opt (g : Graph) (n : Nat) : Prop := ∃ l c, IsMat g l ∧ IsCov g c ∧ l.length = n ∧ c.length = n
theorem Opt.unique {g : Graph} {m n : Nat} (h : Opt g m) (k : Opt g n) : m = n := by
  obtain ⟨l, c, h1, h2, h3, h4⟩ := h
  obtain ⟨l', c', k1, k2, k3, k4⟩ := k
  have := mat_le_cov h1 k2
  have := mat_le_cov k1 h2
  omega
theorem Opt.le {g : Graph} {n : Nat} (h : Opt g n) {l : List Pair} (hl : IsMat g l) : l.length ≤ n := by
  obtain ⟨_, c, _, h2, _, h4⟩ := h
  have := mat_le_cov hl h2
  omega
theorem Opt.ge {g : Graph} {n : Nat} (h : Opt g n) {c : List Die} (hc : IsCov g c) : n ≤ c.length := by
  obtain ⟨l, _, h1, _, h3, _⟩ := h
  have := mat_le_cov h1 hc
  omega

/-! ### The partners of an obverse -/
def nbr (g : Graph) (o : Int) : List Int := partG g ⟨0, o⟩
theorem nbr_mem {g : Graph} (hg : graphB g = true) {o r : Int} : r ∈ nbr g o ↔ linkedP g o r := by
  unfold nbr partG
  rw [if_pos hg, withs_mem]
  unfold partL linkedP
  simp only [List.mem_map, List.mem_filter, touchB, endI]
  constructor
  · rintro ⟨x, ⟨hx, ht⟩, rfl⟩
    refine ⟨x, hx, by simpa using ht, ?_⟩
    rfl
  · rintro ⟨x, hx, rfl, rfl⟩
    exact ⟨x, ⟨hx, by simp⟩, rfl⟩
theorem nbr_rev {g : Graph} (hg : graphB g = true) (o : Int) : ∀ r ∈ nbr g o, r ∈ g.rev := fun r hr => by
  obtain ⟨x, hx, _, rfl⟩ := (nbr_mem hg).1 hr
  exact (graphB_ends hg).2 x hx
theorem nbr_obv {g : Graph} (hg : graphB g = true) {o r : Int} (h : r ∈ nbr g o) : o ∈ g.obv := by
  obtain ⟨x, hx, rfl, _⟩ := (nbr_mem hg).1 h
  exact (graphB_ends hg).1 x hx

/-! ### A closed set gives a cover of the matching's size -/
def coverL (g : Graph) (obv : List (Int × Int)) (F : Int → Bool) : List Die :=
  (g.obv.filter fun o => match lookM obv o with | none => false | some r => !F r).map (Die.mk 0) ++ (g.rev.filter F).map (Die.mk 1)
theorem coverL_cov {g : Graph} (hg : graphB g = true) {s : St} {F : Int → Bool} (hM : Mate (nbr g) s) (hC : Closed (nbr g) s.rev (fun r => F r = true)) (hF : ∀ o ∈ g.obv, lookM s.obv o = none → ∀ r ∈ nbr g o, F r = true) : IsCov g (coverL g s.obv F) := by
  have hok := (graphB_iff g).1 hg
  refine ⟨fun d hd => ?_, ?_, fun x hx => ?_⟩
  · rw [coverL, List.mem_append] at hd
    rcases hd with hd | hd
    · obtain ⟨o, ho, rfl⟩ := List.mem_map.1 hd
      simp [dieIn, hasB_iff, (List.mem_filter.1 ho).1]
    · obtain ⟨o, ho, rfl⟩ := List.mem_map.1 hd
      simp [dieIn, hasB_iff, (List.mem_filter.1 ho).1]
  · rw [coverL, List.pairwise_append]
    refine ⟨?_, ?_, fun a ha b hb => ?_⟩
    · rw [List.pairwise_map]
      exact ((ascB_asc hok.ao).sublist List.filter_sublist).imp fun h => .inr ⟨rfl, h⟩
    · rw [List.pairwise_map]
      exact ((ascB_asc hok.ar).sublist List.filter_sublist).imp fun h => .inr ⟨rfl, h⟩
    · obtain ⟨o, _, rfl⟩ := List.mem_map.1 ha
      obtain ⟨r, _, rfl⟩ := List.mem_map.1 hb
      exact .inl (by show (0 : Int) < 1; omega)
  · have hE := graphB_ends hg
    have hr : x.rev ∈ nbr g x.obv := (nbr_mem hg).2 ⟨x, hx, rfl, rfl⟩
    rw [coverL, List.mem_append, List.mem_append]
    cases hFr : F x.rev
    · left; left
      refine List.mem_map.2 ⟨x.obv, List.mem_filter.2 ⟨hE.1 x hx, ?_⟩, rfl⟩
      cases hl : lookM s.obv x.obv with
      | none => rw [hF _ (hE.1 x hx) hl _ hr] at hFr; cases hFr
      | some r =>
        simp only [Bool.not_eq_true']
        cases hF2 : F r
        · rfl
        · obtain ⟨o', h1, h2⟩ := hC r hF2
          rw [hM.fwd _ _ hl] at h1
          cases h1
          rw [h2 _ hr] at hFr
          cases hFr
    · right; right
      exact List.mem_map.2 ⟨x.rev, List.mem_filter.2 ⟨hE.2 x hx, hFr⟩, rfl⟩
theorem filter_not_len {α : Type} (p : α → Bool) (l : List α) : (l.filter p).length + (l.filter fun x => !p x).length = l.length := by
  induction l with
  | nil => rfl
  | cons a l ih => cases h : p a <;> simp [h] <;> omega
theorem coverL_len {g : Graph} (hg : graphB g = true) {s : St} {F : Int → Bool} (hM : Mate (nbr g) s) (hn : (s.rev.map Prod.fst).Nodup) (hC : Closed (nbr g) s.rev (fun r => F r = true)) : (coverL g s.obv F).length = s.rev.length := by
  have hok := (graphB_iff g).1 hg
  have key : ∀ r, r ∈ s.rev.map Prod.fst ↔ ∃ a, lookM s.rev r = some a := fun r => by
    rw [← isSome_mem]
    cases lookM s.rev r <;> simp
  have e1 : (g.rev.filter F).length = ((s.rev.map Prod.fst).filter F).length := by
    refine nodup_same (((ascB_asc hok.ar).imp (fun {a b} (h : a < b) (e : a = b) => by omega)).filter _) (hn.filter _) fun r => ?_
    simp only [List.mem_filter]
    refine and_congr_left fun hF => ?_
    rw [key]
    obtain ⟨o, h1, h2⟩ := hC r hF
    exact ⟨fun _ => ⟨o, h1⟩, fun _ => nbr_rev hg o r (hM.link o r h1)⟩
  have e2 : (g.obv.filter fun o => match lookM s.obv o with | none => false | some r => !F r).length = ((s.rev.map Prod.fst).filter fun r => !F r).length := by
    rw [← List.length_map (f := fun o => (lookM s.obv o).getD 0)]
    refine nodup_same (nodup_map _ (((ascB_asc hok.ao).imp (fun {a b} (h : a < b) (e : a = b) => by omega)).filter _) fun a ha b hb e => ?_) (hn.filter _) fun r => ?_
    · have ha' := (List.mem_filter.1 ha).2
      have hb' := (List.mem_filter.1 hb).2
      cases h1 : lookM s.obv a with
      | none => rw [h1] at ha'; cases ha'
      | some x =>
        cases h2 : lookM s.obv b with
        | none => rw [h2] at hb'; cases hb'
        | some y =>
          rw [h1, h2] at e
          simp only [Option.getD_some] at e
          subst e
          have h3 := hM.fwd _ _ h1
          rw [hM.fwd _ _ h2] at h3
          exact (Option.some.inj h3).symm
    · simp only [List.mem_map, List.mem_filter]
      constructor
      · rintro ⟨o, ⟨ho, hf⟩, rfl⟩
        cases h1 : lookM s.obv o with
        | none => rw [h1] at hf; cases hf
        | some x =>
          rw [h1] at hf
          refine ⟨?_, by simpa using hf⟩
          have := (key x).2 ⟨o, hM.fwd _ _ h1⟩
          simpa using this
      · rintro ⟨⟨p, hp, rfl⟩, hf⟩
        obtain ⟨a, ha⟩ := (key p.1).1 (List.mem_map_of_mem hp)
        have hb := hM.bwd _ _ ha
        exact ⟨a, ⟨nbr_obv hg (hM.link _ _ ha), by rw [hb]; exact hf⟩, by rw [hb]; rfl⟩
  rw [coverL, List.length_append, List.length_map, List.length_map, e1, e2, Nat.add_comm, filter_not_len, List.length_map]
end Go.Proofs.YtcpobcfncmcakaaGreat
/- The searches one after the other, plain: the program's and the reference's both end in a matching with the most pairs. No program in sight, no condition. -/
namespace Go.Proofs.YtcpobcfncmcakaaGreat
open Go.RowKit

/-- The maps of a graph's matching. -/
structure Good (g : Graph) (s : St) : Prop where
  mate : Mate (nbr g) s
  nodR : (s.rev.map Prod.fst).Nodup
  nodO : (s.obv.map Prod.fst).Nodup
theorem good_empty (g : Graph) : Good g ⟨[], [], []⟩ := ⟨⟨fun a r h => by simp [lookM] at h, fun a r h => by simp [lookM] at h, fun a r h => by simp [lookM] at h⟩, by simp, by simp⟩
theorem Good.seen {g : Graph} {s : St} (h : Good g s) (l : List Int) : Good g ⟨s.obv, s.rev, l⟩ := ⟨⟨h.mate.fwd, h.mate.bwd, h.mate.link⟩, h.nodR, h.nodO⟩
theorem Good.keysR {g : Graph} {s : St} (hg : graphB g = true) (h : Good g s) : ∀ r ∈ s.rev.map Prod.fst, r ∈ g.rev := fun r hr => by
  obtain ⟨a, ha⟩ := Option.isSome_iff_exists.1 (isSome_mem.2 hr)
  exact nbr_rev hg a r (h.mate.link a r ha)
theorem Good.keysO {g : Graph} {s : St} (hg : graphB g = true) (h : Good g s) : ∀ o ∈ s.obv.map Prod.fst, o ∈ g.obv := fun o ho => by
  obtain ⟨r, hr⟩ := Option.isSome_iff_exists.1 (isSome_mem.2 ho)
  exact nbr_obv hg (h.mate.link o r (h.mate.fwd o r hr))
theorem Good.lenR {g : Graph} {s : St} (hg : graphB g = true) (h : Good g s) : s.rev.length ≤ 32 := by
  have h1 := nodup_len h.nodR (h.keysR hg)
  have h2 := ((graphB_iff g).1 hg).lr
  simp at h1
  omega
theorem Good.len {g : Graph} {s : St} (h : Good g s) : s.obv.length = s.rev.length := by
  have h1 : (s.obv.map fun p => (lookM s.obv p.1).getD 0).length = (s.rev.map Prod.fst).length := by
    refine nodup_same (nodup_map _ (List.Pairwise.of_map Prod.fst (fun a b h e => h (by rw [e])) h.nodO) fun p hp q hq e => ?_) h.nodR fun r => ?_
    · have e1 := (lookM_mem h.nodO).2 (show (p.1, p.2) ∈ s.obv from hp)
      have e2 := (lookM_mem h.nodO).2 (show (q.1, q.2) ∈ s.obv from hq)
      simp only [e1, e2, Option.getD_some] at e
      have e3 := h.mate.fwd _ _ e1
      have e4 := h.mate.fwd _ _ e2
      rw [e] at e3
      rw [e3] at e4
      exact Prod.ext (Option.some.inj e4) e
    · simp only [List.mem_map]
      constructor
      · rintro ⟨p, hp, rfl⟩
        have e1 := (lookM_mem h.nodO).2 (show (p.1, p.2) ∈ s.obv from hp)
        rw [e1]
        exact ⟨_, lookM_some (h.mate.fwd _ _ e1), rfl⟩
      · rintro ⟨p, hp, rfl⟩
        have e1 := (lookM_mem h.nodR).2 (show (p.1, p.2) ∈ s.rev from hp)
        have e2 := h.mate.bwd _ _ e1
        exact ⟨_, lookM_some e2, by simp only [e2]; rfl⟩
  simpa using h1

theorem augL_nod {rec : Int → St → Bool × St} (hrec : ∀ o s, (s.rev.map Prod.fst).Nodup → (s.obv.map Prod.fst).Nodup → ((rec o s).2.rev.map Prod.fst).Nodup ∧ ((rec o s).2.obv.map Prod.fst).Nodup) (o : Int) :
    ∀ (L : List Int) (s : St), (s.rev.map Prod.fst).Nodup → (s.obv.map Prod.fst).Nodup → ((augL rec o L s).2.rev.map Prod.fst).Nodup ∧ ((augL rec o L s).2.obv.map Prod.fst).Nodup
  | [], s, h1, h2 => ⟨h1, h2⟩
  | r :: rs, s, h1, h2 => by
    rw [augL]
    by_cases hs : r ∈ s.seen
    · rw [if_pos hs]; exact augL_nod hrec o rs s h1 h2
    · rw [if_neg hs]
      cases hl : lookM s.rev r with
      | none => exact ⟨putM_nodup h1 _ _, putM_nodup h2 _ _⟩
      | some o2 =>
        have h3 := hrec o2 (s.see r) h1 h2
        cases hq : rec o2 (s.see r) with
        | mk b s2 =>
          rw [hq] at h3
          simp only [hq]
          cases b
          · exact augL_nod hrec o rs s2 h3.1 h3.2
          · exact ⟨putM_nodup h3.1 _ _, putM_nodup h3.2 _ _⟩
theorem augF_nod {N : Int → List Int} : ∀ (n : Nat) (o : Int) (s : St), (s.rev.map Prod.fst).Nodup → (s.obv.map Prod.fst).Nodup → ((augF N n o s).2.rev.map Prod.fst).Nodup ∧ ((augF N n o s).2.obv.map Prod.fst).Nodup
  | 0, _, _, h1, h2 => ⟨h1, h2⟩
  | n + 1, o, s, h1, h2 => augL_nod (augF_nod n) o (N o) s h1 h2
theorem aug_good {g : Graph} (hg : graphB g = true) {n : Nat} {o : Int} {s s' : St} (h : Good g s) (hf : lookM s.obv o = none) (hq : augF (nbr g) n o ⟨s.obv, s.rev, []⟩ = (true, s')) : Good g s' ∧ Done (nbr g) o ⟨s.obv, s.rev, []⟩ s' := by
  have hM := (h.seen []).mate
  have hD := augF_done (nbr_rev hg) n o _ s' hM (fun x hx => by have := h.mate.bwd o x hx; rw [hf] at this; cases this) hq
  have hN := augF_nod (N := nbr g) n o ⟨s.obv, s.rev, []⟩ h.nodR h.nodO
  rw [hq] at hN
  exact ⟨⟨hD.mate hf hM, hN.1, hN.2⟩, hD⟩

/-! ### The program: one more pair, as often as there is one -/
def moreL (N : Int → List Int) (n : Nat) : List Int → St → Bool × St
  | [], s => (false, s)
  | o :: os, s =>
    if (lookM s.obv o).isSome = true then moreL N n os s else
      match augF N n o ⟨s.obv, s.rev, []⟩ with
      | (true, s') => (true, s')
      | (false, s') => moreL N n os s'
def greatF (N : Int → List Int) (n : Nat) (os : List Int) : Nat → St → St
  | 0, s => s
  | k + 1, s => match moreL N n os s with
    | (true, s') => greatF N n os k s'
    | (false, s') => s'
theorem moreL_true {g : Graph} (hg : graphB g = true) {n : Nat} : ∀ {os : List Int} {s s' : St}, Good g s → moreL (nbr g) n os s = (true, s') →
    Good g s' ∧ s'.rev.length = s.rev.length + 1 ∧ (∀ a, (lookM s.obv a).isSome = true → (lookM s'.obv a).isSome = true) ∧ ∀ r, (lookM s.rev r).isSome = true → (lookM s'.rev r).isSome = true
  | [], s, s', _, h => by simp [moreL] at h
  | o :: os, s, s', hG, h => by
    rw [moreL] at h
    by_cases hs : (lookM s.obv o).isSome = true
    · rw [if_pos hs] at h
      exact moreL_true hg hG h
    · rw [if_neg hs] at h
      have hf : lookM s.obv o = none := by cases hl : lookM s.obv o with
        | none => rfl
        | some x => rw [hl] at hs; simp at hs
      cases hq : augF (nbr g) n o ⟨s.obv, s.rev, []⟩ with
      | mk b s2 =>
        simp only [hq] at h
        cases b
        · simp only at h
          obtain ⟨k1, k2⟩ := augF_keep _ _ _ _ hq
          have k1' : s2.rev = s.rev := k1
          have k2' : s2.obv = s.obv := k2
          have hG2 : Good g s2 := by
            have := hG.seen s2.seen
            rw [← k1', ← k2'] at this
            exact this
          have := moreL_true hg hG2 h
          rwa [k1', k2'] at this
        · simp only [Prod.mk.injEq, true_and] at h
          subst h
          obtain ⟨hG', hD⟩ := aug_good hg hG hf hq
          refine ⟨hG', hD.len, fun a ha => ?_, fun r hr => hD.domR r hr⟩
          have hne : a ≠ o := fun e => by rw [e, hf] at ha; cases ha
          rw [hD.dom a hne]; exact ha
theorem moreL_false {g : Graph} (hg : graphB g = true) {n : Nat} (hn : g.rev.length < n) : ∀ {os : List Int} {s s' : St}, Good g s → moreL (nbr g) n os s = (false, s') →
    s'.obv = s.obv ∧ s'.rev = s.rev ∧ ∃ F : Int → Bool, Closed (nbr g) s.rev (fun r => F r = true) ∧ ∀ o ∈ os, lookM s.obv o = none → ∀ r ∈ nbr g o, F r = true
  | [], s, s', _, h => by
    simp only [moreL, Prod.mk.injEq, true_and] at h
    subst h
    exact ⟨rfl, rfl, fun _ => false, fun r hr => by simp at hr, by simp⟩
  | o :: os, s, s', hG, h => by
    rw [moreL] at h
    by_cases hs : (lookM s.obv o).isSome = true
    · rw [if_pos hs] at h
      obtain ⟨h1, h2, F, h3, h4⟩ := moreL_false hg hn hG h
      refine ⟨h1, h2, F, h3, fun a ha hf => ?_⟩
      rcases List.mem_cons.1 ha with rfl | ha
      · rw [hf] at hs; simp at hs
      · exact h4 a ha hf
    · rw [if_neg hs] at h
      cases hq : augF (nbr g) n o ⟨s.obv, s.rev, []⟩ with
      | mk b s2 =>
        simp only [hq] at h
        cases b
        · simp only at h
          have hFl := augF_fail (nbr_rev hg) n o _ _ hq
          have k1' : s2.rev = s.rev := hFl.rev
          have k2' : s2.obv = s.obv := hFl.obv
          have hG2 : Good g s2 := by
            have := hG.seen s2.seen
            rw [← k1', ← k2'] at this
            exact this
          obtain ⟨h1, h2, F, h3, h4⟩ := moreL_false hg hn hG2 h
          rw [k1'] at h2 h3
          rw [k2'] at h1 h4
          have hun : unseen g.rev ⟨s.obv, s.rev, []⟩ < n := by
            exact Nat.lt_of_le_of_lt (List.length_filter_le _ _) hn
          obtain ⟨A, B⟩ := hFl.all hun
          refine ⟨h1, h2, fun r => F r || decide (r ∈ s2.seen), fun r hr => ?_, fun a ha hf r hr => ?_⟩
          · simp only [Bool.or_eq_true, decide_eq_true_eq] at hr ⊢
            rcases hr with hr | hr
            · obtain ⟨o', e1, e2⟩ := h3 r hr
              exact ⟨o', e1, fun x hx => .inl (e2 x hx)⟩
            · rcases B r hr with hr' | ⟨o', e1, e2⟩
              · cases hr'
              · exact ⟨o', e1, fun x hx => .inr (e2 x hx)⟩
          · simp only [Bool.or_eq_true, decide_eq_true_eq]
            rcases List.mem_cons.1 ha with rfl | ha
            · exact .inr (A r hr)
            · exact .inl (h4 a ha hf r hr)
        · simp at h
/-- No search succeeds any more: the matching has the most pairs, and what the searches reached gives a cover. -/
structure Great (g : Graph) (s : St) : Prop where
  good : Good g s
  cut : ∃ F : Int → Bool, Closed (nbr g) s.rev (fun r => F r = true) ∧ ∀ o ∈ g.obv, lookM s.obv o = none → ∀ r ∈ nbr g o, F r = true
theorem greatF_great {g : Graph} (hg : graphB g = true) {n : Nat} (hn : g.rev.length < n) : ∀ (k : Nat) (s : St), Good g s → 33 - s.rev.length ≤ k → Great g (greatF (nbr g) n g.obv k s)
  | 0, s, hG, hk => by have := hG.lenR hg; omega
  | k + 1, s, hG, hk => by
    rw [greatF]
    cases hq : moreL (nbr g) n g.obv s with
    | mk b s' =>
      cases b
      · obtain ⟨h1, h2, F, h3, h4⟩ := moreL_false hg hn hG hq
        simp only
        refine ⟨?_, F, by rw [h2]; exact h3, by rw [h1]; exact h4⟩
        have := hG.seen s'.seen
        rw [← h1, ← h2] at this
        exact this
      · obtain ⟨h1, h2, _⟩ := moreL_true hg hG hq
        exact greatF_great hg hn k s' h1 (by omega)
end Go.Proofs.YtcpobcfncmcakaaGreat
/- The matching as a list, the reference's single pass, plain. No program in sight, no condition. -/
namespace Go.Proofs.YtcpobcfncmcakaaGreat
open Go.RowKit

def pairM (p : Int × Int) : Pair := ⟨p.1, p.2⟩
/-- The pairs of a map, in the order of pairs. -/
structure ListOf (m : List (Int × Int)) (ys : List Pair) : Prop where
  perm : ys.Perm (m.map pairM)
  asc : ys.Pairwise ltP
theorem listOf_byPair {m : List (Int × Int)} (hn : (m.map Prod.fst).Nodup) {zs ys : List Pair} (h1 : zs.Perm (m.map pairM)) (h : ByPair zs ys) : ListOf m ys := by
  refine ⟨h.1.trans h1, ?_⟩
  have hnd : ys.Nodup := by
    refine (h.1.trans h1).nodup_iff.2 ?_
    refine nodup_map _ (List.Pairwise.of_map Prod.fst (fun a b h e => h (by rw [e])) hn) fun p hp q hq e => ?_
    simp only [pairM, Pair.mk.injEq] at e
    exact Prod.ext e.1 e.2
  refine (h.2.and hnd).imp fun {a b} hab => ?_
  obtain ⟨h2, h3⟩ := hab
  unfold ltP at *
  by_cases e1 : a.a = b.a
  · by_cases e2 : a.b = b.b
    · exact absurd (by cases a; cases b; simp_all) h3
    · omega
  · omega
theorem ListOf.unique {m : List (Int × Int)} {ys zs : List Pair} (h : ListOf m ys) (k : ListOf m zs) : ys = zs :=
  ord_unique ltP_asym h.asc k.asc fun n => by rw [h.perm.mem_iff, k.perm.mem_iff]
theorem ListOf.len {m : List (Int × Int)} {ys : List Pair} (h : ListOf m ys) : ys.length = m.length := by rw [h.perm.length_eq, List.length_map]
theorem ListOf.mem {m : List (Int × Int)} {ys : List Pair} (h : ListOf m ys) (hn : (m.map Prod.fst).Nodup) {p : Pair} : p ∈ ys ↔ lookM m p.a = some p.b := by
  rw [h.perm.mem_iff, List.mem_map, lookM_mem hn]
  constructor
  · rintro ⟨q, hq, rfl⟩; exact hq
  · intro hq; exact ⟨_, hq, rfl⟩
theorem ListOf.isMat {g : Graph} (hg : graphB g = true) {s : St} (hG : Good g s) {ys : List Pair} (h : ListOf s.obv ys) : IsMat g ys := by
  refine ⟨fun p hp => ?_, ?_, ?_⟩
  · have h1 := (h.mem hG.nodO).1 hp
    exact (nbr_mem hg).1 (hG.mate.link _ _ (hG.mate.fwd _ _ h1))
  · rw [List.pairwise_map]
    refine h.asc.imp_of_mem fun {a b} ha hb hab => ?_
    rcases hab with hab | ⟨e1, e2⟩
    · exact hab
    · have h1 := (h.mem hG.nodO).1 ha
      have h2 := (h.mem hG.nodO).1 hb
      rw [e1, h2] at h1
      have := Option.some.inj h1
      omega
  · refine nodup_map _ ?_ fun p hp q hq e => ?_
    · exact h.asc.imp fun hab e => by subst e; exact ltP_asym hab hab
    · have h1 := hG.mate.fwd _ _ ((h.mem hG.nodO).1 hp)
      have h2 := hG.mate.fwd _ _ ((h.mem hG.nodO).1 hq)
      rw [e, h2] at h1
      cases p; cases q
      simp_all
theorem Great.opt {g : Graph} (hg : graphB g = true) {s : St} (h : Great g s) {ys : List Pair} (hy : ListOf s.obv ys) : Opt g s.rev.length := by
  obtain ⟨F, h1, h2⟩ := h.cut
  exact ⟨ys, coverL g s.obv F, hy.isMat hg h.good, coverL_cov hg h.good.mate h1 h2, by rw [hy.len, h.good.len], coverL_len hg h.good.mate h.good.nodR h1⟩
/-- The pairs, sorted. -/
def sortM (m : List (Int × Int)) : List Pair := (m.map pairM).mergeSort fun x y => decide (¬ ltP y x)
theorem sortM_of {m : List (Int × Int)} (hn : (m.map Prod.fst).Nodup) : ListOf m (sortM m) := by
  refine listOf_byPair hn (List.Perm.refl _) ⟨List.mergeSort_perm _ _, ?_⟩
  refine (List.pairwise_mergeSort (le := fun x y : Pair => decide (¬ ltP y x)) (fun a b c h1 h2 => ?_) (fun a b => ?_) _).imp fun h => by simpa using h
  · simp only [decide_eq_true_eq] at *
    unfold ltP at *
    omega
  · simp only [Bool.or_eq_true, decide_eq_true_eq]
    unfold ltP
    omega

/-! ### The reference: each obverse once -/
def passF (N : Int → List Int) (n : Nat) : List Int → St → Nat → Nat × St
  | [], s, k => (k, s)
  | o :: os, s, k => match augF N n o ⟨s.obv, s.rev, []⟩ with
    | (true, s') => passF N n os s' (k + 1)
    | (false, s') => passF N n os s' k
theorem passF_great {g : Graph} (hg : graphB g = true) {n : Nat} (hn : g.rev.length < n) : ∀ (os : List Int) (s : St) (k : Nat) (dn : List Int) (F : Int → Bool), dn ++ os = g.obv → Good g s → (∀ a, (lookM s.obv a).isSome = true → a ∈ dn) →
    Closed (nbr g) s.rev (fun r => F r = true) → (∀ o ∈ dn, lookM s.obv o = none → ∀ r ∈ nbr g o, F r = true) → k = s.rev.length →
    Great g (passF (nbr g) n os s k).2 ∧ (passF (nbr g) n os s k).1 = (passF (nbr g) n os s k).2.rev.length
  | [], s, k, dn, F, hd, hG, hm, hC, hF, hk => by
    rw [List.append_nil] at hd
    subst hd
    exact ⟨⟨hG, F, hC, hF⟩, hk⟩
  | o :: os, s, k, dn, F, hd, hG, hm, hC, hF, hk => by
    have hd' : (dn ++ [o]) ++ os = g.obv := by simpa using hd
    have hok := (graphB_iff g).1 hg
    have hnd : g.obv.Nodup := (ascB_asc hok.ao).imp fun h e => by omega
    have hno : o ∉ dn := fun h => by
      rw [← hd, List.nodup_append] at hnd
      exact hnd.2.2 o h o (by simp) rfl
    have hf : lookM s.obv o = none := by
      cases hl : lookM s.obv o with
      | none => rfl
      | some x => exact absurd (hm o (by rw [hl]; rfl)) hno
    rw [passF]
    cases hq : augF (nbr g) n o ⟨s.obv, s.rev, []⟩ with
    | mk b s2 =>
      cases b
      · simp only
        have hFl := augF_fail (nbr_rev hg) n o _ _ hq
        have k1' : s2.rev = s.rev := hFl.rev
        have k2' : s2.obv = s.obv := hFl.obv
        have hG2 : Good g s2 := by
          have := hG.seen s2.seen
          rw [← k1', ← k2'] at this
          exact this
        obtain ⟨A, B⟩ := hFl.all (Nat.lt_of_le_of_lt (List.length_filter_le _ _) hn)
        refine passF_great hg hn os s2 k (dn ++ [o]) (fun r => F r || decide (r ∈ s2.seen)) hd' hG2 (fun a ha => ?_) (fun r hr => ?_) (fun a ha hf' r hr => ?_) (by rw [k1']; exact hk)
        · rw [k2'] at ha
          exact List.mem_append_left _ (hm a ha)
        · rw [k1']
          simp only [Bool.or_eq_true, decide_eq_true_eq] at hr ⊢
          rcases hr with hr | hr
          · obtain ⟨o', e1, e2⟩ := hC r hr
            exact ⟨o', e1, fun x hx => .inl (e2 x hx)⟩
          · rcases B r hr with hr' | ⟨o', e1, e2⟩
            · cases hr'
            · exact ⟨o', e1, fun x hx => .inr (e2 x hx)⟩
        · rw [k2'] at hf'
          simp only [Bool.or_eq_true, decide_eq_true_eq]
          rcases List.mem_append.1 ha with ha | ha
          · exact .inl (hF a ha hf' r hr)
          · simp at ha
            subst ha
            exact .inr (A r hr)
      · simp only
        obtain ⟨hG', hD⟩ := aug_good hg hG hf hq
        have hkeep := (augF_closed (N := nbr g) (F := fun r => F r = true) n o ⟨s.obv, s.rev, []⟩ hC).2 s2 hq
        refine passF_great hg hn os s2 (k + 1) (dn ++ [o]) F hd' hG' (fun a ha => ?_) (fun r hr => ?_) (fun a ha hf' r hr => ?_) (by rw [hD.len, hk])
        · by_cases e : a = o
          · rw [e]; simp
          · rw [hD.dom a e] at ha
            exact List.mem_append_left _ (hm a ha)
        · obtain ⟨o', e1, e2⟩ := hC r hr
          exact ⟨o', by rw [hkeep r hr]; exact e1, e2⟩
        · have hne : a ≠ o := fun e => by
            obtain ⟨r', _, h2, _⟩ := hD.new
            rw [e, h2] at hf'
            cases hf'
          rcases List.mem_append.1 ha with ha | ha
          · have h3 := hD.dom a hne
            rw [hf'] at h3
            have h4 : lookM s.obv a = none := by
              cases hl : lookM s.obv a with
              | none => rfl
              | some x => rw [show (⟨s.obv, s.rev, []⟩ : St).obv = s.obv from rfl, hl] at h3; cases h3
            exact hF a ha h4 r hr
          · simp at ha
            exact absurd ha hne
theorem pass_opt {g : Graph} (hg : graphB g = true) {n : Nat} (hn : g.rev.length < n) : Opt g (passF (nbr g) n g.obv ⟨[], [], []⟩ 0).1 := by
  obtain ⟨h1, h2⟩ := passF_great hg hn g.obv ⟨[], [], []⟩ 0 [] (fun _ => false) rfl (good_empty g) (fun a h => by simp [lookM] at h) (fun r h => by simp at h) (by simp) rfl
  rw [h2]
  exact h1.opt hg (sortM_of h1.good.nodO)
end Go.Proofs.YtcpobcfncmcakaaGreat
