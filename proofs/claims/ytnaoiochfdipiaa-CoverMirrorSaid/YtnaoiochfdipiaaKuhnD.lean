/- The searches one after the other, plain: the program's and the reference's both end in a matching with the most pairs. No program in sight, no condition. -/
import Derived.Test.YtnaoiochfdipiaaKuhnC
namespace Go.Proofs.Ytnaoiochfdipiaa
open Go.RowKit

/-- The maps of a graph's matching. -/
structure Good (g : Graph) (s : St) : Prop where
  mate : Mate (nbr g) s
  nodR : (s.rev.map Prod.fst).Nodup
  nodO : (s.obv.map Prod.fst).Nodup
theorem good_empty (g : Graph) : Good g ⟨[], [], []⟩ := ⟨⟨fun a r h => by simp [lookM] at h, fun a r h => by simp [lookM] at h, fun a r h => by simp [lookM] at h⟩, by simp, by simp⟩
theorem Good.seen {g : Graph} {s : St} (h : Good g s) (l : List Int) : Good g ⟨s.obv, s.rev, l⟩ := ⟨⟨h.mate.fwd, h.mate.bwd, h.mate.link⟩, h.nodR, h.nodO⟩
theorem Good.keysR {g : Graph} {s : St} (hg : graphB g = true) (h : Good g s) : ∀ r ∈ s.rev.map Prod.fst, r ∈ g.rev := fun r hr => by
  obtain ⟨a, ha⟩ := Option.isSome_iff_exists.1 (isSome_mem.2 hr)
  exact nbr_rev hg a r (h.mate.link a r ha)
theorem Good.keysO {g : Graph} {s : St} (hg : graphB g = true) (h : Good g s) : ∀ o ∈ s.obv.map Prod.fst, o ∈ g.obv := fun o ho => by
  obtain ⟨r, hr⟩ := Option.isSome_iff_exists.1 (isSome_mem.2 ho)
  exact nbr_obv hg (h.mate.link o r (h.mate.fwd o r hr))
theorem Good.lenR {g : Graph} {s : St} (hg : graphB g = true) (h : Good g s) : s.rev.length ≤ 32 := by
  have h1 := nodup_len h.nodR (h.keysR hg)
  have h2 := ((graphB_iff g).1 hg).lr
  simp at h1
  omega
theorem Good.len {g : Graph} {s : St} (h : Good g s) : s.obv.length = s.rev.length := by
  have h1 : (s.obv.map fun p => (lookM s.obv p.1).getD 0).length = (s.rev.map Prod.fst).length := by
    refine nodup_same (nodup_map _ (List.Pairwise.of_map Prod.fst (fun a b h e => h (by rw [e])) h.nodO) fun p hp q hq e => ?_) h.nodR fun r => ?_
    · have e1 := (lookM_mem h.nodO).2 (show (p.1, p.2) ∈ s.obv from hp)
      have e2 := (lookM_mem h.nodO).2 (show (q.1, q.2) ∈ s.obv from hq)
      simp only [e1, e2, Option.getD_some] at e
      have e3 := h.mate.fwd _ _ e1
      have e4 := h.mate.fwd _ _ e2
      rw [e] at e3
      rw [e3] at e4
      exact Prod.ext (Option.some.inj e4) e
    · simp only [List.mem_map]
      constructor
      · rintro ⟨p, hp, rfl⟩
        have e1 := (lookM_mem h.nodO).2 (show (p.1, p.2) ∈ s.obv from hp)
        rw [e1]
        exact ⟨_, lookM_some (h.mate.fwd _ _ e1), rfl⟩
      · rintro ⟨p, hp, rfl⟩
        have e1 := (lookM_mem h.nodR).2 (show (p.1, p.2) ∈ s.rev from hp)
        have e2 := h.mate.bwd _ _ e1
        exact ⟨_, lookM_some e2, by simp only [e2]; rfl⟩
  simpa using h1

theorem augL_nod {rec : Int → St → Bool × St} (hrec : ∀ o s, (s.rev.map Prod.fst).Nodup → (s.obv.map Prod.fst).Nodup → ((rec o s).2.rev.map Prod.fst).Nodup ∧ ((rec o s).2.obv.map Prod.fst).Nodup) (o : Int) :
    ∀ (L : List Int) (s : St), (s.rev.map Prod.fst).Nodup → (s.obv.map Prod.fst).Nodup → ((augL rec o L s).2.rev.map Prod.fst).Nodup ∧ ((augL rec o L s).2.obv.map Prod.fst).Nodup
  | [], s, h1, h2 => ⟨h1, h2⟩
  | r :: rs, s, h1, h2 => by
    rw [augL]
    by_cases hs : r ∈ s.seen
    · rw [if_pos hs]; exact augL_nod hrec o rs s h1 h2
    · rw [if_neg hs]
      cases hl : lookM s.rev r with
      | none => exact ⟨putM_nodup h1 _ _, putM_nodup h2 _ _⟩
      | some o2 =>
        have h3 := hrec o2 (s.see r) h1 h2
        cases hq : rec o2 (s.see r) with
        | mk b s2 =>
          rw [hq] at h3
          simp only [hq]
          cases b
          · exact augL_nod hrec o rs s2 h3.1 h3.2
          · exact ⟨putM_nodup h3.1 _ _, putM_nodup h3.2 _ _⟩
theorem augF_nod {N : Int → List Int} : ∀ (n : Nat) (o : Int) (s : St), (s.rev.map Prod.fst).Nodup → (s.obv.map Prod.fst).Nodup → ((augF N n o s).2.rev.map Prod.fst).Nodup ∧ ((augF N n o s).2.obv.map Prod.fst).Nodup
  | 0, _, _, h1, h2 => ⟨h1, h2⟩
  | n + 1, o, s, h1, h2 => augL_nod (augF_nod n) o (N o) s h1 h2
theorem aug_good {g : Graph} (hg : graphB g = true) {n : Nat} {o : Int} {s s' : St} (h : Good g s) (hf : lookM s.obv o = none) (hq : augF (nbr g) n o ⟨s.obv, s.rev, []⟩ = (true, s')) : Good g s' ∧ Done (nbr g) o ⟨s.obv, s.rev, []⟩ s' := by
  have hM := (h.seen []).mate
  have hD := augF_done (nbr_rev hg) n o _ s' hM (fun x hx => by have := h.mate.bwd o x hx; rw [hf] at this; cases this) hq
  have hN := augF_nod (N := nbr g) n o ⟨s.obv, s.rev, []⟩ h.nodR h.nodO
  rw [hq] at hN
  exact ⟨⟨hD.mate hf hM, hN.1, hN.2⟩, hD⟩

/-! ### The program: one more pair, as often as there is one -/
def moreL (N : Int → List Int) (n : Nat) : List Int → St → Bool × St
  | [], s => (false, s)
  | o :: os, s =>
    if (lookM s.obv o).isSome = true then moreL N n os s else
      match augF N n o ⟨s.obv, s.rev, []⟩ with
      | (true, s') => (true, s')
      | (false, s') => moreL N n os s'
def greatF (N : Int → List Int) (n : Nat) (os : List Int) : Nat → St → St
  | 0, s => s
  | k + 1, s => match moreL N n os s with
    | (true, s') => greatF N n os k s'
    | (false, s') => s'
theorem moreL_true {g : Graph} (hg : graphB g = true) {n : Nat} : ∀ {os : List Int} {s s' : St}, Good g s → moreL (nbr g) n os s = (true, s') →
    Good g s' ∧ s'.rev.length = s.rev.length + 1 ∧ (∀ a, (lookM s.obv a).isSome = true → (lookM s'.obv a).isSome = true) ∧ ∀ r, (lookM s.rev r).isSome = true → (lookM s'.rev r).isSome = true
  | [], s, s', _, h => by simp [moreL] at h
  | o :: os, s, s', hG, h => by
    rw [moreL] at h
    by_cases hs : (lookM s.obv o).isSome = true
    · rw [if_pos hs] at h
      exact moreL_true hg hG h
    · rw [if_neg hs] at h
      have hf : lookM s.obv o = none := by cases hl : lookM s.obv o with
        | none => rfl
        | some x => rw [hl] at hs; simp at hs
      cases hq : augF (nbr g) n o ⟨s.obv, s.rev, []⟩ with
      | mk b s2 =>
        simp only [hq] at h
        cases b
        · simp only at h
          obtain ⟨k1, k2⟩ := augF_keep _ _ _ _ hq
          have k1' : s2.rev = s.rev := k1
          have k2' : s2.obv = s.obv := k2
          have hG2 : Good g s2 := by
            have := hG.seen s2.seen
            rw [← k1', ← k2'] at this
            exact this
          have := moreL_true hg hG2 h
          rwa [k1', k2'] at this
        · simp only [Prod.mk.injEq, true_and] at h
          subst h
          obtain ⟨hG', hD⟩ := aug_good hg hG hf hq
          refine ⟨hG', hD.len, fun a ha => ?_, fun r hr => hD.domR r hr⟩
          have hne : a ≠ o := fun e => by rw [e, hf] at ha; cases ha
          rw [hD.dom a hne]; exact ha
theorem moreL_false {g : Graph} (hg : graphB g = true) {n : Nat} (hn : g.rev.length < n) : ∀ {os : List Int} {s s' : St}, Good g s → moreL (nbr g) n os s = (false, s') →
    s'.obv = s.obv ∧ s'.rev = s.rev ∧ ∃ F : Int → Bool, Closed (nbr g) s.rev (fun r => F r = true) ∧ ∀ o ∈ os, lookM s.obv o = none → ∀ r ∈ nbr g o, F r = true
  | [], s, s', _, h => by
    simp only [moreL, Prod.mk.injEq, true_and] at h
    subst h
    exact ⟨rfl, rfl, fun _ => false, fun r hr => by simp at hr, by simp⟩
  | o :: os, s, s', hG, h => by
    rw [moreL] at h
    by_cases hs : (lookM s.obv o).isSome = true
    · rw [if_pos hs] at h
      obtain ⟨h1, h2, F, h3, h4⟩ := moreL_false hg hn hG h
      refine ⟨h1, h2, F, h3, fun a ha hf => ?_⟩
      rcases List.mem_cons.1 ha with rfl | ha
      · rw [hf] at hs; simp at hs
      · exact h4 a ha hf
    · rw [if_neg hs] at h
      cases hq : augF (nbr g) n o ⟨s.obv, s.rev, []⟩ with
      | mk b s2 =>
        simp only [hq] at h
        cases b
        · simp only at h
          have hFl := augF_fail (nbr_rev hg) n o _ _ hq
          have k1' : s2.rev = s.rev := hFl.rev
          have k2' : s2.obv = s.obv := hFl.obv
          have hG2 : Good g s2 := by
            have := hG.seen s2.seen
            rw [← k1', ← k2'] at this
            exact this
          obtain ⟨h1, h2, F, h3, h4⟩ := moreL_false hg hn hG2 h
          rw [k1'] at h2 h3
          rw [k2'] at h1 h4
          have hun : unseen g.rev ⟨s.obv, s.rev, []⟩ < n := by
            exact Nat.lt_of_le_of_lt (List.length_filter_le _ _) hn
          obtain ⟨A, B⟩ := hFl.all hun
          refine ⟨h1, h2, fun r => F r || decide (r ∈ s2.seen), fun r hr => ?_, fun a ha hf r hr => ?_⟩
          · simp only [Bool.or_eq_true, decide_eq_true_eq] at hr ⊢
            rcases hr with hr | hr
            · obtain ⟨o', e1, e2⟩ := h3 r hr
              exact ⟨o', e1, fun x hx => .inl (e2 x hx)⟩
            · rcases B r hr with hr' | ⟨o', e1, e2⟩
              · cases hr'
              · exact ⟨o', e1, fun x hx => .inr (e2 x hx)⟩
          · simp only [Bool.or_eq_true, decide_eq_true_eq]
            rcases List.mem_cons.1 ha with rfl | ha
            · exact .inr (A r hr)
            · exact .inl (h4 a ha hf r hr)
        · simp at h
/-- No search succeeds any more: the matching has the most pairs, and what the searches reached gives a cover. -/
structure Great (g : Graph) (s : St) : Prop where
  good : Good g s
  cut : ∃ F : Int → Bool, Closed (nbr g) s.rev (fun r => F r = true) ∧ ∀ o ∈ g.obv, lookM s.obv o = none → ∀ r ∈ nbr g o, F r = true
theorem greatF_great {g : Graph} (hg : graphB g = true) {n : Nat} (hn : g.rev.length < n) : ∀ (k : Nat) (s : St), Good g s → 33 - s.rev.length ≤ k → Great g (greatF (nbr g) n g.obv k s)
  | 0, s, hG, hk => by have := hG.lenR hg; omega
  | k + 1, s, hG, hk => by
    rw [greatF]
    cases hq : moreL (nbr g) n g.obv s with
    | mk b s' =>
      cases b
      · obtain ⟨h1, h2, F, h3, h4⟩ := moreL_false hg hn hG hq
        simp only
        refine ⟨?_, F, by rw [h2]; exact h3, by rw [h1]; exact h4⟩
        have := hG.seen s'.seen
        rw [← h1, ← h2] at this
        exact this
      · obtain ⟨h1, h2, _⟩ := moreL_true hg hG hq
        exact greatF_great hg hn k s' h1 (by omega)
end Go.Proofs.Ytnaoiochfdipiaa
