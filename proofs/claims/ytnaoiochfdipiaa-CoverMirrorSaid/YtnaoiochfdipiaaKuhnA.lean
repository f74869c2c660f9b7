/- Alternating paths, plain: the search as a function of lists; what it leaves when it fails and when it succeeds. No program, no condition. -/
import Derived.Test.YtnaoiochfdipiaaMapK
namespace Go.Proofs.Ytnaoiochfdipiaa
open Go.RowKit

/-- A matching (both ways), and the reverses that were looked at. -/
structure St where
  obv : List (Int × Int)
  rev : List (Int × Int)
  seen : List Int
def St.see (s : St) (r : Int) : St := ⟨s.obv, s.rev, s.seen ++ [r]⟩
def St.set (s : St) (o r : Int) : St := ⟨putM s.obv o r, putM s.rev r o, s.seen⟩
/-- The search goes through the partners of o. -/
def augL (rec : Int → St → Bool × St) (o : Int) : List Int → St → Bool × St
  | [], s => (false, s)
  | r :: rs, s =>
    if r ∈ s.seen then augL rec o rs s else
      match lookM s.rev r with
      | none => (true, (s.see r).set o r)
      | some o2 =>
        match rec o2 (s.see r) with
        | (true, s2) => (true, s2.set o r)
        | (false, s2) => augL rec o rs s2
def augF (N : Int → List Int) : Nat → Int → St → Bool × St
  | 0, _, s => (false, s)
  | n + 1, o, s => augL (augF N n) o (N o) s

def unseen (R : List Int) (s : St) : Nat := (R.filter fun r => decide (r ∉ s.seen)).length
theorem unseen_see {R : List Int} {s : St} {r : Int} (hr : r ∈ R) (hs : r ∉ s.seen) : unseen R (s.see r) < unseen R s := by
  unfold unseen St.see
  have h1 : (R.filter fun x => decide (x ∉ s.seen ++ [r])) = (R.filter fun x => decide (x ∉ s.seen)).filter fun x => decide (x ≠ r) := by
    rw [List.filter_filter]
    refine List.filter_congr fun x _ => ?_
    rw [Bool.eq_iff_iff]
    simp
    grind
  simp only
  rw [h1]
  have hm : r ∈ R.filter fun x => decide (x ∉ s.seen) := by simp [hr, hs]
  generalize (R.filter fun x => decide (x ∉ s.seen)) = L at hm
  induction L with
  | nil => cases hm
  | cons a L ih =>
    by_cases ha : a = r
    · subst ha
      rw [List.filter_cons_of_neg (by simp)]
      have := List.length_filter_le (fun x => decide (x ≠ a)) L
      simp only [List.length_cons]
      omega
    · rw [List.filter_cons_of_pos (by simpa using ha), List.length_cons, List.length_cons]
      have := ih (by rcases List.mem_cons.1 hm with h | h; exact absurd h.symm ha; exact h)
      omega
theorem unseen_mono {R : List Int} {s s' : St} (h : ∀ r ∈ s.seen, r ∈ s'.seen) : unseen R s' ≤ unseen R s := by
  unfold unseen
  induction R with
  | nil => simp
  | cons a R ih =>
    by_cases h1 : a ∈ s.seen
    · rw [List.filter_cons_of_neg (by simp [h a h1]), List.filter_cons_of_neg (by simp [h1])]
      exact ih
    · rw [List.filter_cons_of_pos (p := fun r => decide (r ∉ s.seen)) (by simpa using h1)]
      by_cases h2 : a ∈ s'.seen
      · rw [List.filter_cons_of_neg (by simpa using h2), List.length_cons]; omega
      · rw [List.filter_cons_of_pos (by simpa using h2), List.length_cons, List.length_cons]; omega

/-- What a failed search leaves. -/
structure Failed (N : Int → List Int) (R : List Int) (n : Nat) (L : List Int) (s s' : St) : Prop where
  obv : s'.obv = s.obv
  rev : s'.rev = s.rev
  sub : ∀ r ∈ s.seen, r ∈ s'.seen
  all : unseen R s < n → (∀ r ∈ L, r ∈ s'.seen) ∧ ∀ r ∈ s'.seen, r ∈ s.seen ∨ ∃ o, lookM s.rev r = some o ∧ ∀ x ∈ N o, x ∈ s'.seen
theorem augL_fail {N : Int → List Int} {R : List Int} (hR : ∀ o, ∀ r ∈ N o, r ∈ R) {n : Nat} {rec : Int → St → Bool × St} (hrec : ∀ o s s', rec o s = (false, s') → Failed N R n (N o) s s') (o : Int) :
    ∀ (L : List Int) (s s' : St), (∀ r ∈ L, r ∈ R) → augL rec o L s = (false, s') → Failed N R (n + 1) L s s'
  | [], s, s', _, h => by
    simp only [augL, Prod.mk.injEq] at h
    obtain ⟨_, rfl⟩ := h
    exact ⟨rfl, rfl, fun _ h => h, fun _ => ⟨by simp, fun r hr => .inl hr⟩⟩
  | r :: rs, s, s', hL, h => by
    have hL' : ∀ x ∈ rs, x ∈ R := fun x hx => hL x (List.mem_cons_of_mem _ hx)
    rw [augL] at h
    by_cases hs : r ∈ s.seen
    · rw [if_pos hs] at h
      have H := augL_fail hR hrec o rs s s' hL' h
      refine ⟨H.obv, H.rev, H.sub, fun hu => ⟨fun x hx => ?_, (H.all hu).2⟩⟩
      rcases List.mem_cons.1 hx with rfl | hx
      · exact H.sub _ hs
      · exact (H.all hu).1 x hx
    · rw [if_neg hs] at h
      cases hl : lookM s.rev r with
      | none => simp [hl] at h
      | some o2 =>
        cases hq : rec o2 (s.see r) with
        | mk b s2 =>
          simp only [hl, hq] at h
          cases b
          · simp only at h
            have H1 := hrec o2 _ _ hq
            have H2 := augL_fail hR hrec o rs s2 s' hL' h
            have hsub1 : ∀ x ∈ s.seen, x ∈ s2.seen := fun x hx => H1.sub x (by simp [St.see, hx])
            refine ⟨H2.obv.trans H1.obv, H2.rev.trans H1.rev, fun x hx => H2.sub x (hsub1 x hx), fun hu => ?_⟩
            have hr : r ∈ R := hL r (by simp)
            have hu1 : unseen R (s.see r) < n := by have := unseen_see hr hs; omega
            have hu2 : unseen R s2 < n + 1 := by have := unseen_mono (R := R) hsub1; omega
            obtain ⟨A1, B1⟩ := H1.all hu1
            obtain ⟨A2, B2⟩ := H2.all hu2
            have hrev : s2.rev = s.rev := H1.rev
            refine ⟨fun x hx => ?_, fun x hx => ?_⟩
            · rcases List.mem_cons.1 hx with rfl | hx
              · exact H2.sub _ (H1.sub _ (by simp [St.see]))
              · exact A2 x hx
            · rcases B2 x hx with h3 | ⟨o', h3, h4⟩
              · rcases B1 x h3 with h5 | ⟨o', h5, h6⟩
                · simp only [St.see, List.mem_append, List.mem_singleton] at h5
                  rcases h5 with h5 | rfl
                  · exact .inl h5
                  · exact .inr ⟨o2, hl, fun y hy => H2.sub y (A1 y hy)⟩
                · exact .inr ⟨o', h5, fun y hy => H2.sub y (h6 y hy)⟩
              · rw [hrev] at h3
                exact .inr ⟨o', h3, h4⟩
          · simp at h
theorem augF_fail {N : Int → List Int} {R : List Int} (hR : ∀ o, ∀ r ∈ N o, r ∈ R) : ∀ (n : Nat) (o : Int) (s s' : St), augF N n o s = (false, s') → Failed N R n (N o) s s'
  | 0, o, s, s', h => by
    simp only [augF, Prod.mk.injEq] at h
    obtain ⟨_, rfl⟩ := h
    exact ⟨rfl, rfl, fun _ h => h, fun h => absurd h (by omega)⟩
  | n + 1, o, s, s', h => augL_fail hR (augF_fail hR n) o (N o) s s' (hR o) h

/-- The two maps of a matching are one another's inverses, along links. -/
structure Mate (N : Int → List Int) (s : St) : Prop where
  fwd : ∀ a r, lookM s.obv a = some r → lookM s.rev r = some a
  bwd : ∀ a r, lookM s.rev r = some a → lookM s.obv a = some r
  link : ∀ a r, lookM s.rev r = some a → r ∈ N a
/-- What a search that succeeded leaves. -/
structure Done (N : Int → List Int) (o : Int) (s s' : St) : Prop where
  new : ∃ r, r ∉ s.seen ∧ lookM s'.obv o = some r ∧ lookM s'.rev r = some o ∧ ∀ x, lookM s'.rev x = some o → x = r ∨ x ∈ s.seen
  fwd : ∀ a r, a ≠ o → lookM s'.obv a = some r → lookM s'.rev r = some a
  bwd : ∀ a r, a ≠ o → lookM s'.rev r = some a → lookM s'.obv a = some r
  link : ∀ a r, lookM s'.rev r = some a → r ∈ N a
  old : ∀ r ∈ s.seen, lookM s'.rev r = lookM s.rev r
  rest : ∀ a, a ≠ o → (∀ r, lookM s.obv a = some r → r ∈ s.seen) → lookM s'.obv a = lookM s.obv a
  dom : ∀ a, a ≠ o → (lookM s'.obv a).isSome = (lookM s.obv a).isSome
  domR : ∀ r, (lookM s.rev r).isSome = true → (lookM s'.rev r).isSome = true
  len : s'.rev.length = s.rev.length + 1
  lenO : s'.obv.length = s.obv.length + (if (lookM s.obv o).isSome = true then 0 else 1)
  sub : ∀ r ∈ s.seen, r ∈ s'.seen
theorem isSome_mem {κ β : Type} [DecidableEq κ] {m : List (κ × β)} {x : κ} : (lookM m x).isSome = true ↔ x ∈ m.map Prod.fst := by
  cases h : lookM m x with
  | none => simp [lookM_none.1 h]
  | some y =>
    simp
    exact ⟨y, lookM_some h⟩
theorem putM_len' {κ β : Type} [DecidableEq κ] (m : List (κ × β)) (x : κ) (y : β) : (putM m x y).length = m.length + (if (lookM m x).isSome = true then 0 else 1) := by
  rw [putM_len]
  by_cases h : x ∈ m.map Prod.fst
  · rw [if_pos h, if_pos (isSome_mem.2 h), Nat.add_zero]
  · rw [if_neg h, if_neg (fun h' => h (isSome_mem.1 h'))]
end Go.Proofs.Ytnaoiochfdipiaa
