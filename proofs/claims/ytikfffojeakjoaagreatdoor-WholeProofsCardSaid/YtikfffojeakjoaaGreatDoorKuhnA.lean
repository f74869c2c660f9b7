/- Alternating paths, plain: the search as a function of lists; what it leaves when it fails and when it succeeds. No program, no condition. -/
import Derived.Test.YtikfffojeakjoaaGreatDoorMapK
import Derived.Test.YtikfffojeakjoaaGreatDoorReadB
import Derived.Test.YtikfffojeakjoaaGreatDoorPairA
namespace Go.Proofs.YtikfffojeakjoaaGreatDoor
open Go.RowKit

/-- A matching (both ways), and the reverses that were looked at. -/
structure St where
  obv : List (Int × Int)
  rev : List (Int × Int)
  seen : List Int
def St.see (s : St) (r : Int) : St := ⟨s.obv, s.rev, s.seen ++ [r]⟩
def St.set (s : St) (o r : Int) : St := ⟨putM s.obv o r, putM s.rev r o, s.seen⟩
/-- The search goes through the partners of o. -/
def augL (rec : Int → St → Bool × St) (o : Int) : List Int → St → Bool × St
  | [], s => (false, s)
  | r :: rs, s =>
    if r ∈ s.seen then augL rec o rs s else
      match lookM s.rev r with
      | none => (true, (s.see r).set o r)
      | some o2 =>
        match rec o2 (s.see r) with
        | (true, s2) => (true, s2.set o r)
        | (false, s2) => augL rec o rs s2
def augF (N : Int → List Int) : Nat → Int → St → Bool × St
  | 0, _, s => (false, s)
  | n + 1, o, s => augL (augF N n) o (N o) s

def unseen (R : List Int) (s : St) : Nat := (R.filter fun r => decide (r ∉ s.seen)).length
theorem unseen_see {R : List Int} {s : St} {r : Int} (hr : r ∈ R) (hs : r ∉ s.seen) : unseen R (s.see r) < unseen R s := by
  unfold unseen St.see
  have h1 : (R.filter fun x => decide (x ∉ s.seen ++ [r])) = (R.filter fun x => decide (x ∉ s.seen)).filter fun x => decide (x ≠ r) := by
    rw [List.filter_filter]
    refine List.filter_congr fun x _ => ?_
    rw [Bool.eq_iff_iff]
    simp
    grind
  simp only
  rw [h1]
  have hm : r ∈ R.filter fun x => decide (x ∉ s.seen) := by simp [hr, hs]
  generalize (R.filter fun x => decide (x ∉ s.seen)) = L at hm
  induction L with
  | nil => cases hm
  | cons a L ih =>
    by_cases ha : a = r
    · subst ha
      rw [List.filter_cons_of_neg (by simp)]
      have := List.length_filter_le (fun x => decide (x ≠ a)) L
      simp only [List.length_cons]
      omega
    · rw [List.filter_cons_of_pos (by simpa using ha), List.length_cons, List.length_cons]
      have := ih (by rcases List.mem_cons.1 hm with h | h; exact absurd h.symm ha; exact h)
      omega
theorem unseen_mono {R : List Int} {s s' : St} (h : ∀ r ∈ s.seen, r ∈ s'.seen) : unseen R s' ≤ unseen R s := by
  unfold unseen
  induction R with
  | nil => simp
  | cons a R ih =>
    by_cases h1 : a ∈ s.seen
    · rw [List.filter_cons_of_neg (by simp [h a h1]), List.filter_cons_of_neg (by simp [h1])]
      exact ih
    · rw [List.filter_cons_of_pos (p := fun r => decide (r ∉ s.seen)) (by simpa using h1)]
      by_cases h2 : a ∈ s'.seen
      · rw [List.filter_cons_of_neg (by simpa using h2), List.length_cons]; omega
      · rw [List.filter_cons_of_pos (by simpa using h2), List.length_cons, List.length_cons]; omega

/-- What a failed search leaves. -/
structure Failed (N : Int → List Int) (R : List Int) (n : Nat) (L : List Int) (s s' : St) : Prop where
  obv : s'.obv = s.obv
  rev : s'.rev = s.rev
  sub : ∀ r ∈ s.seen, r ∈ s'.seen
  all : unseen R s < n → (∀ r ∈ L, r ∈ s'.seen) ∧ ∀ r ∈ s'.seen, r ∈ s.seen ∨ ∃ o, lookM s.rev r = some o ∧ ∀ x ∈ N o, x ∈ s'.seen
theorem augL_fail {N : Int → List Int} {R : List Int} (hR : ∀ o, ∀ r ∈ N o, r ∈ R) {n : Nat} {rec : Int → St → Bool × St} (hrec : ∀ o s s', rec o s = (false, s') → Failed N R n (N o) s s') (o : Int) :
    ∀ (L : List Int) (s s' : St), (∀ r ∈ L, r ∈ R) → augL rec o L s = (false, s') → Failed N R (n + 1) L s s'
  | [], s, s', _, h => by
    simp only [augL, Prod.mk.injEq] at h
    obtain ⟨_, rfl⟩ := h
    exact ⟨rfl, rfl, fun _ h => h, fun _ => ⟨by simp, fun r hr => .inl hr⟩⟩
  | r :: rs, s, s', hL, h => by
    have hL' : ∀ x ∈ rs, x ∈ R := fun x hx => hL x (List.mem_cons_of_mem _ hx)
    rw [augL] at h
    by_cases hs : r ∈ s.seen
    · rw [if_pos hs] at h
      have H := augL_fail hR hrec o rs s s' hL' h
      refine ⟨H.obv, H.rev, H.sub, fun hu => ⟨fun x hx => ?_, (H.all hu).2⟩⟩
      rcases List.mem_cons.1 hx with rfl | hx
      · exact H.sub _ hs
      · exact (H.all hu).1 x hx
    · rw [if_neg hs] at h
      cases hl : lookM s.rev r with
      | none => simp [hl] at h
      | some o2 =>
        cases hq : rec o2 (s.see r) with
        | mk b s2 =>
          simp only [hl, hq] at h
          cases b
          · simp only at h
            have H1 := hrec o2 _ _ hq
            have H2 := augL_fail hR hrec o rs s2 s' hL' h
            have hsub1 : ∀ x ∈ s.seen, x ∈ s2.seen := fun x hx => H1.sub x (by simp [St.see, hx])
            refine ⟨H2.obv.trans H1.obv, H2.rev.trans H1.rev, fun x hx => H2.sub x (hsub1 x hx), fun hu => ?_⟩
            have hr : r ∈ R := hL r (by simp)
            have hu1 : unseen R (s.see r) < n := by have := unseen_see hr hs; omega
            have hu2 : unseen R s2 < n + 1 := by have := unseen_mono (R := R) hsub1; omega
            obtain ⟨A1, B1⟩ := H1.all hu1
            obtain ⟨A2, B2⟩ := H2.all hu2
            have hrev : s2.rev = s.rev := H1.rev
            refine ⟨fun x hx => ?_, fun x hx => ?_⟩
            · rcases List.mem_cons.1 hx with rfl | hx
              · exact H2.sub _ (H1.sub _ (by simp [St.see]))
              · exact A2 x hx
            · rcases B2 x hx with h3 | ⟨o', h3, h4⟩
              · rcases B1 x h3 with h5 | ⟨o', h5, h6⟩
                · simp only [St.see, List.mem_append, List.mem_singleton] at h5
                  rcases h5 with h5 | rfl
                  · exact .inl h5
                  · exact .inr ⟨o2, hl, fun y hy => H2.sub y (A1 y hy)⟩
                · exact .inr ⟨o', h5, fun y hy => H2.sub y (h6 y hy)⟩
              · rw [hrev] at h3
                exact .inr ⟨o', h3, h4⟩
          · simp at h
theorem augF_fail {N : Int → List Int} {R : List Int} (hR : ∀ o, ∀ r ∈ N o, r ∈ R) : ∀ (n : Nat) (o : Int) (s s' : St), augF N n o s = (false, s') → Failed N R n (N o) s s'
  | 0, o, s, s', h => by
    simp only [augF, Prod.mk.injEq] at h
    obtain ⟨_, rfl⟩ := h
    exact ⟨rfl, rfl, fun _ h => h, fun h => absurd h (by omega)⟩
  | n + 1, o, s, s', h => augL_fail hR (augF_fail hR n) o (N o) s s' (hR o) h

/-- The two maps of a matching are one another's inverses, along links. -/
structure Mate (N : Int → List Int) (s : St) : Prop where
  fwd : ∀ a r, lookM s.obv a = some r → lookM s.rev r = some a
  bwd : ∀ a r, lookM s.rev r = some a → lookM s.obv a = some r
  link : ∀ a r, lookM s.rev r = some a → r ∈ N a
/-- What a search that succeeded leaves. -/
structure Done (N : Int → List Int) (o : Int) (s s' : St) : Prop where
  new : ∃ r, r ∉ s.seen ∧ lookM s'.obv o = some r ∧ lookM s'.rev r = some o ∧ ∀ x, lookM s'.rev x = some o → x = r ∨ x ∈ s.seen
  fwd : ∀ a r, a ≠ o → lookM s'.obv a = some r → lookM s'.rev r = some a
  bwd : ∀ a r, a ≠ o → lookM s'.rev r = some a → lookM s'.obv a = some r
  link : ∀ a r, lookM s'.rev r = some a → r ∈ N a
  old : ∀ r ∈ s.seen, lookM s'.rev r = lookM s.rev r
  rest : ∀ a, a ≠ o → (∀ r, lookM s.obv a = some r → r ∈ s.seen) → lookM s'.obv a = lookM s.obv a
  dom : ∀ a, a ≠ o → (lookM s'.obv a).isSome = (lookM s.obv a).isSome
  domR : ∀ r, (lookM s.rev r).isSome = true → (lookM s'.rev r).isSome = true
  len : s'.rev.length = s.rev.length + 1
  lenO : s'.obv.length = s.obv.length + (if (lookM s.obv o).isSome = true then 0 else 1)
  sub : ∀ r ∈ s.seen, r ∈ s'.seen
theorem isSome_mem {κ β : Type} [DecidableEq κ] {m : List (κ × β)} {x : κ} : (lookM m x).isSome = true ↔ x ∈ m.map Prod.fst := by
  cases h : lookM m x with
  | none => simp [lookM_none.1 h]
  | some y =>
    simp
    exact ⟨y, lookM_some h⟩
theorem putM_len' {κ β : Type} [DecidableEq κ] (m : List (κ × β)) (x : κ) (y : β) : (putM m x y).length = m.length + (if (lookM m x).isSome = true then 0 else 1) := by
  rw [putM_len]
  by_cases h : x ∈ m.map Prod.fst
  · rw [if_pos h, if_pos (isSome_mem.2 h), Nat.add_zero]
  · rw [if_neg h, if_neg (fun h' => h (isSome_mem.1 h'))]
end Go.Proofs.YtikfffojeakjoaaGreatDoor
/- Alternating paths, plain: what a search leaves that succeeds; closed sets of reverses. No program, no condition. -/
namespace Go.Proofs.YtikfffojeakjoaaGreatDoor
open Go.RowKit

section
variable {N : Int → List Int}
theorem Mate.see {s : St} (h : Mate N s) (r : Int) : Mate N (s.see r) := ⟨h.fwd, h.bwd, h.link⟩
theorem Mate.inj {s : St} (h : Mate N s) {a r r' : Int} (h1 : lookM s.rev r = some a) (h2 : lookM s.rev r' = some a) : r = r' := by
  have e1 := h.bwd a r h1
  have e2 := h.bwd a r' h2
  rw [e1] at e2
  exact Option.some.inj e2

/-- The search takes a free reverse. -/
theorem done_free {o r : Int} {s : St} (hM : Mate N s) (ho : ∀ x, lookM s.rev x = some o → x ∈ s.seen) (hs : r ∉ s.seen) (hl : lookM s.rev r = none) (hN : r ∈ N o) : Done N o s ((s.see r).set o r) where
  new := by
    refine ⟨r, hs, lookM_same _ _ _, lookM_same _ _ _, fun x hx => ?_⟩
    simp only [St.set, St.see] at hx
    by_cases e : r = x
    · exact .inl e.symm
    · rw [lookM_other _ _ e] at hx
      exact .inr (ho x hx)
  fwd a x ha hx := by
    simp only [St.set, St.see] at hx ⊢
    rw [lookM_other _ _ (fun e => ha e.symm)] at hx
    have h1 := hM.fwd a x hx
    rw [lookM_other _ _ (fun e => by rw [← e, hl] at h1; cases h1)]
    exact h1
  bwd a x ha hx := by
    simp only [St.set, St.see] at hx ⊢
    by_cases e : r = x
    · subst e
      rw [lookM_same] at hx
      exact absurd (Option.some.inj hx).symm ha
    · rw [lookM_other _ _ e] at hx
      rw [lookM_other _ _ (fun e' => ha e'.symm)]
      exact hM.bwd a x hx
  link a x hx := by
    simp only [St.set, St.see] at hx
    by_cases e : r = x
    · subst e
      rw [lookM_same] at hx
      rw [← Option.some.inj hx]; exact hN
    · rw [lookM_other _ _ e] at hx
      exact hM.link a x hx
  old x hx := by
    simp only [St.set, St.see]
    exact lookM_other _ _ (fun e => hs (e ▸ hx))
  rest a ha _ := by simp only [St.set, St.see]; exact lookM_other _ _ (fun e => ha e.symm)
  dom a ha := by simp only [St.set, St.see]; rw [lookM_other _ _ (fun e => ha e.symm)]
  domR x hx := by
    simp only [St.set, St.see]
    by_cases e : r = x
    · subst e; rw [lookM_same]; rfl
    · rw [lookM_other _ _ e]; exact hx
  len := by simp only [St.set, St.see]; rw [putM_len', hl]; rfl
  lenO := by simp only [St.set, St.see]; rw [putM_len']
  sub x hx := by simp [St.set, St.see, hx]

/-- The search goes on from the mate of r, and succeeds there. -/
theorem done_step {o o2 r : Int} {s s2 : St} (hM : Mate N s) (ho : ∀ x, lookM s.rev x = some o → x ∈ s.seen) (hs : r ∉ s.seen) (hl : lookM s.rev r = some o2) (hN : r ∈ N o) (hD : Done N o2 (s.see r) s2) : Done N o s (s2.set o r) := by
  have hne : o2 ≠ o := fun e => hs (ho r (by rw [hl, e]))
  have hrs : r ∈ (s.see r).seen := by simp [St.see]
  have hsub : ∀ x ∈ s.seen, x ∈ (s.see r).seen := fun x hx => by simp [St.see, hx]
  have hr2 : lookM s2.rev r = some o2 := (hD.old r hrs).trans hl
  have hoo : lookM s2.obv o = lookM s.obv o := hD.rest o (fun e => hne e.symm) fun x hx => hsub x (ho x (hM.fwd o x hx))
  obtain ⟨r2, n1, n2, n3, n4⟩ := hD.new
  have hr2r : r2 ≠ r := fun e => n1 (e ▸ hrs)
  have hu : ∀ x, lookM s2.rev x = some o2 → x = r2 ∨ x = r := fun x hx => by
    rcases n4 x hx with h | h
    · exact .inl h
    · right
      rw [hD.old x h] at hx
      exact hM.inj hx hl
  refine ⟨⟨r, hs, lookM_same _ _ _, lookM_same _ _ _, fun x hx => ?_⟩, fun a x ha hx => ?_, fun a x ha hx => ?_, fun a x hx => ?_, fun x hx => ?_, fun a ha hm => ?_, fun a ha => ?_, fun x hx => ?_, ?_, ?_, fun x hx => hD.sub x (hsub x hx)⟩
  · simp only [St.set] at hx
    by_cases e : r = x
    · exact .inl e.symm
    · rw [lookM_other _ _ e] at hx
      right
      have h1 := hD.bwd o x (fun e => hne e.symm) hx
      rw [hoo] at h1
      exact ho x (hM.fwd o x h1)
  · simp only [St.set] at hx ⊢
    rw [lookM_other _ _ (fun e => ha e.symm)] at hx
    by_cases e2 : a = o2
    · subst e2
      rw [n2] at hx
      rw [← Option.some.inj hx, lookM_other _ _ (fun e => hr2r e.symm)]
      exact n3
    · have h1 := hD.fwd a x e2 hx
      rw [lookM_other _ _ (fun e => by rw [← e, hr2] at h1; exact e2 (Option.some.inj h1).symm)]
      exact h1
  · simp only [St.set] at hx ⊢
    by_cases e : r = x
    · subst e
      rw [lookM_same] at hx
      exact absurd (Option.some.inj hx).symm ha
    · rw [lookM_other _ _ e] at hx
      rw [lookM_other _ _ (fun e' => ha e'.symm)]
      by_cases e2 : a = o2
      · subst e2
        rcases hu x hx with rfl | rfl
        · exact n2
        · exact absurd rfl e
      · exact hD.bwd a x e2 hx
  · simp only [St.set] at hx
    by_cases e : r = x
    · subst e
      rw [lookM_same] at hx
      rw [← Option.some.inj hx]; exact hN
    · rw [lookM_other _ _ e] at hx
      exact hD.link a x hx
  · simp only [St.set]
    rw [lookM_other _ _ (fun e => hs (by rw [e]; exact hx))]
    exact hD.old x (hsub x hx)
  · simp only [St.set]
    rw [lookM_other _ _ (fun e => ha e.symm)]
    exact hD.rest a (fun e => hs (hm r (by rw [e]; exact hM.bwd o2 r hl))) fun x hx => hsub x (hm x hx)
  · simp only [St.set]
    rw [lookM_other _ _ (fun e => ha e.symm)]
    by_cases e2 : a = o2
    · subst e2
      rw [n2, hM.bwd a r hl]
      rfl
    · exact hD.dom a e2
  · simp only [St.set]
    by_cases e : r = x
    · subst e; rw [lookM_same]; rfl
    · rw [lookM_other _ _ e]; exact hD.domR x hx
  · simp only [St.set]
    rw [putM_len', hr2, hD.len]
    rfl
  · simp only [St.set]
    have h1 := hD.lenO
    have h2 : lookM (s.see r).obv o2 = some r := hM.bwd o2 r hl
    rw [h2] at h1
    simp only [Option.isSome_some, if_true, Nat.add_zero] at h1
    rw [putM_len', hoo, h1]
    rfl
/-- A failed search ahead of one that succeeds. -/
theorem done_after {o : Int} {s s2 s' : St} (ho : ∀ x, lookM s.rev x = some o → x ∈ s.seen) (h1 : s2.obv = s.obv) (h2 : s2.rev = s.rev) (h3 : ∀ r ∈ s.seen, r ∈ s2.seen) (hD : Done N o s2 s') : Done N o s s' := by
  obtain ⟨r, n1, n2, n3, n4⟩ := hD.new
  refine ⟨⟨r, fun h => n1 (h3 r h), n2, n3, fun x hx => ?_⟩, hD.fwd, hD.bwd, hD.link, fun x hx => by rw [hD.old x (h3 x hx), h2], fun a ha hm => by rw [hD.rest a ha (fun x hx => h3 x (hm x (by rw [← h1]; exact hx))), h1],
    fun a ha => by rw [hD.dom a ha, h1], fun x hx => hD.domR x (by rw [h2]; exact hx), by rw [hD.len, h2], by rw [hD.lenO, h1], fun x hx => hD.sub x (h3 x hx)⟩
  rcases n4 x hx with h | h
  · exact .inl h
  · right
    rw [hD.old x h, h2] at hx
    exact ho x hx

theorem augL_done {R : List Int} (hR : ∀ o, ∀ r ∈ N o, r ∈ R) {n : Nat} {rec : Int → St → Bool × St} (hfail : ∀ o s s', rec o s = (false, s') → Failed N R n (N o) s s')
    (hrec : ∀ o s s', Mate N s → (∀ x, lookM s.rev x = some o → x ∈ s.seen) → rec o s = (true, s') → Done N o s s') (o : Int) :
    ∀ (L : List Int) (s s' : St), (∀ r ∈ L, r ∈ N o) → Mate N s → (∀ x, lookM s.rev x = some o → x ∈ s.seen) → augL rec o L s = (true, s') → Done N o s s'
  | [], s, s', _, _, _, h => by simp [augL] at h
  | r :: rs, s, s', hL, hM, ho, h => by
    have hL' : ∀ x ∈ rs, x ∈ N o := fun x hx => hL x (List.mem_cons_of_mem _ hx)
    rw [augL] at h
    by_cases hs : r ∈ s.seen
    · rw [if_pos hs] at h
      exact augL_done hR hfail hrec o rs s s' hL' hM ho h
    · rw [if_neg hs] at h
      cases hl : lookM s.rev r with
      | none =>
        simp only [hl, Prod.mk.injEq, true_and] at h
        subst h
        exact done_free hM ho hs hl (hL r (by simp))
      | some o2 =>
        have ho2 : ∀ x, lookM (s.see r).rev x = some o2 → x ∈ (s.see r).seen := fun x hx => by
          have : x = r := hM.inj hx hl
          rw [this]; simp [St.see]
        cases hq : rec o2 (s.see r) with
        | mk b s2 =>
          simp only [hl, hq] at h
          cases b
          · simp only at h
            have H1 := hfail o2 _ _ hq
            have e1 : s2.obv = s.obv := H1.obv
            have e2 : s2.rev = s.rev := H1.rev
            have e3 : ∀ x ∈ s.seen, x ∈ s2.seen := fun x hx => H1.sub x (by simp [St.see, hx])
            have hM2 : Mate N s2 := ⟨by rw [e1, e2]; exact hM.fwd, by rw [e1, e2]; exact hM.bwd, by rw [e2]; exact hM.link⟩
            have := augL_done hR hfail hrec o rs s2 s' hL' hM2 (fun x hx => e3 x (ho x (by rw [← e2]; exact hx))) h
            exact done_after ho e1 e2 e3 this
          · simp only [Prod.mk.injEq, true_and] at h
            subst h
            exact done_step hM ho hs hl (hL r (by simp)) (hrec o2 _ _ (hM.see r) ho2 hq)
theorem augF_done {R : List Int} (hR : ∀ o, ∀ r ∈ N o, r ∈ R) : ∀ (n : Nat) (o : Int) (s s' : St), Mate N s → (∀ x, lookM s.rev x = some o → x ∈ s.seen) → augF N n o s = (true, s') → Done N o s s'
  | 0, o, s, s', _, _, h => by simp [augF] at h
  | n + 1, o, s, s', hM, ho, h => augL_done hR (augF_fail hR n) (augF_done hR n) o (N o) s s' (fun _ h => h) hM ho h
/-- A search from a free obverse that succeeds leaves a matching with one pair more. -/
theorem Done.mate {o : Int} {s s' : St} (h : Done N o s s') (hf : lookM s.obv o = none) (hM : Mate N s) : Mate N s' := by
  obtain ⟨r, n1, n2, n3, n4⟩ := h.new
  have hfr : ∀ x, lookM s.rev x ≠ some o := fun x hx => by rw [hM.bwd o x hx] at hf; cases hf
  have hun : ∀ x, lookM s'.rev x = some o → x = r := fun x hx => by
    rcases n4 x hx with e | e
    · exact e
    · rw [h.old x e] at hx
      exact absurd hx (hfr x)
  refine ⟨fun a x hx => ?_, fun a x hx => ?_, h.link⟩
  · by_cases e : a = o
    · subst e
      rw [n2] at hx
      rw [← Option.some.inj hx]; exact n3
    · exact h.fwd a x e hx
  · by_cases e : a = o
    · subst e
      rw [hun x hx]; exact n2
    · exact h.bwd a x e hx

/-- A set of reverses that alternating paths do not leave. -/
def Closed (N : Int → List Int) (rev : List (Int × Int)) (F : Int → Prop) : Prop := ∀ r, F r → ∃ o, lookM rev r = some o ∧ ∀ x ∈ N o, F x
theorem augL_closed {F : Int → Prop} {rec : Int → St → Bool × St} (hkeep : ∀ o s s', rec o s = (false, s') → s'.rev = s.rev)
    (hin : ∀ o s, Closed N s.rev F → (∀ x ∈ N o, F x) → (rec o s).1 = false) (hout : ∀ o s s', Closed N s.rev F → rec o s = (true, s') → ∀ r, F r → lookM s'.rev r = lookM s.rev r) (o : Int) :
    ∀ (L : List Int) (s : St), Closed N s.rev F → ((∀ x ∈ L, F x) → (augL rec o L s).1 = false) ∧ ∀ s', augL rec o L s = (true, s') → ∀ r, F r → lookM s'.rev r = lookM s.rev r
  | [], s, _ => ⟨fun _ => rfl, fun s' h => by simp [augL] at h⟩
  | r :: rs, s, hC => by
    have ih := augL_closed hkeep hin hout o rs
    rw [augL]
    by_cases hs : r ∈ s.seen
    · rw [if_pos hs]
      exact ⟨fun h => (ih s hC).1 fun x hx => h x (List.mem_cons_of_mem _ hx), (ih s hC).2⟩
    · rw [if_neg hs]
      cases hl : lookM s.rev r with
      | none =>
        simp only
        have hnF : ¬ F r := fun h => by obtain ⟨o', h1, _⟩ := hC r h; rw [hl] at h1; cases h1
        refine ⟨fun h => absurd (h r (by simp)) hnF, fun s' h x hx => ?_⟩
        simp only [Prod.mk.injEq, true_and] at h
        subst h
        simp only [St.set, St.see]
        exact lookM_other _ _ (fun e => hnF (e ▸ hx))
      | some o2 =>
        have hC1 : Closed N (s.see r).rev F := hC
        have hFr : F r → (rec o2 (s.see r)).1 = false := fun h => by
          obtain ⟨o', h1, h2⟩ := hC r h
          rw [hl] at h1
          cases h1
          exact hin o2 _ hC1 h2
        cases hq : rec o2 (s.see r) with
        | mk b s2 =>
          rw [hq] at hFr
          simp only [hq]
          cases b
          · simp only
            have e2 : s2.rev = s.rev := hkeep o2 (s.see r) s2 hq
            have hC2 : Closed N s2.rev F := by rw [e2]; exact hC
            exact ⟨fun h => (ih s2 hC2).1 fun x hx => h x (List.mem_cons_of_mem _ hx), fun s' h x hx => by rw [(ih s2 hC2).2 s' h x hx, e2]⟩
          · have hnF : ¬ F r := fun h => by cases hFr h
            refine ⟨fun h => absurd (h r (by simp)) hnF, fun s' h x hx => ?_⟩
            simp only [Prod.mk.injEq, true_and] at h
            subst h
            simp only [St.set]
            rw [lookM_other _ _ (fun e => hnF (by rw [e]; exact hx))]
            exact hout o2 _ _ hC1 hq x hx
theorem augF_keep : ∀ (n : Nat) (o : Int) (s s' : St), augF N n o s = (false, s') → s'.rev = s.rev ∧ s'.obv = s.obv := fun n o s s' h => by
  have aux : ∀ (rec : Int → St → Bool × St), (∀ o s s', rec o s = (false, s') → s'.rev = s.rev ∧ s'.obv = s.obv) → ∀ (o : Int) (L : List Int) (s s' : St), augL rec o L s = (false, s') → s'.rev = s.rev ∧ s'.obv = s.obv := by
    intro rec hrec o L
    induction L with
    | nil => intro s s' h; simp only [augL, Prod.mk.injEq, true_and] at h; subst h; exact ⟨rfl, rfl⟩
    | cons r rs ih =>
      intro s s' h
      rw [augL] at h
      by_cases hs : r ∈ s.seen
      · rw [if_pos hs] at h; exact ih s s' h
      · rw [if_neg hs] at h
        cases hl : lookM s.rev r with
        | none => simp [hl] at h
        | some o2 =>
          cases hq : rec o2 (s.see r) with
          | mk b s2 =>
            simp only [hl, hq] at h
            cases b
            · simp only at h
              have h1 := hrec _ _ _ hq
              have h2 := ih s2 s' h
              exact ⟨h2.1.trans h1.1, h2.2.trans h1.2⟩
            · simp at h
  induction n generalizing o s s' with
  | zero => simp only [augF, Prod.mk.injEq, true_and] at h; subst h; exact ⟨rfl, rfl⟩
  | succ n ih => exact aux _ ih o (N o) s s' h
theorem augF_closed {F : Int → Prop} : ∀ (n : Nat) (o : Int) (s : St), Closed N s.rev F → ((∀ x ∈ N o, F x) → (augF N n o s).1 = false) ∧ ∀ s', augF N n o s = (true, s') → ∀ r, F r → lookM s'.rev r = lookM s.rev r
  | 0, o, s, _ => ⟨fun _ => rfl, fun s' h => by simp [augF] at h⟩
  | n + 1, o, s, hC => augL_closed (fun o s s' h => (augF_keep n o s s' h).1) (fun o s hC h => (augF_closed n o s hC).1 h) (fun o s s' hC h => (augF_closed n o s hC).2 s' h) o (N o) s hC
end
end Go.Proofs.YtikfffojeakjoaaGreatDoor
/- Matchings and covers, plain: no cover has fewer dies than a matching has pairs; a closed set of reverses gives a cover of the matching's size; the searches of the program and of the reference. No program in sight, no condition. -/
namespace Go.Proofs.YtikfffojeakjoaaGreatDoor
open Go.RowKit

theorem nodup_same {α : Type} [DecidableEq α] {l c : List α} (h1 : l.Nodup) (h2 : c.Nodup) (h : ∀ x, x ∈ l ↔ x ∈ c) : l.length = c.length :=
  Nat.le_antisymm (nodup_len h1 fun x hx => (h x).1 hx) (nodup_len h2 fun x hx => (h x).2 hx)
theorem nodup_map {α β : Type} {l : List α} (f : α → β) (h : l.Nodup) (hf : ∀ x ∈ l, ∀ y ∈ l, f x = f y → x = y) : (l.map f).Nodup := by
  induction l with
  | nil => simp
  | cons a l ih =>
    rw [List.nodup_cons] at h
    rw [List.map_cons, List.nodup_cons]
    refine ⟨fun hm => ?_, ih h.2 fun x hx y hy => hf x (List.mem_cons_of_mem _ hx) y (List.mem_cons_of_mem _ hy)⟩
    obtain ⟨y, hy, e⟩ := List.mem_map.1 hm
    exact h.1 (hf a (by simp) y (List.mem_cons_of_mem _ hy) e.symm ▸ hy)

/-! ### Matchings and covers -/
def linkedP (g : Graph) (a b : Int) : Prop := ∃ x ∈ g.links, x.obv = a ∧ x.rev = b
structure IsMat (g : Graph) (l : List Pair) : Prop where
  link : ∀ p ∈ l, linkedP g p.a p.b
  asc : (l.map Pair.a).Pairwise (· < ·)
  inj : (l.map Pair.b).Nodup
def ltD (x y : Die) : Prop := x.side < y.side ∨ x.side = y.side ∧ x.num < y.num
structure IsCov (g : Graph) (c : List Die) : Prop where
  die : ∀ d ∈ c, dieIn g d = true
  asc : c.Pairwise ltD
  cov : ∀ x ∈ g.links, (⟨0, x.obv⟩ : Die) ∈ c ∨ (⟨1, x.rev⟩ : Die) ∈ c
theorem IsMat.nodup {g : Graph} {l : List Pair} (h : IsMat g l) : l.Nodup := by
  have := h.asc
  rw [List.pairwise_map] at this
  exact this.imp fun h e => by subst e; omega
theorem IsMat.eqA {g : Graph} {l : List Pair} (h : IsMat g l) {p q : Pair} (hp : p ∈ l) (hq : q ∈ l) (e : p.a = q.a) : p = q := by
  have h1 := h.asc
  rw [List.pairwise_map] at h1
  obtain ⟨i, hi⟩ := List.mem_iff_getElem?.1 hp
  obtain ⟨j, hj⟩ := List.mem_iff_getElem?.1 hq
  obtain ⟨l1, e1⟩ := List.getElem?_eq_some_iff.1 hi
  obtain ⟨l2, e2⟩ := List.getElem?_eq_some_iff.1 hj
  have h2 := List.pairwise_iff_getElem.1 h1
  rcases Nat.lt_trichotomy i j with hlt | rfl | hlt
  · have := h2 i j l1 l2 hlt; rw [e1, e2] at this; omega
  · rw [← e1, ← e2]
  · have := h2 j i l2 l1 hlt; rw [e1, e2] at this; omega
theorem IsMat.eqB {g : Graph} {l : List Pair} (h : IsMat g l) {p q : Pair} (hp : p ∈ l) (hq : q ∈ l) (e : p.b = q.b) : p = q := by
  obtain ⟨i, hi⟩ := List.mem_iff_getElem?.1 hp
  obtain ⟨j, hj⟩ := List.mem_iff_getElem?.1 hq
  obtain ⟨l1, e1⟩ := List.getElem?_eq_some_iff.1 hi
  obtain ⟨l2, e2⟩ := List.getElem?_eq_some_iff.1 hj
  have h2 := List.pairwise_iff_getElem.1 h.inj
  rcases Nat.lt_trichotomy i j with hlt | rfl | hlt
  · have := h2 i j (by simpa using l1) (by simpa using l2) hlt; simp only [List.getElem_map, e1, e2] at this; exact absurd e this
  · rw [← e1, ← e2]
  · have := h2 j i (by simpa using l2) (by simpa using l1) hlt; simp only [List.getElem_map, e1, e2] at this; exact absurd e.symm this
/-- No matching has more pairs than a cover has dies. -/
theorem mat_le_cov {g : Graph} {l : List Pair} {c : List Die} (h : IsMat g l) (hc : IsCov g c) : l.length ≤ c.length := by
  have : (l.map fun p => if (⟨0, p.a⟩ : Die) ∈ c then (⟨0, p.a⟩ : Die) else ⟨1, p.b⟩).length ≤ c.length := by
    refine nodup_len (nodup_map _ h.nodup fun p hp q hq e => ?_) fun d hd => ?_
    · by_cases h1 : (⟨0, p.a⟩ : Die) ∈ c <;> by_cases h2 : (⟨0, q.a⟩ : Die) ∈ c <;> simp only [h1, h2, if_true, if_false, Die.mk.injEq] at e
      · exact h.eqA hp hq e.2
      · exact absurd e.1 (by decide)
      · exact absurd e.1 (by decide)
      · exact h.eqB hp hq e.2
    · obtain ⟨p, hp, rfl⟩ := List.mem_map.1 hd
      obtain ⟨x, hx, e1, e2⟩ := h.link p hp
      by_cases h1 : (⟨0, p.a⟩ : Die) ∈ c
      · simp only [h1, if_true]
      · simp only [h1, if_false]
        rcases hc.cov x hx with h3 | h3
        · rw [e1] at h3; exact absurd h3 h1
        · rw [e2] at h3; exact h3
  simpa using this
/-- The size of the largest matchings. -/
def Opt (g : Graph) (n : Nat) : Prop := ∃ l c, IsMat g l ∧ IsCov g c ∧ l.length = n ∧ c.length = n
theorem Opt.unique {g : Graph} {m n : Nat} (h : Opt g m) (k : Opt g n) : m = n := by
  obtain ⟨l, c, h1, h2, h3, h4⟩ := h
  obtain ⟨l', c', k1, k2, k3, k4⟩ := k
  have := mat_le_cov h1 k2
  have := mat_le_cov k1 h2
  omega
theorem Opt.le {g : Graph} {n : Nat} (h : Opt g n) {l : List Pair} (hl : IsMat g l) : l.length ≤ n := by
  obtain ⟨_, c, _, h2, _, h4⟩ := h
  have := mat_le_cov hl h2
  omega
theorem Opt.ge {g : Graph} {n : Nat} (h : Opt g n) {c : List Die} (hc : IsCov g c) : n ≤ c.length := by
  obtain ⟨l, _, h1, _, h3, _⟩ := h
  have := mat_le_cov h1 hc
  omega

/-! ### The partners of an obverse -/
def nbr (g : Graph) (o : Int) : List Int := partG g ⟨0, o⟩
theorem nbr_mem {g : Graph} (hg : graphB g = true) {o r : Int} : r ∈ nbr g o ↔ linkedP g o r := by
  unfold nbr partG
  rw [if_pos hg, withs_mem]
  unfold partL linkedP
  simp only [List.mem_map, List.mem_filter, touchB, endI]
  constructor
  · rintro ⟨x, ⟨hx, ht⟩, rfl⟩
    refine ⟨x, hx, by simpa using ht, ?_⟩
    rfl
  · rintro ⟨x, hx, rfl, rfl⟩
    exact ⟨x, ⟨hx, by simp⟩, rfl⟩
theorem nbr_rev {g : Graph} (hg : graphB g = true) (o : Int) : ∀ r ∈ nbr g o, r ∈ g.rev := fun r hr => by
  obtain ⟨x, hx, _, rfl⟩ := (nbr_mem hg).1 hr
  exact (graphB_ends hg).2 x hx
theorem nbr_obv {g : Graph} (hg : graphB g = true) {o r : Int} (h : r ∈ nbr g o) : o ∈ g.obv := by
  obtain ⟨x, hx, rfl, _⟩ := (nbr_mem hg).1 h
  exact (graphB_ends hg).1 x hx

/-! ### A closed set gives a cover of the matching's size -/
def coverL (g : Graph) (obv : List (Int × Int)) (F : Int → Bool) : List Die :=
  (g.obv.filter fun o => match lookM obv o with | none => false | some r => !F r).map (Die.mk 0) ++ (g.rev.filter F).map (Die.mk 1)
theorem coverL_cov {g : Graph} (hg : graphB g = true) {s : St} {F : Int → Bool} (hM : Mate (nbr g) s) (hC : Closed (nbr g) s.rev (fun r => F r = true)) (hF : ∀ o ∈ g.obv, lookM s.obv o = none → ∀ r ∈ nbr g o, F r = true) : IsCov g (coverL g s.obv F) := by
  have hok := (graphB_iff g).1 hg
  refine ⟨fun d hd => ?_, ?_, fun x hx => ?_⟩
  · rw [coverL, List.mem_append] at hd
    rcases hd with hd | hd
    · obtain ⟨o, ho, rfl⟩ := List.mem_map.1 hd
      simp [dieIn, hasB_iff, (List.mem_filter.1 ho).1]
    · obtain ⟨o, ho, rfl⟩ := List.mem_map.1 hd
      simp [dieIn, hasB_iff, (List.mem_filter.1 ho).1]
  · rw [coverL, List.pairwise_append]
    refine ⟨?_, ?_, fun a ha b hb => ?_⟩
    · rw [List.pairwise_map]
      exact ((ascB_asc hok.ao).sublist List.filter_sublist).imp fun h => .inr ⟨rfl, h⟩
    · rw [List.pairwise_map]
      exact ((ascB_asc hok.ar).sublist List.filter_sublist).imp fun h => .inr ⟨rfl, h⟩
    · obtain ⟨o, _, rfl⟩ := List.mem_map.1 ha
      obtain ⟨r, _, rfl⟩ := List.mem_map.1 hb
      exact .inl (by show (0 : Int) < 1; omega)
  · have hE := graphB_ends hg
    have hr : x.rev ∈ nbr g x.obv := (nbr_mem hg).2 ⟨x, hx, rfl, rfl⟩
    rw [coverL, List.mem_append, List.mem_append]
    cases hFr : F x.rev
    · left; left
      refine List.mem_map.2 ⟨x.obv, List.mem_filter.2 ⟨hE.1 x hx, ?_⟩, rfl⟩
      cases hl : lookM s.obv x.obv with
      | none => rw [hF _ (hE.1 x hx) hl _ hr] at hFr; cases hFr
      | some r =>
        simp only [Bool.not_eq_true']
        cases hF2 : F r
        · rfl
        · obtain ⟨o', h1, h2⟩ := hC r hF2
          rw [hM.fwd _ _ hl] at h1
          cases h1
          rw [h2 _ hr] at hFr
          cases hFr
    · right; right
      exact List.mem_map.2 ⟨x.rev, List.mem_filter.2 ⟨hE.2 x hx, hFr⟩, rfl⟩
theorem filter_not_len {α : Type} (p : α → Bool) (l : List α) : (l.filter p).length + (l.filter fun x => !p x).length = l.length := by
  induction l with
  | nil => rfl
  | cons a l ih => cases h : p a <;> simp [h] <;> omega
theorem coverL_len {g : Graph} (hg : graphB g = true) {s : St} {F : Int → Bool} (hM : Mate (nbr g) s) (hn : (s.rev.map Prod.fst).Nodup) (hC : Closed (nbr g) s.rev (fun r => F r = true)) : (coverL g s.obv F).length = s.rev.length := by
  have hok := (graphB_iff g).1 hg
  have key : ∀ r, r ∈ s.rev.map Prod.fst ↔ ∃ a, lookM s.rev r = some a := fun r => by
    rw [← isSome_mem]
    cases lookM s.rev r <;> simp
  have e1 : (g.rev.filter F).length = ((s.rev.map Prod.fst).filter F).length := by
    refine nodup_same (((ascB_asc hok.ar).imp (fun {a b} (h : a < b) (e : a = b) => by omega)).filter _) (hn.filter _) fun r => ?_
    simp only [List.mem_filter]
    refine and_congr_left fun hF => ?_
    rw [key]
    obtain ⟨o, h1, h2⟩ := hC r hF
    exact ⟨fun _ => ⟨o, h1⟩, fun _ => nbr_rev hg o r (hM.link o r h1)⟩
  have e2 : (g.obv.filter fun o => match lookM s.obv o with | none => false | some r => !F r).length = ((s.rev.map Prod.fst).filter fun r => !F r).length := by
    rw [← List.length_map (f := fun o => (lookM s.obv o).getD 0)]
    refine nodup_same (nodup_map _ (((ascB_asc hok.ao).imp (fun {a b} (h : a < b) (e : a = b) => by omega)).filter _) fun a ha b hb e => ?_) (hn.filter _) fun r => ?_
    · have ha' := (List.mem_filter.1 ha).2
      have hb' := (List.mem_filter.1 hb).2
      cases h1 : lookM s.obv a with
      | none => rw [h1] at ha'; cases ha'
      | some x =>
        cases h2 : lookM s.obv b with
        | none => rw [h2] at hb'; cases hb'
        | some y =>
          rw [h1, h2] at e
          simp only [Option.getD_some] at e
          subst e
          have h3 := hM.fwd _ _ h1
          rw [hM.fwd _ _ h2] at h3
          exact (Option.some.inj h3).symm
    · simp only [List.mem_map, List.mem_filter]
      constructor
      · rintro ⟨o, ⟨ho, hf⟩, rfl⟩
        cases h1 : lookM s.obv o with
        | none => rw [h1] at hf; cases hf
        | some x =>
          rw [h1] at hf
          refine ⟨?_, by simpa using hf⟩
          have := (key x).2 ⟨o, hM.fwd _ _ h1⟩
          simpa using this
      · rintro ⟨⟨p, hp, rfl⟩, hf⟩
        obtain ⟨a, ha⟩ := (key p.1).1 (List.mem_map_of_mem hp)
        have hb := hM.bwd _ _ ha
        exact ⟨a, ⟨nbr_obv hg (hM.link _ _ ha), by rw [hb]; exact hf⟩, by rw [hb]; rfl⟩
  rw [coverL, List.length_append, List.length_map, List.length_map, e1, e2, Nat.add_comm, filter_not_len, List.length_map]
end Go.Proofs.YtikfffojeakjoaaGreatDoor
/- The searches one after the other, plain: the program's and the reference's both end in a matching with the most pairs. No program in sight, no condition. -/
namespace Go.Proofs.YtikfffojeakjoaaGreatDoor
open Go.RowKit

/-- The maps of a graph's matching. -/
structure Good (g : Graph) (s : St) : Prop where
  mate : Mate (nbr g) s
  nodR : (s.rev.map Prod.fst).Nodup
  nodO : (s.obv.map Prod.fst).Nodup
theorem good_empty (g : Graph) : Good g ⟨[], [], []⟩ := ⟨⟨fun a r h => by simp [lookM] at h, fun a r h => by simp [lookM] at h, fun a r h => by simp [lookM] at h⟩, by simp, by simp⟩
theorem Good.seen {g : Graph} {s : St} (h : Good g s) (l : List Int) : Good g ⟨s.obv, s.rev, l⟩ := ⟨⟨h.mate.fwd, h.mate.bwd, h.mate.link⟩, h.nodR, h.nodO⟩
theorem Good.keysR {g : Graph} {s : St} (hg : graphB g = true) (h : Good g s) : ∀ r ∈ s.rev.map Prod.fst, r ∈ g.rev := fun r hr => by
  obtain ⟨a, ha⟩ := Option.isSome_iff_exists.1 (isSome_mem.2 hr)
  exact nbr_rev hg a r (h.mate.link a r ha)
theorem Good.keysO {g : Graph} {s : St} (hg : graphB g = true) (h : Good g s) : ∀ o ∈ s.obv.map Prod.fst, o ∈ g.obv := fun o ho => by
  obtain ⟨r, hr⟩ := Option.isSome_iff_exists.1 (isSome_mem.2 ho)
  exact nbr_obv hg (h.mate.link o r (h.mate.fwd o r hr))
theorem Good.lenR {g : Graph} {s : St} (hg : graphB g = true) (h : Good g s) : s.rev.length ≤ 32 := by
  have h1 := nodup_len h.nodR (h.keysR hg)
  have h2 := ((graphB_iff g).1 hg).lr
  simp at h1
  omega
theorem Good.len {g : Graph} {s : St} (h : Good g s) : s.obv.length = s.rev.length := by
  have h1 : (s.obv.map fun p => (lookM s.obv p.1).getD 0).length = (s.rev.map Prod.fst).length := by
    refine nodup_same (nodup_map _ (List.Pairwise.of_map Prod.fst (fun a b h e => h (by rw [e])) h.nodO) fun p hp q hq e => ?_) h.nodR fun r => ?_
    · have e1 := (lookM_mem h.nodO).2 (show (p.1, p.2) ∈ s.obv from hp)
      have e2 := (lookM_mem h.nodO).2 (show (q.1, q.2) ∈ s.obv from hq)
      simp only [e1, e2, Option.getD_some] at e
      have e3 := h.mate.fwd _ _ e1
      have e4 := h.mate.fwd _ _ e2
      rw [e] at e3
      rw [e3] at e4
      exact Prod.ext (Option.some.inj e4) e
    · simp only [List.mem_map]
      constructor
      · rintro ⟨p, hp, rfl⟩
        have e1 := (lookM_mem h.nodO).2 (show (p.1, p.2) ∈ s.obv from hp)
        rw [e1]
        exact ⟨_, lookM_some (h.mate.fwd _ _ e1), rfl⟩
      · rintro ⟨p, hp, rfl⟩
        have e1 := (lookM_mem h.nodR).2 (show (p.1, p.2) ∈ s.rev from hp)
        have e2 := h.mate.bwd _ _ e1
        exact ⟨_, lookM_some e2, by simp only [e2]; rfl⟩
  simpa using h1

theorem augL_nod {rec : Int → St → Bool × St} (hrec : ∀ o s, (s.rev.map Prod.fst).Nodup → (s.obv.map Prod.fst).Nodup → ((rec o s).2.rev.map Prod.fst).Nodup ∧ ((rec o s).2.obv.map Prod.fst).Nodup) (o : Int) :
    ∀ (L : List Int) (s : St), (s.rev.map Prod.fst).Nodup → (s.obv.map Prod.fst).Nodup → ((augL rec o L s).2.rev.map Prod.fst).Nodup ∧ ((augL rec o L s).2.obv.map Prod.fst).Nodup
  | [], s, h1, h2 => ⟨h1, h2⟩
  | r :: rs, s, h1, h2 => by
    rw [augL]
    by_cases hs : r ∈ s.seen
    · rw [if_pos hs]; exact augL_nod hrec o rs s h1 h2
    · rw [if_neg hs]
      cases hl : lookM s.rev r with
      | none => exact ⟨putM_nodup h1 _ _, putM_nodup h2 _ _⟩
      | some o2 =>
        have h3 := hrec o2 (s.see r) h1 h2
        cases hq : rec o2 (s.see r) with
        | mk b s2 =>
          rw [hq] at h3
          simp only [hq]
          cases b
          · exact augL_nod hrec o rs s2 h3.1 h3.2
          · exact ⟨putM_nodup h3.1 _ _, putM_nodup h3.2 _ _⟩
theorem augF_nod {N : Int → List Int} : ∀ (n : Nat) (o : Int) (s : St), (s.rev.map Prod.fst).Nodup → (s.obv.map Prod.fst).Nodup → ((augF N n o s).2.rev.map Prod.fst).Nodup ∧ ((augF N n o s).2.obv.map Prod.fst).Nodup
  | 0, _, _, h1, h2 => ⟨h1, h2⟩
  | n + 1, o, s, h1, h2 => augL_nod (augF_nod n) o (N o) s h1 h2
theorem aug_good {g : Graph} (hg : graphB g = true) {n : Nat} {o : Int} {s s' : St} (h : Good g s) (hf : lookM s.obv o = none) (hq : augF (nbr g) n o ⟨s.obv, s.rev, []⟩ = (true, s')) : Good g s' ∧ Done (nbr g) o ⟨s.obv, s.rev, []⟩ s' := by
  have hM := (h.seen []).mate
  have hD := augF_done (nbr_rev hg) n o _ s' hM (fun x hx => by have := h.mate.bwd o x hx; rw [hf] at this; cases this) hq
  have hN := augF_nod (N := nbr g) n o ⟨s.obv, s.rev, []⟩ h.nodR h.nodO
  rw [hq] at hN
  exact ⟨⟨hD.mate hf hM, hN.1, hN.2⟩, hD⟩

/-! ### The program: one more pair, as often as there is one -/
def moreL (N : Int → List Int) (n : Nat) : List Int → St → Bool × St
  | [], s => (false, s)
  | o :: os, s =>
    if (lookM s.obv o).isSome = true then moreL N n os s else
      match augF N n o ⟨s.obv, s.rev, []⟩ with
      | (true, s') => (true, s')
      | (false, s') => moreL N n os s'
def greatF (N : Int → List Int) (n : Nat) (os : List Int) : Nat → St → St
  | 0, s => s
  | k + 1, s => match moreL N n os s with
    | (true, s') => greatF N n os k s'
    | (false, s') => s'
theorem moreL_true {g : Graph} (hg : graphB g = true) {n : Nat} : ∀ {os : List Int} {s s' : St}, Good g s → moreL (nbr g) n os s = (true, s') →
    Good g s' ∧ s'.rev.length = s.rev.length + 1 ∧ (∀ a, (lookM s.obv a).isSome = true → (lookM s'.obv a).isSome = true) ∧ ∀ r, (lookM s.rev r).isSome = true → (lookM s'.rev r).isSome = true
  | [], s, s', _, h => by simp [moreL] at h
  | o :: os, s, s', hG, h => by
    rw [moreL] at h
    by_cases hs : (lookM s.obv o).isSome = true
    · rw [if_pos hs] at h
      exact moreL_true hg hG h
    · rw [if_neg hs] at h
      have hf : lookM s.obv o = none := by cases hl : lookM s.obv o with
        | none => rfl
        | some x => rw [hl] at hs; simp at hs
      cases hq : augF (nbr g) n o ⟨s.obv, s.rev, []⟩ with
      | mk b s2 =>
        simp only [hq] at h
        cases b
        · simp only at h
          obtain ⟨k1, k2⟩ := augF_keep _ _ _ _ hq
          have k1' : s2.rev = s.rev := k1
          have k2' : s2.obv = s.obv := k2
          have hG2 : Good g s2 := by
            have := hG.seen s2.seen
            rw [← k1', ← k2'] at this
            exact this
          have := moreL_true hg hG2 h
          rwa [k1', k2'] at this
        · simp only [Prod.mk.injEq, true_and] at h
          subst h
          obtain ⟨hG', hD⟩ := aug_good hg hG hf hq
          refine ⟨hG', hD.len, fun a ha => ?_, fun r hr => hD.domR r hr⟩
          have hne : a ≠ o := fun e => by rw [e, hf] at ha; cases ha
          rw [hD.dom a hne]; exact ha
theorem moreL_false {g : Graph} (hg : graphB g = true) {n : Nat} (hn : g.rev.length < n) : ∀ {os : List Int} {s s' : St}, Good g s → moreL (nbr g) n os s = (false, s') →
    s'.obv = s.obv ∧ s'.rev = s.rev ∧ ∃ F : Int → Bool, Closed (nbr g) s.rev (fun r => F r = true) ∧ ∀ o ∈ os, lookM s.obv o = none → ∀ r ∈ nbr g o, F r = true
  | [], s, s', _, h => by
    simp only [moreL, Prod.mk.injEq, true_and] at h
    subst h
    exact ⟨rfl, rfl, fun _ => false, fun r hr => by simp at hr, by simp⟩
  | o :: os, s, s', hG, h => by
    rw [moreL] at h
    by_cases hs : (lookM s.obv o).isSome = true
    · rw [if_pos hs] at h
      obtain ⟨h1, h2, F, h3, h4⟩ := moreL_false hg hn hG h
      refine ⟨h1, h2, F, h3, fun a ha hf => ?_⟩
      rcases List.mem_cons.1 ha with rfl | ha
      · rw [hf] at hs; simp at hs
      · exact h4 a ha hf
    · rw [if_neg hs] at h
      cases hq : augF (nbr g) n o ⟨s.obv, s.rev, []⟩ with
      | mk b s2 =>
        simp only [hq] at h
        cases b
        · simp only at h
          have hFl := augF_fail (nbr_rev hg) n o _ _ hq
          have k1' : s2.rev = s.rev := hFl.rev
          have k2' : s2.obv = s.obv := hFl.obv
          have hG2 : Good g s2 := by
            have := hG.seen s2.seen
            rw [← k1', ← k2'] at this
            exact this
          obtain ⟨h1, h2, F, h3, h4⟩ := moreL_false hg hn hG2 h
          rw [k1'] at h2 h3
          rw [k2'] at h1 h4
          have hun : unseen g.rev ⟨s.obv, s.rev, []⟩ < n := by
            exact Nat.lt_of_le_of_lt (List.length_filter_le _ _) hn
          obtain ⟨A, B⟩ := hFl.all hun
          refine ⟨h1, h2, fun r => F r || decide (r ∈ s2.seen), fun r hr => ?_, fun a ha hf r hr => ?_⟩
          · simp only [Bool.or_eq_true, decide_eq_true_eq] at hr ⊢
            rcases hr with hr | hr
            · obtain ⟨o', e1, e2⟩ := h3 r hr
              exact ⟨o', e1, fun x hx => .inl (e2 x hx)⟩
            · rcases B r hr with hr' | ⟨o', e1, e2⟩
              · cases hr'
              · exact ⟨o', e1, fun x hx => .inr (e2 x hx)⟩
          · simp only [Bool.or_eq_true, decide_eq_true_eq]
            rcases List.mem_cons.1 ha with rfl | ha
            · exact .inr (A r hr)
            · exact .inl (h4 a ha hf r hr)
        · simp at h
/-- No search succeeds any more: the matching has the most pairs, and what the searches reached gives a cover. -/
structure Great (g : Graph) (s : St) : Prop where
  good : Good g s
  cut : ∃ F : Int → Bool, Closed (nbr g) s.rev (fun r => F r = true) ∧ ∀ o ∈ g.obv, lookM s.obv o = none → ∀ r ∈ nbr g o, F r = true
theorem greatF_great {g : Graph} (hg : graphB g = true) {n : Nat} (hn : g.rev.length < n) : ∀ (k : Nat) (s : St), Good g s → 33 - s.rev.length ≤ k → Great g (greatF (nbr g) n g.obv k s)
  | 0, s, hG, hk => by have := hG.lenR hg; omega
  | k + 1, s, hG, hk => by
    rw [greatF]
    cases hq : moreL (nbr g) n g.obv s with
    | mk b s' =>
      cases b
      · obtain ⟨h1, h2, F, h3, h4⟩ := moreL_false hg hn hG hq
        simp only
        refine ⟨?_, F, by rw [h2]; exact h3, by rw [h1]; exact h4⟩
        have := hG.seen s'.seen
        rw [← h1, ← h2] at this
        exact this
      · obtain ⟨h1, h2, _⟩ := moreL_true hg hG hq
        exact greatF_great hg hn k s' h1 (by omega)
end Go.Proofs.YtikfffojeakjoaaGreatDoor
/- The matching as a list, the reference's single pass, plain. No program in sight, no condition. -/
namespace Go.Proofs.YtikfffojeakjoaaGreatDoor
open Go.RowKit

def pairM (p : Int × Int) : Pair := ⟨p.1, p.2⟩
/-- The pairs of a map, in the order of pairs. -/
structure ListOf (m : List (Int × Int)) (ys : List Pair) : Prop where
  perm : ys.Perm (m.map pairM)
  asc : ys.Pairwise ltP
theorem listOf_byPair {m : List (Int × Int)} (hn : (m.map Prod.fst).Nodup) {zs ys : List Pair} (h1 : zs.Perm (m.map pairM)) (h : ByPair zs ys) : ListOf m ys := by
  refine ⟨h.1.trans h1, ?_⟩
  have hnd : ys.Nodup := by
    refine (h.1.trans h1).nodup_iff.2 ?_
    refine nodup_map _ (List.Pairwise.of_map Prod.fst (fun a b h e => h (by rw [e])) hn) fun p hp q hq e => ?_
    simp only [pairM, Pair.mk.injEq] at e
    exact Prod.ext e.1 e.2
  refine (h.2.and hnd).imp fun {a b} hab => ?_
  obtain ⟨h2, h3⟩ := hab
  unfold ltP at *
  by_cases e1 : a.a = b.a
  · by_cases e2 : a.b = b.b
    · exact absurd (by cases a; cases b; simp_all) h3
    · omega
  · omega
theorem ListOf.unique {m : List (Int × Int)} {ys zs : List Pair} (h : ListOf m ys) (k : ListOf m zs) : ys = zs :=
  ord_unique ltP_asym h.asc k.asc fun n => by rw [h.perm.mem_iff, k.perm.mem_iff]
theorem ListOf.len {m : List (Int × Int)} {ys : List Pair} (h : ListOf m ys) : ys.length = m.length := by rw [h.perm.length_eq, List.length_map]
theorem ListOf.mem {m : List (Int × Int)} {ys : List Pair} (h : ListOf m ys) (hn : (m.map Prod.fst).Nodup) {p : Pair} : p ∈ ys ↔ lookM m p.a = some p.b := by
  rw [h.perm.mem_iff, List.mem_map, lookM_mem hn]
  constructor
  · rintro ⟨q, hq, rfl⟩; exact hq
  · intro hq; exact ⟨_, hq, rfl⟩
theorem ListOf.isMat {g : Graph} (hg : graphB g = true) {s : St} (hG : Good g s) {ys : List Pair} (h : ListOf s.obv ys) : IsMat g ys := by
  refine ⟨fun p hp => ?_, ?_, ?_⟩
  · have h1 := (h.mem hG.nodO).1 hp
    exact (nbr_mem hg).1 (hG.mate.link _ _ (hG.mate.fwd _ _ h1))
  · rw [List.pairwise_map]
    refine h.asc.imp_of_mem fun {a b} ha hb hab => ?_
    rcases hab with hab | ⟨e1, e2⟩
    · exact hab
    · have h1 := (h.mem hG.nodO).1 ha
      have h2 := (h.mem hG.nodO).1 hb
      rw [e1, h2] at h1
      have := Option.some.inj h1
      omega
  · refine nodup_map _ ?_ fun p hp q hq e => ?_
    · exact h.asc.imp fun hab e => by subst e; exact ltP_asym hab hab
    · have h1 := hG.mate.fwd _ _ ((h.mem hG.nodO).1 hp)
      have h2 := hG.mate.fwd _ _ ((h.mem hG.nodO).1 hq)
      rw [e, h2] at h1
      cases p; cases q
      simp_all
theorem Great.opt {g : Graph} (hg : graphB g = true) {s : St} (h : Great g s) {ys : List Pair} (hy : ListOf s.obv ys) : Opt g s.rev.length := by
  obtain ⟨F, h1, h2⟩ := h.cut
  exact ⟨ys, coverL g s.obv F, hy.isMat hg h.good, coverL_cov hg h.good.mate h1 h2, by rw [hy.len, h.good.len], coverL_len hg h.good.mate h.good.nodR h1⟩
/-- The pairs, sorted. -/
def sortM (m : List (Int × Int)) : List Pair := (m.map pairM).mergeSort fun x y => decide (¬ ltP y x)
theorem sortM_of {m : List (Int × Int)} (hn : (m.map Prod.fst).Nodup) : ListOf m (sortM m) := by
  refine listOf_byPair hn (List.Perm.refl _) ⟨List.mergeSort_perm _ _, ?_⟩
  refine (List.pairwise_mergeSort (le := fun x y : Pair => decide (¬ ltP y x)) (fun a b c h1 h2 => ?_) (fun a b => ?_) _).imp fun h => by simpa using h
  · simp only [decide_eq_true_eq] at *
    unfold ltP at *
    omega
  · simp only [Bool.or_eq_true, decide_eq_true_eq]
    unfold ltP
    omega

/-! ### The reference: each obverse once -/
def passF (N : Int → List Int) (n : Nat) : List Int → St → Nat → Nat × St
  | [], s, k => (k, s)
  | o :: os, s, k => match augF N n o ⟨s.obv, s.rev, []⟩ with
    | (true, s') => passF N n os s' (k + 1)
    | (false, s') => passF N n os s' k
theorem passF_great {g : Graph} (hg : graphB g = true) {n : Nat} (hn : g.rev.length < n) : ∀ (os : List Int) (s : St) (k : Nat) (dn : List Int) (F : Int → Bool), dn ++ os = g.obv → Good g s → (∀ a, (lookM s.obv a).isSome = true → a ∈ dn) →
    Closed (nbr g) s.rev (fun r => F r = true) → (∀ o ∈ dn, lookM s.obv o = none → ∀ r ∈ nbr g o, F r = true) → k = s.rev.length →
    Great g (passF (nbr g) n os s k).2 ∧ (passF (nbr g) n os s k).1 = (passF (nbr g) n os s k).2.rev.length
  | [], s, k, dn, F, hd, hG, hm, hC, hF, hk => by
    rw [List.append_nil] at hd
    subst hd
    exact ⟨⟨hG, F, hC, hF⟩, hk⟩
  | o :: os, s, k, dn, F, hd, hG, hm, hC, hF, hk => by
    have hd' : (dn ++ [o]) ++ os = g.obv := by simpa using hd
    have hok := (graphB_iff g).1 hg
    have hnd : g.obv.Nodup := (ascB_asc hok.ao).imp fun h e => by omega
    have hno : o ∉ dn := fun h => by
      rw [← hd, List.nodup_append] at hnd
      exact hnd.2.2 o h o (by simp) rfl
    have hf : lookM s.obv o = none := by
      cases hl : lookM s.obv o with
      | none => rfl
      | some x => exact absurd (hm o (by rw [hl]; rfl)) hno
    rw [passF]
    cases hq : augF (nbr g) n o ⟨s.obv, s.rev, []⟩ with
    | mk b s2 =>
      cases b
      · simp only
        have hFl := augF_fail (nbr_rev hg) n o _ _ hq
        have k1' : s2.rev = s.rev := hFl.rev
        have k2' : s2.obv = s.obv := hFl.obv
        have hG2 : Good g s2 := by
          have := hG.seen s2.seen
          rw [← k1', ← k2'] at this
          exact this
        obtain ⟨A, B⟩ := hFl.all (Nat.lt_of_le_of_lt (List.length_filter_le _ _) hn)
        refine passF_great hg hn os s2 k (dn ++ [o]) (fun r => F r || decide (r ∈ s2.seen)) hd' hG2 (fun a ha => ?_) (fun r hr => ?_) (fun a ha hf' r hr => ?_) (by rw [k1']; exact hk)
        · rw [k2'] at ha
          exact List.mem_append_left _ (hm a ha)
        · rw [k1']
          simp only [Bool.or_eq_true, decide_eq_true_eq] at hr ⊢
          rcases hr with hr | hr
          · obtain ⟨o', e1, e2⟩ := hC r hr
            exact ⟨o', e1, fun x hx => .inl (e2 x hx)⟩
          · rcases B r hr with hr' | ⟨o', e1, e2⟩
            · cases hr'
            · exact ⟨o', e1, fun x hx => .inr (e2 x hx)⟩
        · rw [k2'] at hf'
          simp only [Bool.or_eq_true, decide_eq_true_eq]
          rcases List.mem_append.1 ha with ha | ha
          · exact .inl (hF a ha hf' r hr)
          · simp at ha
            subst ha
            exact .inr (A r hr)
      · simp only
        obtain ⟨hG', hD⟩ := aug_good hg hG hf hq
        have hkeep := (augF_closed (N := nbr g) (F := fun r => F r = true) n o ⟨s.obv, s.rev, []⟩ hC).2 s2 hq
        refine passF_great hg hn os s2 (k + 1) (dn ++ [o]) F hd' hG' (fun a ha => ?_) (fun r hr => ?_) (fun a ha hf' r hr => ?_) (by rw [hD.len, hk])
        · by_cases e : a = o
          · rw [e]; simp
          · rw [hD.dom a e] at ha
            exact List.mem_append_left _ (hm a ha)
        · obtain ⟨o', e1, e2⟩ := hC r hr
          exact ⟨o', by rw [hkeep r hr]; exact e1, e2⟩
        · have hne : a ≠ o := fun e => by
            obtain ⟨r', _, h2, _⟩ := hD.new
            rw [e, h2] at hf'
            cases hf'
          rcases List.mem_append.1 ha with ha | ha
          · have h3 := hD.dom a hne
            rw [hf'] at h3
            have h4 : lookM s.obv a = none := by
              cases hl : lookM s.obv a with
              | none => rfl
              | some x => rw [show (⟨s.obv, s.rev, []⟩ : St).obv = s.obv from rfl, hl] at h3; cases h3
            exact hF a ha h4 r hr
          · simp at ha
            exact absurd ha hne
theorem pass_opt {g : Graph} (hg : graphB g = true) {n : Nat} (hn : g.rev.length < n) : Opt g (passF (nbr g) n g.obv ⟨[], [], []⟩ 0).1 := by
  obtain ⟨h1, h2⟩ := passF_great hg hn g.obv ⟨[], [], []⟩ 0 [] (fun _ => false) rfl (good_empty g) (fun a h => by simp [lookM] at h) (fun r h => by simp at h) (by simp) rfl
  rw [h2]
  exact h1.opt hg (sortM_of h1.good.nodO)
end Go.Proofs.YtikfffojeakjoaaGreatDoor
