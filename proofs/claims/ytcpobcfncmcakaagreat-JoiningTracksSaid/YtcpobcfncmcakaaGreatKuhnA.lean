/- Alternating paths, plain: the search as a function of lists; what it leaves when it fails and when it succeeds. No program, no condition. -/
import Derived.Test.YtcpobcfncmcakaaGreatMapK
namespace Go.Proofs.YtcpobcfncmcakaaGreat
open Go.RowKit

/-- A matching (both ways), and the reverses that were looked at. -/
structure St where
  obv : List (Int × Int)
  rev : List (Int × Int)
  seen : List Int
def St.see (s : St) (r : Int) : St := ⟨s.obv, s.rev, s.seen ++ [r]⟩
def St.set (s : St) (o r : Int) : St := ⟨putM s.obv o r, putM s.rev r o, s.seen⟩
/-- The search goes through the partners of o. -/
def augL (rec : Int → St → Bool × St) (o : Int) : List Int → St → Bool × St
  | [], s => (false, s)
  | r :: rs, s =>
    if r ∈ s.seen then augL rec o rs s else
      match lookM s.rev r with
      | none => (true, (s.see r).set o r)
      | some o2 =>
        match rec o2 (s.see r) with
        | (true, s2) => (true, s2.set o r)
        | (false, s2) => augL rec o rs s2
def augF (N : Int → List Int) : Nat → Int → St → Bool × St
  | 0, _, s => (false, s)
  | n + 1, o, s => augL (augF N n) o (N o) s

def unseen (R : List Int) (s : St) : Nat := (R.filter fun r => decide (r ∉ s.seen)).length
theorem unseen_see {R : List Int} {s : St} {r : Int} (hr : r ∈ R) (hs : r ∉ s.seen) : unseen R (s.see r) < unseen R s := by
  unfold unseen St.see
  have h1 : (R.filter fun x => decide (x ∉ s.seen ++ [r])) = (R.filter fun x => decide (x ∉ s.seen)).filter fun x => decide (x ≠ r) := by
    rw [List.filter_filter]
    refine List.filter_congr fun x _ => ?_
    rw [Bool.eq_iff_iff]
    simp
    grind
  simp only
  rw [h1]
  have hm : r ∈ R.filter fun x => decide (x ∉ s.seen) := by simp [hr, hs]
  generalize (R.filter fun x => decide (x ∉ s.seen)) = L at hm
  induction L with
  | nil => cases hm
  | cons a L ih =>
    by_cases ha : a = r
    · subst ha
      rw [List.filter_cons_of_neg (by simp)]
      have := List.length_filter_le (fun x => decide (x ≠ a)) L
      simp only [List.length_cons]
      omega
    · rw [List.filter_cons_of_pos (by simpa using ha), List.length_cons, List.length_cons]
      have := ih (by rcases List.mem_cons.1 hm with h | h; exact absurd h.symm ha; exact h)
      omega
theorem unseen_mono {R : List Int} {s s' : St} (h : ∀ r ∈ s.seen, r ∈ s'.seen) : unseen R s' ≤ unseen R s := by
  unfold unseen
  induction R with
  | nil => simp
  | cons a R ih =>
    by_cases h1 : a ∈ s.seen
    · rw [List.filter_cons_of_neg (by simp [h a h1]), List.filter_cons_of_neg (by simp [h1])]
      exact ih
    · rw [List.filter_cons_of_pos (p := fun r => decide (r ∉ s.seen)) (by simpa using h1)]
      by_cases h2 : a ∈ s'.seen
      · rw [List.filter_cons_of_neg (by simpa using h2), List.length_cons]; omega
      · rw [List.filter_cons_of_pos (by simpa using h2), List.length_cons, List.length_cons]; omega

/-- What a failed search leaves. -/
structure Failed (N : Int → List Int) (R : List Int) (n : Nat) (L : List Int) (s s' : St) : Prop where
  obv : s'.obv = s.obv
  rev : s'.rev = s.rev
  sub : ∀ r ∈ s.seen, r ∈ s'.seen
  all : unseen R s < n → (∀ r ∈ L, r ∈ s'.seen) ∧ ∀ r ∈ s'.seen, r ∈ s.seen ∨ ∃ o, lookM s.rev r = some o ∧ ∀ x ∈ N o, x ∈ s'.seen
theorem augL_fail {N : Int → List Int} {R : List Int} (hR : ∀ o, ∀ r ∈ N o, r ∈ R) {n : Nat} {rec : Int → St → Bool × St} (hrec : ∀ o s s', rec o s = (false, s') → Failed N R n (N o) s s') (o : Int) :
    ∀ (L : List Int) (s s' : St), (∀ r ∈ L, r ∈ R) → augL rec o L s = (false, s') → Failed N R (n + 1) L s s'
  | [], s, s', _, h => by
    simp only [augL, Prod.mk.injEq] at h
    obtain ⟨_, rfl⟩ := h
    exact ⟨rfl, rfl, fun _ h => h, fun _ => ⟨by simp, fun r hr => .inl hr⟩⟩
  | r :: rs, s, s', hL, h => by
    have hL' : ∀ x ∈ rs, x ∈ R := fun x hx => hL x (List.mem_cons_of_mem _ hx)
    rw [augL] at h
    by_cases hs : r ∈ s.seen
    · rw [if_pos hs] at h
      have H := augL_fail hR hrec o rs s s' hL' h
      refine ⟨H.obv, H.rev, H.sub, fun hu => ⟨fun x hx => ?_, (H.all hu).2⟩⟩
      rcases List.mem_cons.1 hx with rfl | hx
      · exact H.sub _ hs
      · exact (H.all hu).1 x hx
    · rw [if_neg hs] at h
      cases hl : lookM s.rev r with
      | none => simp [hl] at h
      | some o2 =>
        cases hq : rec o2 (s.see r) with
        | mk b s2 =>
          simp only [hl, hq] at h
          cases b
          · simp only at h
            have H1 := hrec o2 _ _ hq
            have H2 := augL_fail hR hrec o rs s2 s' hL' h
            have hsub1 : ∀ x ∈ s.seen, x ∈ s2.seen := fun x hx => H1.sub x (by simp [St.see, hx])
            refine ⟨H2.obv.trans H1.obv, H2.rev.trans H1.rev, fun x hx => H2.sub x (hsub1 x hx), fun hu => ?_⟩
            have hr : r ∈ R := hL r (by simp)
            have hu1 : unseen R (s.see r) < n := by have := unseen_see hr hs; omega
            have hu2 : unseen R s2 < n + 1 := by have := unseen_mono (R := R) hsub1; omega
            obtain ⟨A1, B1⟩ := H1.all hu1
            obtain ⟨A2, B2⟩ := H2.all hu2
            have hrev : s2.rev = s.rev := H1.rev
            refine ⟨fun x hx => ?_, fun x hx => ?_⟩
            · rcases List.mem_cons.1 hx with rfl | hx
              · exact H2.sub _ (H1.sub _ (by simp [St.see]))
              · exact A2 x hx
            · rcases B2 x hx with h3 | ⟨o', h3, h4⟩
              · rcases B1 x h3 with h5 | ⟨o', h5, h6⟩
                · simp only [St.see, List.mem_append, List.mem_singleton] at h5
                  rcases h5 with h5 | rfl
                  · exact .inl h5
                  · exact .inr ⟨o2, hl, fun y hy => H2.sub y (A1 y hy)⟩
                · exact .inr ⟨o', h5, fun y hy => H2.sub y (h6 y hy)⟩
              · rw [hrev] at h3
                exact .inr ⟨o', h3, h4⟩
          · simp at h
theorem augF_fail {N : Int → List Int} {R : List Int} (hR : ∀ o, ∀ r ∈ N o, r ∈ R) : ∀ (n : Nat) (o : Int) (s s' : St), augF N n o s = (false, s') → Failed N R n (N o) s s'
  | 0, o, s, s', h => by
    simp only [augF, Prod.mk.injEq] at h
    obtain ⟨_, rfl⟩ := h
    exact ⟨rfl, rfl, fun _ h => h, fun h => absurd h (by omega)⟩
  | n + 1, o, s, s', h => augL_fail hR (augF_fail hR n) o (N o) s s' (hR o) h

/-- The two maps of a matching are one another's inverses, along links. -/
structure Mate (N : Int → List Int) (s : St) : Prop where
  fwd : ∀ a r, lookM s.obv a = some r → lookM s.rev r = some a
  bwd : ∀ a r, lookM s.rev r = some a → lookM s.obv a = some r
  link : ∀ a r, lookM s.rev r = some a → r ∈ N a
/-- What a search that succeeded leaves. -/
structure Done (N : Int → List Int) (o : Int) (s s' : St) : Prop where
  new : ∃ r, r ∉ s.seen ∧ lookM s'.obv o = some r ∧ lookM s'.rev r = some o ∧ ∀ x, lookM s'.rev x = some o → x = r ∨ x ∈ s.seen
  fwd : ∀ a r, a ≠ o → lookM s'.obv a = some r → lookM s'.rev r = some a
  bwd : ∀ a r, a ≠ o → lookM s'.rev r = some a → lookM s'.obv a = some r
  link : ∀ a r, lookM s'.rev r = some a → r ∈ N a
  old : ∀ r ∈ s.seen, lookM s'.rev r = lookM s.rev r
  rest : ∀ a, a ≠ o → (∀ r, lookM s.obv a = some r → r ∈ s.seen) → lookM s'.obv a = lookM s.obv a
  dom : ∀ a, a ≠ o → (lookM s'.obv a).isSome = (lookM s.obv a).isSome
  domR : ∀ r, (lookM s.rev r).isSome = true → (lookM s'.rev r).isSome = true
  len : s'.rev.length = s.rev.length + 1
  lenO : s'.obv.length = s.obv.length + (if (lookM s.obv o).isSome = true then 0 else 1)
  sub : ∀ r ∈ s.seen, r ∈ s'.seen
theorem isSome_mem {κ β : Type} [DecidableEq κ] {m : List (κ × β)} {x : κ} : (lookM m x).isSome = true ↔ x ∈ m.map Prod.fst := by
  cases h : lookM m x with
  | none => simp [lookM_none.1 h]
  | some y =>
    simp
    exact ⟨y, lookM_some h⟩
theorem putM_len' {κ β : Type} [DecidableEq κ] (m : List (κ × β)) (x : κ) (y : β) : (putM m x y).length = m.length + (if (lookM m x).isSome = true then 0 else 1) := by
  rw [putM_len]
  by_cases h : x ∈ m.map Prod.fst
  · rw [if_pos h, if_pos (isSome_mem.2 h), Nat.add_zero]
  · rw [if_neg h, if_neg (fun h' => h (isSome_mem.1 h'))]
end Go.Proofs.YtcpobcfncmcakaaGreat
/- Alternating paths, plain: what a search leaves that succeeds; closed sets of reverses. No program, no condition. -/
namespace Go.Proofs.YtcpobcfncmcakaaGreat
open Go.RowKit

section
variable {N : Int → List Int}
theorem Mate.see {s : St} (h : Mate N s) (r : Int) : Mate N (s.see r) := ⟨h.fwd, h.bwd, h.link⟩
theorem Mate.inj {s : St} (h : Mate N s) {a r r' : Int} (h1 : lookM s.rev r = some a) (h2 : lookM s.rev r' = some a) : r = r' := by
  have e1 := h.bwd a r h1
  have e2 := h.bwd a r' h2
  rw [e1] at e2
  exact Option.some.inj e2

/-- The search takes a free reverse. -/
theorem done_free {o r : Int} {s : St} (hM : Mate N s) (ho : ∀ x, lookM s.rev x = some o → x ∈ s.seen) (hs : r ∉ s.seen) (hl : lookM s.rev r = none) (hN : r ∈ N o) : Done N o s ((s.see r).set o r) where
  new := by
    refine ⟨r, hs, lookM_same _ _ _, lookM_same _ _ _, fun x hx => ?_⟩
    simp only [St.set, St.see] at hx
    by_cases e : r = x
    · exact .inl e.symm
    · rw [lookM_other _ _ e] at hx
      exact .inr (ho x hx)
  fwd a x ha hx := by
    simp only [St.set, St.see] at hx ⊢
    rw [lookM_other _ _ (fun e => ha e.symm)] at hx
    have h1 := hM.fwd a x hx
    rw [lookM_other _ _ (fun e => by rw [← e, hl] at h1; cases h1)]
    exact h1
  bwd a x ha hx := by
    simp only [St.set, St.see] at hx ⊢
    by_cases e : r = x
    · subst e
      rw [lookM_same] at hx
      exact absurd (Option.some.inj hx).symm ha
    · rw [lookM_other _ _ e] at hx
      rw [lookM_other _ _ (fun e' => ha e'.symm)]
      exact hM.bwd a x hx
  link a x hx := by
    simp only [St.set, St.see] at hx
    by_cases e : r = x
    · subst e
      rw [lookM_same] at hx
      rw [← Option.some.inj hx]; exact hN
    · rw [lookM_other _ _ e] at hx
      exact hM.link a x hx
  old x hx := by
    simp only [St.set, St.see]
    exact lookM_other _ _ (fun e => hs (e ▸ hx))
  rest a ha _ := by simp only [St.set, St.see]; exact lookM_other _ _ (fun e => ha e.symm)
  dom a ha := by simp only [St.set, St.see]; rw [lookM_other _ _ (fun e => ha e.symm)]
  domR x hx := by
    simp only [St.set, St.see]
    by_cases e : r = x
    · subst e; rw [lookM_same]; rfl
    · rw [lookM_other _ _ e]; exact hx
  len := by simp only [St.set, St.see]; rw [putM_len', hl]; rfl
  lenO := by simp only [St.set, St.see]; rw [putM_len']
  sub x hx := by simp [St.set, St.see, hx]

/-- The search goes on from the mate of r, and succeeds there. -/
theorem done_step {o o2 r : Int} {s s2 : St} (hM : Mate N s) (ho : ∀ x, lookM s.rev x = some o → x ∈ s.seen) (hs : r ∉ s.seen) (hl : lookM s.rev r = some o2) (hN : r ∈ N o) (hD : Done N o2 (s.see r) s2) : Done N o s (s2.set o r) := by
  have hne : o2 ≠ o := fun e => hs (ho r (by rw [hl, e]))
  have hrs : r ∈ (s.see r).seen := by simp [St.see]
  have hsub : ∀ x ∈ s.seen, x ∈ (s.see r).seen := fun x hx => by simp [St.see, hx]
  have hr2 : lookM s2.rev r = some o2 := (hD.old r hrs).trans hl
  have hoo : lookM s2.obv o = lookM s.obv o := hD.rest o (fun e => hne e.symm) fun x hx => hsub x (ho x (hM.fwd o x hx))
  obtain ⟨r2, n1, n2, n3, n4⟩ := hD.new
  have hr2r : r2 ≠ r := fun e => n1 (e ▸ hrs)
  have hu : ∀ x, lookM s2.rev x = some o2 → x = r2 ∨ x = r := fun x hx => by
    rcases n4 x hx with h | h
    · exact .inl h
    · right
      rw [hD.old x h] at hx
      exact hM.inj hx hl
  refine ⟨⟨r, hs, lookM_same _ _ _, lookM_same _ _ _, fun x hx => ?_⟩, fun a x ha hx => ?_, fun a x ha hx => ?_, fun a x hx => ?_, fun x hx => ?_, fun a ha hm => ?_, fun a ha => ?_, fun x hx => ?_, ?_, ?_, fun x hx => hD.sub x (hsub x hx)⟩
  · simp only [St.set] at hx
    by_cases e : r = x
    · exact .inl e.symm
    · rw [lookM_other _ _ e] at hx
      right
      have h1 := hD.bwd o x (fun e => hne e.symm) hx
      rw [hoo] at h1
      exact ho x (hM.fwd o x h1)
  · simp only [St.set] at hx ⊢
    rw [lookM_other _ _ (fun e => ha e.symm)] at hx
    by_cases e2 : a = o2
    · subst e2
      rw [n2] at hx
      rw [← Option.some.inj hx, lookM_other _ _ (fun e => hr2r e.symm)]
      exact n3
    · have h1 := hD.fwd a x e2 hx
      rw [lookM_other _ _ (fun e => by rw [← e, hr2] at h1; exact e2 (Option.some.inj h1).symm)]
      exact h1
  · simp only [St.set] at hx ⊢
    by_cases e : r = x
    · subst e
      rw [lookM_same] at hx
      exact absurd (Option.some.inj hx).symm ha
    · rw [lookM_other _ _ e] at hx
      rw [lookM_other _ _ (fun e' => ha e'.symm)]
      by_cases e2 : a = o2
      · subst e2
        rcases hu x hx with rfl | rfl
        · exact n2
        · exact absurd rfl e
      · exact hD.bwd a x e2 hx
  · simp only [St.set] at hx
    by_cases e : r = x
    · subst e
      rw [lookM_same] at hx
      rw [← Option.some.inj hx]; exact hN
    · rw [lookM_other _ _ e] at hx
      exact hD.link a x hx
  · simp only [St.set]
    rw [lookM_other _ _ (fun e => hs (by rw [e]; exact hx))]
    exact hD.old x (hsub x hx)
  · simp only [St.set]
    rw [lookM_other _ _ (fun e => ha e.symm)]
    exact hD.rest a (fun e => hs (hm r (by rw [e]; exact hM.bwd o2 r hl))) fun x hx => hsub x (hm x hx)
  · simp only [St.set]
    rw [lookM_other _ _ (fun e => ha e.symm)]
    by_cases e2 : a = o2
    · subst e2
      rw [n2, hM.bwd a r hl]
      rfl
    · exact hD.dom a e2
  · simp only [St.set]
    by_cases e : r = x
    · subst e; rw [lookM_same]; rfl
    · rw [lookM_other _ _ e]; exact hD.domR x hx
  · simp only [St.set]
    rw [putM_len', hr2, hD.len]
    rfl
  · simp only [St.set]
    have h1 := hD.lenO
    have h2 : lookM (s.see r).obv o2 = some r := hM.bwd o2 r hl
    rw [h2] at h1
    simp only [Option.isSome_some, if_true, Nat.add_zero] at h1
    rw [putM_len', hoo, h1]
    rfl
/-- A failed search ahead of one that succeeds. -/
theorem done_after {o : Int} {s s2 s' : St} (ho : ∀ x, lookM s.rev x = some o → x ∈ s.seen) (h1 : s2.obv = s.obv) (h2 : s2.rev = s.rev) (h3 : ∀ r ∈ s.seen, r ∈ s2.seen) (hD : Done N o s2 s') : Done N o s s' := by
  obtain ⟨r, n1, n2, n3, n4⟩ := hD.new
  refine ⟨⟨r, fun h => n1 (h3 r h), n2, n3, fun x hx => ?_⟩, hD.fwd, hD.bwd, hD.link, fun x hx => by rw [hD.old x (h3 x hx), h2], fun a ha hm => by rw [hD.rest a ha (fun x hx => h3 x (hm x (by rw [← h1]; exact hx))), h1],
    fun a ha => by rw [hD.dom a ha, h1], fun x hx => hD.domR x (by rw [h2]; exact hx), by rw [hD.len, h2], by rw [hD.lenO, h1], fun x hx => hD.sub x (h3 x hx)⟩
  rcases n4 x hx with h | h
  · exact .inl h
  · right
    rw [hD.old x h, h2] at hx
    exact ho x hx

theorem augL_done {R : List Int} (hR : ∀ o, ∀ r ∈ N o, r ∈ R) {n : Nat} {rec : Int → St → Bool × St} (hfail : ∀ o s s', rec o s = (false, s') → Failed N R n (N o) s s')
    (hrec : ∀ o s s', Mate N s → (∀ x, lookM s.rev x = some o → x ∈ s.seen) → rec o s = (true, s') → Done N o s s') (o : Int) :
    ∀ (L : List Int) (s s' : St), (∀ r ∈ L, r ∈ N o) → Mate N s → (∀ x, lookM s.rev x = some o → x ∈ s.seen) → augL rec o L s = (true, s') → Done N o s s'
  | [], s, s', _, _, _, h => by simp [augL] at h
  | r :: rs, s, s', hL, hM, ho, h => by
    have hL' : ∀ x ∈ rs, x ∈ N o := fun x hx => hL x (List.mem_cons_of_mem _ hx)
    rw [augL] at h
    by_cases hs : r ∈ s.seen
    · rw [if_pos hs] at h
      exact augL_done hR hfail hrec o rs s s' hL' hM ho h
    · rw [if_neg hs] at h
      cases hl : lookM s.rev r with
      | none =>
        simp only [hl, Prod.mk.injEq, true_and] at h
        subst h
        exact done_free hM ho hs hl (hL r (by simp))
      | some o2 =>
        have ho2 : ∀ x, lookM (s.see r).rev x = some o2 → x ∈ (s.see r).seen := fun x hx => by
          have : x = r := hM.inj hx hl
          rw [this]; simp [St.see]
        cases hq : rec o2 (s.see r) with
        | mk b s2 =>
          simp only [hl, hq] at h
          cases b
          · simp only at h
            have H1 := hfail o2 _ _ hq
            have e1 : s2.obv = s.obv := H1.obv
            have e2 : s2.rev = s.rev := H1.rev
            have e3 : ∀ x ∈ s.seen, x ∈ s2.seen := fun x hx => H1.sub x (by simp [St.see, hx])
            have hM2 : Mate N s2 := ⟨by rw [e1, e2]; exact hM.fwd, by rw [e1, e2]; exact hM.bwd, by rw [e2]; exact hM.link⟩
            have := augL_done hR hfail hrec o rs s2 s' hL' hM2 (fun x hx => e3 x (ho x (by rw [← e2]; exact hx))) h
            exact done_after ho e1 e2 e3 this
          · simp only [Prod.mk.injEq, true_and] at h
            subst h
            exact done_step hM ho hs hl (hL r (by simp)) (hrec o2 _ _ (hM.see r) ho2 hq)
theorem augF_done {R : List Int} (hR : ∀ o, ∀ r ∈ N o, r ∈ R) : ∀ (n : Nat) (o : Int) (s s' : St), Mate N s → (∀ x, lookM s.rev x = some o → x ∈ s.seen) → augF N n o s = (true, s') → Done N o s s'
  | 0, o, s, s', _, _, h => by simp [augF] at h
  | n + 1, o, s, s', hM, ho, h => augL_done hR (augF_fail hR n) (augF_done hR n) o (N o) s s' (fun _ h => h) hM ho h
/-- A search from a free obverse that succeeds leaves a matching with one pair more. -/
theorem Done.mate {o : Int} {s s' : St} (h : Done N o s s') (hf : lookM s.obv o = none) (hM : Mate N s) : Mate N s' := by
  obtain ⟨r, n1, n2, n3, n4⟩ := h.new
  have hfr : ∀ x, lookM s.rev x ≠ some o := fun x hx => by rw [hM.bwd o x hx] at hf; cases hf
  have hun : ∀ x, lookM s'.rev x = some o → x = r := fun x hx => by
    rcases n4 x hx with e | e
    · exact e
    · rw [h.old x e] at hx
      exact absurd hx (hfr x)
  refine ⟨fun a x hx => ?_, fun a x hx => ?_, h.link⟩
  · by_cases e : a = o
    · subst e
      rw [n2] at hx
      rw [← Option.some.inj hx]; exact n3
    · exact h.fwd a x e hx
  · by_cases e : a = o
    · subst e
      rw [hun x hx]; exact n2
    · exact h.bwd a x e hx

/-- A set of reverses that alternating paths do not leave. -/
def Closed (N : Int → List Int) (rev : List (Int × Int)) (F : Int → Prop) : Prop := ∀ r, F r → ∃ o, lookM rev r = some o ∧ ∀ x ∈ N o, F x
theorem augL_closed {F : Int → Prop} {rec : Int → St → Bool × St} (hkeep : ∀ o s s', rec o s = (false, s') → s'.rev = s.rev)
    (hin : ∀ o s, Closed N s.rev F → (∀ x ∈ N o, F x) → (rec o s).1 = false) (hout : ∀ o s s', Closed N s.rev F → rec o s = (true, s') → ∀ r, F r → lookM s'.rev r = lookM s.rev r) (o : Int) :
    ∀ (L : List Int) (s : St), Closed N s.rev F → ((∀ x ∈ L, F x) → (augL rec o L s).1 = false) ∧ ∀ s', augL rec o L s = (true, s') → ∀ r, F r → lookM s'.rev r = lookM s.rev r
  | [], s, _ => ⟨fun _ => rfl, fun s' h => by simp [augL] at h⟩
  | r :: rs, s, hC => by
    have ih := augL_closed hkeep hin hout o rs
    rw [augL]
    by_cases hs : r ∈ s.seen
    · rw [if_pos hs]
      exact ⟨fun h => (ih s hC).1 fun x hx => h x (List.mem_cons_of_mem _ hx), (ih s hC).2⟩
    · rw [if_neg hs]
      cases hl : lookM s.rev r with
      | none =>
        simp only
        have hnF : ¬ F r := fun h => by obtain ⟨o', h1, _⟩ := hC r h; rw [hl] at h1; cases h1
        refine ⟨fun h => absurd (h r (by simp)) hnF, fun s' h x hx => ?_⟩
        simp only [Prod.mk.injEq, true_and] at h
        subst h
        simp only [St.set, St.see]
        exact lookM_other _ _ (fun e => hnF (e ▸ hx))
      | some o2 =>
        have hC1 : Closed N (s.see r).rev F := hC
        have hFr : F r → (rec o2 (s.see r)).1 = false := fun h => by
          obtain ⟨o', h1, h2⟩ := hC r h
          rw [hl] at h1
          cases h1
          exact hin o2 _ hC1 h2
        cases hq : rec o2 (s.see r) with
        | mk b s2 =>
          rw [hq] at hFr
          simp only [hq]
          cases b
          · simp only
            have e2 : s2.rev = s.rev := hkeep o2 (s.see r) s2 hq
            have hC2 : Closed N s2.rev F := by rw [e2]; exact hC
            exact ⟨fun h => (ih s2 hC2).1 fun x hx => h x (List.mem_cons_of_mem _ hx), fun s' h x hx => by rw [(ih s2 hC2).2 s' h x hx, e2]⟩
          · have hnF : ¬ F r := fun h => by cases hFr h
            refine ⟨fun h => absurd (h r (by simp)) hnF, fun s' h x hx => ?_⟩
            simp only [Prod.mk.injEq, true_and] at h
            subst h
            simp only [St.set]
            rw [lookM_other _ _ (fun e => hnF (by rw [e]; exact hx))]
            exact hout o2 _ _ hC1 hq x hx
theorem augF_keep : ∀ (n : Nat) (o : Int) (s s' : St), augF N n o s = (false, s') → s'.rev = s.rev ∧ s'.obv = s.obv := fun n o s s' h => by
  have aux : ∀ (rec : Int → St → Bool × St), (∀ o s s', rec o s = (false, s') → s'.rev = s.rev ∧ s'.obv = s.obv) → ∀ (o : Int) (L : List Int) (s s' : St), augL rec o L s = (false, s') → s'.rev = s.rev ∧ s'.obv = s.obv := by
    intro rec hrec o L
    induction L with
    | nil => intro s s' h; simp only [augL, Prod.mk.injEq, true_and] at h; subst h; exact ⟨rfl, rfl⟩
    | cons r rs ih =>
      intro s s' h
      rw [augL] at h
      by_cases hs : r ∈ s.seen
      · rw [if_pos hs] at h; exact ih s s' h
      · rw [if_neg hs] at h
        cases hl : lookM s.rev r with
        | none => simp [hl] at h
        | some o2 =>
          cases hq : rec o2 (s.see r) with
          | mk b s2 =>
            simp only [hl, hq] at h
            cases b
            · simp only at h
              have h1 := hrec _ _ _ hq
              have h2 := ih s2 s' h
              exact ⟨h2.1.trans h1.1, h2.2.trans h1.2⟩
            · simp at h
  induction n generalizing o s s' with
  | zero => simp only [augF, Prod.mk.injEq, true_and] at h; subst h; exact ⟨rfl, rfl⟩
  | succ n ih => exact aux _ ih o (N o) s s' h
theorem augF_closed {F : Int → Prop} : ∀ (n : Nat) (o : Int) (s : St), Closed N s.rev F → ((∀ x ∈ N o, F x) → (augF N n o s).1 = false) ∧ ∀ s', augF N n o s = (true, s') → ∀ r, F r → lookM s'.rev r = lookM s.rev r
  | 0, o, s, _ => ⟨fun _ => rfl, fun s' h => by simp [augF] at h⟩
  | n + 1, o, s, hC => augL_closed (fun o s s' h => (augF_keep n o s s' h).1) (fun o s hC h => (augF_closed n o s hC).1 h) (fun o s s' hC h => (augF_closed n o s hC).2 s' h) o (N o) s hC
end
end Go.Proofs.YtcpobcfncmcakaaGreat
