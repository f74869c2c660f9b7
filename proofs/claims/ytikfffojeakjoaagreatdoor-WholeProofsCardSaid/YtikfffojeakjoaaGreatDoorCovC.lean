/- A call that touches blocks of maps; the lengths that a search leaves. No program in sight, no condition. -/
import Derived.Test.YtikfffojeakjoaaGreatDoorCovA
import Derived.Test.YtikfffojeakjoaaGreatDoorCovT
namespace Go.Proofs.YtikfffojeakjoaaGreatDoor
open Go.RowKit Go.Maps

/-- A matching and the set of what was looked at, in their three maps. -/
structure AugAt (w : World) (bo br bs : Nat) (s : St) : Prop where
  st : StAt w bo br s
  sn : SetI w bs s.seen
  n1 : bs ≠ bo
  n2 : bs ≠ br
section
variable {w w' : World} {bo br bs : Nat} {s : St}
theorem AugAt.nocell (h : AugAt w bo br bs s) : NoCell w [bo, br, bs] := by
  intro c hc o p
  simp only [List.mem_cons, List.not_mem_nil, or_false] at hc
  rcases hc with rfl | rfl | rfl
  · exact h.st.o.nocell _ (by simp) o p
  · exact h.st.r.nocell _ (by simp) o p
  · exact h.sn.nocell _ (by simp) o p
theorem AugAt.below (h : AugAt w bo br bs s) (hb : Below w.heap.size w w') : AugAt w' bo br bs s := ⟨h.st.below hb, h.sn.below hb, h.n1, h.n2⟩
theorem AugAt.see (h : AugAt w bo br bs s) {r : Int} (hr : wfI r) (hs : r ∉ s.seen) (hn : s.seen.length < maxLen) :
    ∃ w', (Instr.mapUpdate 123 (.map (some bs)) (.int .i64 r) (.bool true)).run Tryz.prog w = .ok () w' ∧ AugAt w' bo br bs (s.see r) ∧ Touch w w' [bo, br, bs] := by
  obtain ⟨w1, a1, a2, a3⟩ := h.sn.put hr hs hn
  exact ⟨w1, a1, ⟨⟨h.st.o.kept a3 (fun e => h.n1 (Option.some.inj e).symm), h.st.r.kept a3 (fun e => h.n2 (Option.some.inj e).symm), h.st.ne⟩, a2, h.n1, h.n2⟩, grown_touch a3 (by simp)⟩
end

/-! ### Lengths -/
theorem augL_len {N : Int → List Int} {R : List Int} (hR : ∀ o, ∀ r ∈ N o, r ∈ R) {n : Nat} {rec : Int → St → Bool × St} (hrec : ∀ o s, (rec o s).2.obv.length ≤ s.obv.length + n ∧ (rec o s).2.rev.length ≤ s.rev.length + n ∧ (rec o s).2.seen.length + unseen R (rec o s).2 ≤ s.seen.length + unseen R s)
    (hkeep : ∀ o s s', rec o s = (false, s') → s'.rev = s.rev ∧ s'.obv = s.obv) (o : Int) : ∀ (L : List Int) (s : St), (∀ r ∈ L, r ∈ R) →
      (augL rec o L s).2.obv.length ≤ s.obv.length + (n + 1) ∧ (augL rec o L s).2.rev.length ≤ s.rev.length + (n + 1) ∧ (augL rec o L s).2.seen.length + unseen R (augL rec o L s).2 ≤ s.seen.length + unseen R s
  | [], s, _ => ⟨by simp only [augL]; omega, by simp only [augL]; omega, Nat.le_refl _⟩
  | r :: rs, s, hL => by
    have hL' : ∀ x ∈ rs, x ∈ R := fun x hx => hL x (List.mem_cons_of_mem _ hx)
    rw [augL]
    by_cases hs : r ∈ s.seen
    · rw [if_pos hs]; exact augL_len hR hrec hkeep o rs s hL'
    · rw [if_neg hs]
      have hsee : (s.see r).seen.length + unseen R (s.see r) ≤ s.seen.length + unseen R s := by
        have := unseen_see (hL r (by simp)) hs
        simp only [St.see, List.length_append, List.length_singleton] at this ⊢
        omega
      cases hl : lookM s.rev r with
      | none =>
        have := set_len (s.see r) o r
        refine ⟨?_, ?_, ?_⟩
        · have := this.1; simp only [St.see] at this ⊢; omega
        · have := this.2; simp only [St.see] at this ⊢; omega
        · exact hsee
      | some o2 =>
        have h1 := hrec o2 (s.see r)
        cases hq : rec o2 (s.see r) with
        | mk b s2 =>
          rw [hq] at h1
          simp only [hq]
          cases b
          · obtain ⟨k1, k2⟩ := hkeep _ _ _ hq
            have h2 := augL_len hR hrec hkeep o rs s2 hL'
            rw [k1, k2] at h2
            exact ⟨h2.1, h2.2.1, Nat.le_trans h2.2.2 (Nat.le_trans h1.2.2 hsee)⟩
          · have h2 := set_len s2 o r
            refine ⟨?_, ?_, ?_⟩
            · have := h2.1; have := h1.1; simp only [St.see] at *; omega
            · have := h2.2; have := h1.2.1; simp only [St.see] at *; omega
            · exact Nat.le_trans h1.2.2 hsee
theorem augF_len {N : Int → List Int} {R : List Int} (hR : ∀ o, ∀ r ∈ N o, r ∈ R) : ∀ (n : Nat) (o : Int) (s : St),
    (augF N n o s).2.obv.length ≤ s.obv.length + n ∧ (augF N n o s).2.rev.length ≤ s.rev.length + n ∧ (augF N n o s).2.seen.length + unseen R (augF N n o s).2 ≤ s.seen.length + unseen R s
  | 0, _, _ => ⟨Nat.le_refl _, Nat.le_refl _, Nat.le_refl _⟩
  | n + 1, o, s => augL_len hR (augF_len hR n) (fun o s s' h => augF_keep n o s s' h) o (N o) s (hR o)
end Go.Proofs.YtikfffojeakjoaaGreatDoor
/- cover.augment. Condition: the arguments' maps and graph. -/
namespace Go.Proofs.YtikfffojeakjoaaGreatDoor
open Go.RowKit Go.Shelf

theorem drop_at {α : Type} {l : List α} {k : Nat} {x : α} (h : l[k]? = some x) : l.drop k = x :: l.drop (k + 1) := by
  obtain ⟨hk, rfl⟩ := List.getElem?_eq_some_iff.1 h
  exact List.drop_eq_getElem_cons hk
end Go.Proofs.YtikfffojeakjoaaGreatDoor
