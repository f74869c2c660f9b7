/- A call that touches blocks of maps; the lengths that a search leaves. No program in sight, no condition. -/
import Derived.Test.YtnaoiochfdipiaaCovA
namespace Go.Proofs.Ytnaoiochfdipiaa
open Go.RowKit Go.Maps

/-- Of what was there nothing has turned but the blocks S. -/
structure Touch (w w' : World) (S : List Nat) : Prop where
  os : w'.os = w.os
  tape : w'.tape = w.tape
  output : w'.output = w.output
  size : w.heap.size ≤ w'.heap.size
  block : ∀ k, k < w.heap.size → k ∉ S → w'.heap[k]? = w.heap[k]?
section
variable {w w' w'' : World} {S : List Nat}
theorem Touch.refl (w : World) (S : List Nat) : Touch w w S := ⟨rfl, rfl, rfl, Nat.le_refl _, fun _ _ _ => rfl⟩
theorem Touch.trans (h : Touch w w' S) (k : Touch w' w'' S) : Touch w w'' S :=
  ⟨k.os.trans h.os, k.tape.trans h.tape, k.output.trans h.output, Nat.le_trans h.size k.size, fun i hi hn => (k.block i (Nat.lt_of_lt_of_le hi h.size) hn).trans (h.block i hi hn)⟩
theorem touch_below (h : Below w.heap.size w w') (S : List Nat) : Touch w w' S := ⟨h.os, h.tape, h.output, h.size, fun i hi _ => h.block i hi⟩
theorem grown_touch {b : Nat} (h : w.grownBy w' (some b)) (hb : b ∈ S) : Touch w w' S := ⟨h.os, h.tape, h.output, h.size, fun i hi hn => h.block i hi fun e => hn (by cases e; exact hb)⟩
theorem Touch.below {B : Nat} (h : Touch w w' S) (hS : ∀ b ∈ S, B ≤ b) (hB : B ≤ w.heap.size) : Below B w w' := ⟨h.os, h.tape, h.output, h.size, fun i hi => h.block i (by omega) fun hm => by have := hS i hm; omega⟩
/-- A block that holds a map has no cells. -/
def NoCell (w : World) (S : List Nat) : Prop := ∀ b ∈ S, ∀ o p, w.cell? ⟨b, o, p⟩ = none
theorem cell_touch (h : Touch w w' S) (hn : NoCell w S) {a : Addr} {v : Value} (hc : w.cell? a = some v) : w'.cell? a = some v := by
  have hlt : a.block < w.heap.size := by
    unfold World.cell? at hc
    split at hc
    · exact (Array.getElem?_eq_some_iff.1 (by assumption)).1
    · cases hc
  rw [World.cell?_of_block (h.block a.block hlt fun hm => by
    have := hn a.block hm a.off a.spot
    rw [show (⟨a.block, a.off, a.spot⟩ : Addr) = a from rfl, hc] at this
    cases this)]
  exact hc
theorem SlOf.touch {α : Type} {enc : α → List Value} {k : Nat} {v : Value} {xs : List α} (h : SlOf enc k w v xs) (ht : Touch w w' S) (hn : NoCell w S) : SlOf enc k w' v xs := by
  obtain ⟨A, c, e, h1, h2, h3, h4⟩ := h
  refine ⟨A, c, e, h1, h2, h3, fun hp => ?_⟩
  obtain ⟨b, o, e, hb, hc⟩ := h4 hp
  exact ⟨b, o, e, Nat.lt_of_lt_of_le hb ht.size, fun j u hu => cell_touch ht hn (hc j u hu)⟩
theorem GraphAt.touch {v : Value} {g : Graph} (h : GraphAt w v g) (ht : Touch w w' S) (hn : NoCell w S) : GraphAt w' v g := by
  obtain ⟨v1, v2, v3, e, h1, h2, h3⟩ := h
  exact ⟨v1, v2, v3, e, SlOf.touch h1 ht hn, SlOf.touch h2 ht hn, SlOf.touch h3 ht hn⟩
theorem MapII.nocell {b : Nat} {m : List (Int × Int)} (h : MapII w b m) : NoCell w [b] := by
  obtain ⟨⟨D, ⟨es, clock, hb, _⟩, _⟩, _, _⟩ := h
  intro c hc o p
  rw [List.mem_singleton] at hc
  subst hc
  simp [World.cell?, hb]
theorem SetI.nocell {b : Nat} {l : List Int} (h : SetI w b l) : NoCell w [b] := by
  obtain ⟨_, ⟨D, ⟨es, clock, hb, _⟩, _⟩, _, _⟩ := h
  intro c hc o p
  rw [List.mem_singleton] at hc
  subst hc
  simp [World.cell?, hb]
end
/-- A matching and the set of what was looked at, in their three maps. -/
structure AugAt (w : World) (bo br bs : Nat) (s : St) : Prop where
  st : StAt w bo br s
  sn : SetI w bs s.seen
  n1 : bs ≠ bo
  n2 : bs ≠ br
section
variable {w w' : World} {bo br bs : Nat} {s : St}
theorem AugAt.nocell (h : AugAt w bo br bs s) : NoCell w [bo, br, bs] := by
  intro c hc o p
  simp only [List.mem_cons, List.not_mem_nil, or_false] at hc
  rcases hc with rfl | rfl | rfl
  · exact h.st.o.nocell _ (by simp) o p
  · exact h.st.r.nocell _ (by simp) o p
  · exact h.sn.nocell _ (by simp) o p
theorem AugAt.below (h : AugAt w bo br bs s) (hb : Below w.heap.size w w') : AugAt w' bo br bs s := ⟨h.st.below hb, h.sn.below hb, h.n1, h.n2⟩
theorem AugAt.see (h : AugAt w bo br bs s) {r : Int} (hr : wfI r) (hs : r ∉ s.seen) (hn : s.seen.length < maxLen) :
    ∃ w', (Instr.mapUpdate 69 (.map (some bs)) (.int .i64 r) (.bool true)).run Try.prog w = .ok () w' ∧ AugAt w' bo br bs (s.see r) ∧ Touch w w' [bo, br, bs] := by
  obtain ⟨w1, a1, a2, a3⟩ := h.sn.put hr hs hn
  exact ⟨w1, a1, ⟨⟨h.st.o.kept a3 (fun e => h.n1 (Option.some.inj e).symm), h.st.r.kept a3 (fun e => h.n2 (Option.some.inj e).symm), h.st.ne⟩, a2, h.n1, h.n2⟩, grown_touch a3 (by simp)⟩
theorem AugAt.set (h : AugAt w bo br bs s) {o r : Int} (ho : wfI o) (hr : wfI r) (h1 : s.obv.length < maxLen) (h2 : s.rev.length < maxLen) :
    ∃ w1 w2, (Instr.mapUpdate 60 (.map (some bo)) (.int .i64 o) (.int .i64 r)).run Try.prog w = .ok () w1 ∧ (Instr.mapUpdate 60 (.map (some br)) (.int .i64 r) (.int .i64 o)).run Try.prog w1 = .ok () w2 ∧
      AugAt w2 bo br bs (s.set o r) ∧ w.grownBy w1 (some bo) ∧ w1.grownBy w2 (some br) := by
  obtain ⟨w1, w2, a1, a2, a3, g1, g2⟩ := h.st.set ho hr h1 h2
  exact ⟨w1, w2, a1, a2, ⟨a3, (h.sn.kept g1 (fun e => h.n1 (Option.some.inj e))).kept g2 (fun e => h.n2 (Option.some.inj e)), h.n1, h.n2⟩, g1, g2⟩
end

/-! ### Lengths -/
theorem augL_len {N : Int → List Int} {R : List Int} (hR : ∀ o, ∀ r ∈ N o, r ∈ R) {n : Nat} {rec : Int → St → Bool × St} (hrec : ∀ o s, (rec o s).2.obv.length ≤ s.obv.length + n ∧ (rec o s).2.rev.length ≤ s.rev.length + n ∧ (rec o s).2.seen.length + unseen R (rec o s).2 ≤ s.seen.length + unseen R s)
    (hkeep : ∀ o s s', rec o s = (false, s') → s'.rev = s.rev ∧ s'.obv = s.obv) (o : Int) : ∀ (L : List Int) (s : St), (∀ r ∈ L, r ∈ R) →
      (augL rec o L s).2.obv.length ≤ s.obv.length + (n + 1) ∧ (augL rec o L s).2.rev.length ≤ s.rev.length + (n + 1) ∧ (augL rec o L s).2.seen.length + unseen R (augL rec o L s).2 ≤ s.seen.length + unseen R s
  | [], s, _ => ⟨by simp only [augL]; omega, by simp only [augL]; omega, Nat.le_refl _⟩
  | r :: rs, s, hL => by
    have hL' : ∀ x ∈ rs, x ∈ R := fun x hx => hL x (List.mem_cons_of_mem _ hx)
    rw [augL]
    by_cases hs : r ∈ s.seen
    · rw [if_pos hs]; exact augL_len hR hrec hkeep o rs s hL'
    · rw [if_neg hs]
      have hsee : (s.see r).seen.length + unseen R (s.see r) ≤ s.seen.length + unseen R s := by
        have := unseen_see (hL r (by simp)) hs
        simp only [St.see, List.length_append, List.length_singleton] at this ⊢
        omega
      cases hl : lookM s.rev r with
      | none =>
        have := set_len (s.see r) o r
        refine ⟨?_, ?_, ?_⟩
        · have := this.1; simp only [St.see] at this ⊢; omega
        · have := this.2; simp only [St.see] at this ⊢; omega
        · exact hsee
      | some o2 =>
        have h1 := hrec o2 (s.see r)
        cases hq : rec o2 (s.see r) with
        | mk b s2 =>
          rw [hq] at h1
          simp only [hq]
          cases b
          · obtain ⟨k1, k2⟩ := hkeep _ _ _ hq
            have h2 := augL_len hR hrec hkeep o rs s2 hL'
            rw [k1, k2] at h2
            exact ⟨h2.1, h2.2.1, Nat.le_trans h2.2.2 (Nat.le_trans h1.2.2 hsee)⟩
          · have h2 := set_len s2 o r
            refine ⟨?_, ?_, ?_⟩
            · have := h2.1; have := h1.1; simp only [St.see] at *; omega
            · have := h2.2; have := h1.2.1; simp only [St.see] at *; omega
            · exact Nat.le_trans h1.2.2 hsee
theorem augF_len {N : Int → List Int} {R : List Int} (hR : ∀ o, ∀ r ∈ N o, r ∈ R) : ∀ (n : Nat) (o : Int) (s : St),
    (augF N n o s).2.obv.length ≤ s.obv.length + n ∧ (augF N n o s).2.rev.length ≤ s.rev.length + n ∧ (augF N n o s).2.seen.length + unseen R (augF N n o s).2 ≤ s.seen.length + unseen R s
  | 0, _, _ => ⟨Nat.le_refl _, Nat.le_refl _, Nat.le_refl _⟩
  | n + 1, o, s => augL_len hR (augF_len hR n) (fun o s s' h => augF_keep n o s s' h) o (N o) s (hR o)
end Go.Proofs.Ytnaoiochfdipiaa
