/- Dies that are joined by links, the names that a growth gives them, how many components there are: plain. No program in sight, no condition. -/
import Derived.Test.YthnckicnnhkkaaaGreatMapK
import Derived.Test.YthnckicnnhkkaaaGreatBase
namespace Go.Proofs.YthnckicnnhkkaaaGreat
open Go.RowKit

def dA (s : Spec) : Die := ⟨0, s.obv⟩
def dB (s : Spec) : Die := ⟨1, s.rev⟩
theorem dA_ne (s t : Spec) : dA s ≠ dB t := fun h => by
  have := congrArg Die.side h
  simp [dA, dB] at this
/-- Two dies are joined by edges (each die with itself). -/
inductive Con (E : List (Die × Die)) : Die → Die → Prop
  | refl (a : Die) : Con E a a
  | fwd {a b c : Die} : Con E a b → (b, c) ∈ E → Con E a c
  | bwd {a b c : Die} : Con E a b → (c, b) ∈ E → Con E a c
section
variable {E E' : List (Die × Die)} {a b c u v : Die}
theorem Con.trans (h : Con E a b) (k : Con E b c) : Con E a c := by
  induction k with
  | refl => exact h
  | fwd _ he ih => exact ih.fwd he
  | bwd _ he ih => exact ih.bwd he
theorem Con.symm (h : Con E a b) : Con E b a := by
  induction h with
  | refl => exact .refl _
  | fwd _ he ih => exact ((Con.refl _).bwd he).trans ih
  | bwd _ he ih => exact ((Con.refl _).fwd he).trans ih
theorem Con.mono (h : Con E a b) (hs : ∀ e ∈ E, e ∈ E') : Con E' a b := by
  induction h with
  | refl => exact .refl _
  | fwd _ he ih => exact ih.fwd (hs _ he)
  | bwd _ he ih => exact ih.bwd (hs _ he)
/-- One edge more. -/
theorem con_snoc : Con (E ++ [(u, v)]) a b ↔ Con E a b ∨ (Con E a u ∧ Con E v b) ∨ (Con E a v ∧ Con E u b) := by
  constructor
  · intro h
    induction h with
    | refl => exact .inl (.refl _)
    | fwd _ he ih =>
      rw [List.mem_append, List.mem_singleton] at he
      rcases he with he | he
      · rcases ih with h | ⟨h1, h2⟩ | ⟨h1, h2⟩
        · exact .inl (h.fwd he)
        · exact .inr (.inl ⟨h1, h2.fwd he⟩)
        · exact .inr (.inr ⟨h1, h2.fwd he⟩)
      · obtain ⟨rfl, rfl⟩ := Prod.mk.inj he
        rcases ih with h | ⟨h1, _⟩ | ⟨h1, _⟩
        · exact .inr (.inl ⟨h, .refl _⟩)
        · exact .inr (.inl ⟨h1, .refl _⟩)
        · exact .inl h1
    | bwd _ he ih =>
      rw [List.mem_append, List.mem_singleton] at he
      rcases he with he | he
      · rcases ih with h | ⟨h1, h2⟩ | ⟨h1, h2⟩
        · exact .inl (h.bwd he)
        · exact .inr (.inl ⟨h1, h2.bwd he⟩)
        · exact .inr (.inr ⟨h1, h2.bwd he⟩)
      · obtain ⟨rfl, rfl⟩ := Prod.mk.inj he
        rcases ih with h | ⟨h1, _⟩ | ⟨h1, _⟩
        · exact .inr (.inr ⟨h, .refl _⟩)
        · exact .inl h1
        · exact .inr (.inr ⟨h1, .refl _⟩)
  · have hm : ∀ e ∈ E, e ∈ E ++ [(u, v)] := fun e he => List.mem_append_left _ he
    have he : (u, v) ∈ E ++ [(u, v)] := List.mem_append_right _ (by simp)
    rintro (h | ⟨h1, h2⟩ | ⟨h1, h2⟩)
    · exact h.mono hm
    · exact ((h1.mono hm).fwd he).trans (h2.mono hm)
    · exact ((h1.mono hm).bwd he).trans (h2.mono hm)
/-- A die of an edge. -/
def EndE (E : List (Die × Die)) (d : Die) : Prop := ∃ e ∈ E, e.1 = d ∨ e.2 = d
theorem endE_snoc : EndE (E ++ [(u, v)]) a ↔ EndE E a ∨ a = u ∨ a = v := by
  constructor
  · rintro ⟨e, he, h⟩
    rw [List.mem_append, List.mem_singleton] at he
    rcases he with he | rfl
    · exact .inl ⟨e, he, h⟩
    · exact .inr (h.imp Eq.symm Eq.symm)
  · rintro (⟨e, he, h⟩ | rfl | rfl)
    · exact ⟨e, List.mem_append_left _ he, h⟩
    · exact ⟨_, List.mem_append_right _ (List.mem_singleton_self _), .inl rfl⟩
    · exact ⟨_, List.mem_append_right _ (List.mem_singleton_self _), .inr rfl⟩
theorem con_end (h : Con E a b) (hne : a ≠ b) : EndE E a ∧ EndE E b := by
  induction h with
  | refl => exact absurd rfl hne
  | @fwd b c h he ih =>
    refine ⟨?_, ⟨_, he, .inr rfl⟩⟩
    by_cases e : a = b
    · exact ⟨_, he, .inl e.symm⟩
    · exact (ih e).1
  | @bwd b c h he ih =>
    refine ⟨?_, ⟨_, he, .inl rfl⟩⟩
    by_cases e : a = b
    · exact ⟨_, he, .inr e.symm⟩
    · exact (ih e).1
/-- Both are there, and joined. -/
def JoinE (E : List (Die × Die)) (a b : Die) : Prop := EndE E a ∧ EndE E b ∧ Con E a b
theorem joinE_congr (h : ∀ e, e ∈ E ↔ e ∈ E') : JoinE E a b ↔ JoinE E' a b := by
  have k1 : ∀ {E E' : List (Die × Die)}, (∀ e, e ∈ E ↔ e ∈ E') → JoinE E a b → JoinE E' a b := fun h ⟨⟨e, h1, h2⟩, ⟨f, h3, h4⟩, h5⟩ => ⟨⟨e, (h _).1 h1, h2⟩, ⟨f, (h _).1 h3, h4⟩, h5.mono fun e he => (h e).1 he⟩
  exact ⟨k1 h, k1 fun e => (h e).symm⟩
end
noncomputable def joinB (E : List (Die × Die)) (a b : Die) : Bool := @decide (JoinE E a b) (Classical.propDecidable _)
theorem joinB_iff {E : List (Die × Die)} {a b : Die} : joinB E a b = true ↔ JoinE E a b := ⟨fun h => by unfold joinB at h; exact @of_decide_eq_true _ (Classical.propDecidable _) h, fun h => by unfold joinB; exact @decide_eq_true _ (Classical.propDecidable _) h⟩
/-! ### How many there are -/
/-- How many of a list's elements have none before them to which they are related. -/
def firstsA {α : Type} (R : α → α → Bool) : List α → List α → Nat
  | _, [] => 0
  | pre, d :: ds => (if pre.any (fun x => R x d) then 0 else 1) + firstsA R (pre ++ [d]) ds
theorem firstsA_snoc {α : Type} (R : α → α → Bool) : ∀ (ds pre : List α) (d : α), firstsA R pre (ds ++ [d]) = firstsA R pre ds + (if (pre ++ ds).any (fun x => R x d) then 0 else 1)
  | [], pre, d => by simp [firstsA]
  | e :: ds, pre, d => by
    rw [List.cons_append, firstsA, firstsA, firstsA_snoc R ds (pre ++ [e]) d, List.append_assoc]
    simp only [List.singleton_append]
    omega
theorem firstsA_congr {α : Type} {R R' : α → α → Bool} : ∀ (ds pre : List α), (∀ x ∈ pre ++ ds, ∀ y ∈ pre ++ ds, R x y = R' x y) → firstsA R pre ds = firstsA R' pre ds
  | [], _, _ => rfl
  | d :: ds, pre, h => by
    rw [firstsA, firstsA, firstsA_congr ds (pre ++ [d]) (by simpa using h)]
    have : pre.any (fun x => R x d) = pre.any (fun x => R' x d) := by
      rw [Bool.eq_iff_iff, List.any_eq_true, List.any_eq_true]
      constructor
      · rintro ⟨x, hx, e⟩; exact ⟨x, hx, by rw [← h x (by simp [hx]) d (by simp)]; exact e⟩
      · rintro ⟨x, hx, e⟩; exact ⟨x, hx, by rw [h x (by simp [hx]) d (by simp)]; exact e⟩
    rw [this]
/-- How many of the numbers below n are values. -/
def dcount (n : Nat) (vs : List Int) : Nat := (List.range n).countP fun (i : Nat) => decide ((i : Int) ∈ vs)
theorem dcount_congr {n : Nat} {vs us : List Int} (h : ∀ x, x ∈ vs ↔ x ∈ us) : dcount n vs = dcount n us := by
  unfold dcount
  congr 1
  funext i
  rw [decide_eq_decide]
  exact h _
theorem countP_add_one {p q : Nat → Bool} {k : Nat} : ∀ {n : Nat}, k < n → (∀ i, i ≠ k → p i = q i) → p k = false → q k = true → (List.range n).countP q = (List.range n).countP p + 1
  | 0, h, _, _, _ => absurd h (by omega)
  | n + 1, h, he, h1, h2 => by
    rw [List.range_succ, List.countP_append, List.countP_append]
    by_cases e : k = n
    · subst e
      have : (List.range k).countP q = (List.range k).countP p := by
        refine List.countP_congr fun i hi => ?_
        rw [he i (by have := List.mem_range.1 hi; omega)]
      rw [this]
      simp [h1, h2]
    · rw [countP_add_one (n := n) (by omega) he h1 h2]
      have : [n].countP q = [n].countP p := by simp [List.countP_cons, he n (fun h => e h.symm)]
      rw [this]; omega
theorem dcount_new {n : Nat} {vs : List Int} {k : Nat} (hk : k < n) (h : (k : Int) ∉ vs) : dcount n (vs ++ [(k : Int)]) = dcount n vs + 1 := by
  unfold dcount
  refine countP_add_one hk (fun i hi => ?_) (by simpa using h) (by simp)
  rw [decide_eq_decide, List.mem_append, List.mem_singleton]
  constructor
  · exact .inl
  · rintro (h | h)
    · exact h
    · exact absurd (by omega) hi
theorem dcount_more {n : Nat} {vs : List Int} (h : ∀ x ∈ vs, x < n) : dcount (n + 1) vs = dcount n vs := by
  unfold dcount
  rw [List.range_succ, List.countP_append]
  have : [n].countP (fun (i : Nat) => decide ((i : Int) ∈ vs)) = 0 := by
    rw [List.countP_eq_zero]
    intro i hi
    simp only [List.mem_singleton] at hi
    subst hi
    simp only [decide_eq_true_eq]
    intro hm
    have := h _ hm
    omega
  rw [this]; omega
theorem dcount_merge {n : Nat} {vs : List Int} {f t : Int} (hf : f ∈ vs) (ht : t ∈ vs) (hne : f ≠ t) (h0 : ∀ x ∈ vs, 0 ≤ x ∧ x < n) : dcount n (vs.map fun x => if x = f then t else x) + 1 = dcount n vs := by
  obtain ⟨k, rfl⟩ : ∃ k : Nat, f = k := ⟨f.toNat, by have := h0 f hf; omega⟩
  have hk := (h0 _ hf).2
  unfold dcount
  refine (countP_add_one (n := n) (k := k) (by omega) (fun i hi => ?_) ?_ (by simpa using hf)).symm
  · rw [decide_eq_decide, List.mem_map]
    constructor
    · rintro ⟨x, hx, e⟩
      split at e
      · rw [← e]; exact ht
      · rw [← e]; exact hx
    · intro hm
      exact ⟨i, hm, by rw [if_neg (by omega)]⟩
  · simp only [decide_eq_false_iff_not, List.mem_map, not_exists, not_and]
    intro x hx e
    split at e
    · exact hne e.symm
    · rename_i h; exact h e
/-- The elements that come first by their values are as many as there are values. -/
theorem firsts_values {α : Type} (f : α → Int) (n : Nat) : ∀ (ds : List α), (∀ d ∈ ds, 0 ≤ f d ∧ f d < n) → firstsA (fun x y => f x == f y) [] ds = dcount n (ds.map f) := by
  intro ds
  have : ∀ (k : Nat), k ≤ ds.length → (∀ d ∈ ds, 0 ≤ f d ∧ f d < n) → firstsA (fun x y => f x == f y) [] (ds.take k) = dcount n ((ds.take k).map f) := by
    intro k
    induction k with
    | zero =>
      intro _ _
      rw [List.take_zero, List.map_nil]
      unfold dcount firstsA
      symm
      rw [List.countP_eq_zero]
      simp
    | succ k ih =>
      intro hk h
      obtain ⟨d, hd⟩ := get_of_lt (show k < ds.length by omega)
      have hb := h d (List.mem_of_getElem? hd)
      rw [take_snoc' hd, firstsA_snoc, ih (by omega) h, List.nil_append, List.map_append, List.map_singleton]
      obtain ⟨j, hj⟩ : ∃ j : Nat, f d = j := ⟨(f d).toNat, by omega⟩
      by_cases hin : f d ∈ (ds.take k).map f
      · rw [if_pos]
        · refine (dcount_congr fun x => ?_).symm
          rw [List.mem_append, List.mem_singleton]
          constructor
          · rintro (hx | rfl)
            · exact hx
            · exact hin
          · exact .inl
        · rw [List.any_eq_true]
          obtain ⟨x, hx, e⟩ := List.mem_map.1 hin
          exact ⟨x, hx, by simpa using e⟩
      · rw [if_neg]
        · rw [hj] at hin ⊢
          exact (dcount_new (by omega) hin).symm
        · rw [List.any_eq_true]
          rintro ⟨x, hx, e⟩
          exact hin (List.mem_map.2 ⟨x, hx, by simpa using e⟩)
  intro h
  have h1 := this ds.length (Nat.le_refl _) h
  rwa [List.take_length] at h1

/-! ### The growth -/
structure Gr where
  m : List (Die × Int)
  named : Nat
  count : Nat
def beginG : Gr := ⟨[], 0, 0⟩
def knowG (d : Die) (g : Gr) : Gr := if (lookM g.m d).isSome = true then g else ⟨putM g.m d g.named, g.named + 1, g.count + 1⟩
def bothG (s : Spec) (g : Gr) : Gr := knowG (dB s) (knowG (dA s) g)
def fromG (s : Spec) (g : Gr) : Int := (lookM (bothG s g).m (dB s)).getD 0
def toG (s : Spec) (g : Gr) : Int := (lookM (bothG s g).m (dA s)).getD 0
def turnM (m : List (Die × Int)) (f t : Int) : List (Die × Int) := m.map fun p => (p.1, if p.2 = f then t else p.2)
def enterG (s : Spec) (g : Gr) : Gr := if fromG s g = toG s g then bothG s g else ⟨turnM (bothG s g).m (fromG s g) (toG s g), (bothG s g).named, (bothG s g).count - 1⟩
def apartG (s : Spec) (g : Gr) : Bool := !(fromG s g == toG s g)
def thereG (s : Spec) (g : Gr) : Bool := (fromG s g == toG s g) || ((lookM g.m (dA s)).isSome && (lookM (knowG (dA s) g).m (dB s)).isSome)
theorem lookM_turn (m : List (Die × Int)) (f t : Int) (d : Die) : lookM (turnM m f t) d = (lookM m d).map fun n => if n = f then t else n := by
  induction m with
  | nil => rfl
  | cons p m ih =>
    simp only [turnM, List.map_cons, lookM] at ih ⊢
    by_cases h : p.1 = d
    · rw [if_pos h, if_pos h]; rfl
    · rw [if_neg h, if_neg h]; exact ih
structure NInv (E : List (Die × Die)) (g : Gr) : Prop where
  keys : ∀ d, (lookM g.m d).isSome = true ↔ EndE E d
  nod : (g.m.map Prod.fst).Nodup
  rng : ∀ d n, lookM g.m d = some n → 0 ≤ n ∧ n < g.named
  con : ∀ a b n k, lookM g.m a = some n → lookM g.m b = some k → (n = k ↔ Con E a b)
  cnt : g.count = dcount g.named (g.m.map Prod.snd)
theorem ninv_begin : NInv [] beginG where
  keys d := ⟨fun h => by simp [beginG, lookM] at h, fun ⟨e, he, _⟩ => absurd he (by simp)⟩
  nod := by simp [beginG]
  rng d n h := by simp [beginG, lookM] at h
  con a b n k h := by simp [beginG, lookM] at h
  cnt := by simp [beginG, dcount]
/-- What is known besides the ends of edges. -/
structure GMid (E : List (Die × Die)) (X : List Die) (g : Gr) : Prop where
  keys : ∀ d, (lookM g.m d).isSome = true ↔ EndE E d ∨ d ∈ X
  nod : (g.m.map Prod.fst).Nodup
  rng : ∀ d n, lookM g.m d = some n → 0 ≤ n ∧ n < g.named
  con : ∀ a b n k, lookM g.m a = some n → lookM g.m b = some k → (n = k ↔ Con E a b)
  cnt : g.count = dcount g.named (g.m.map Prod.snd)
theorem putM_newJ {κ β : Type} [DecidableEq κ] : ∀ {m : List (κ × β)} {x : κ} {y : β}, lookM m x = none → putM m x y = m ++ [(x, y)]
  | [], x, y, _ => rfl
  | p :: m, x, y, h => by
    rw [lookM] at h
    by_cases e : p.1 = x
    · rw [if_pos e] at h; cases h
    · rw [if_neg e] at h
      rw [putM, if_neg e, putM_newJ h]
      rfl
theorem GMid.vals {E : List (Die × Die)} {X : List Die} {g : Gr} (h : GMid E X g) : ∀ x ∈ g.m.map Prod.snd, 0 ≤ x ∧ x < g.named := fun x hx => by
  obtain ⟨p, hp, rfl⟩ := List.mem_map.1 hx
  exact h.rng p.1 p.2 ((lookM_mem h.nod).2 hp)
theorem GMid.know {E : List (Die × Die)} {X : List Die} {g : Gr} (h : GMid E X g) (d : Die) : GMid E (X ++ [d]) (knowG d g) := by
  unfold knowG
  by_cases hs : (lookM g.m d).isSome = true
  · rw [if_pos hs]
    refine ⟨fun x => (h.keys x).trans ⟨fun hx => hx.imp id fun hx => List.mem_append_left _ hx, fun hx => ?_⟩, h.nod, h.rng, h.con, h.cnt⟩
    rcases hx with hx | hx
    · exact .inl hx
    · rcases List.mem_append.1 hx with hx | hx
      · exact .inr hx
      · rw [List.mem_singleton] at hx
        subst hx
        exact (h.keys _).1 hs
  · rw [if_neg hs]
    have hn : lookM g.m d = none := by
      cases hl : lookM g.m d with
      | none => rfl
      | some x => rw [hl] at hs; simp at hs
    have hE : ¬ EndE E d := fun he => hs ((h.keys d).2 (.inl he))
    have hl : ∀ x, lookM (putM g.m d (g.named : Int)) x = if d = x then some (g.named : Int) else lookM g.m x := fun x => lookM_putM _ _ _ _
    refine ⟨fun x => ?_, putM_nodup h.nod _ _, fun x n hx => ?_, fun a b n k ha hb => ?_, ?_⟩
    · simp only [hl]
      by_cases e : d = x
      · subst e; simp
      · rw [if_neg e, h.keys]
        simp only [List.mem_append, List.mem_singleton]
        exact ⟨fun hx => hx.imp id .inl, fun hx => hx.imp id fun hx => hx.resolve_right fun e' => e e'.symm⟩
    · simp only [hl] at hx
      by_cases e : d = x
      · rw [if_pos e] at hx
        cases hx
        exact ⟨by omega, by simp only; omega⟩
      · rw [if_neg e] at hx
        have := h.rng x n hx
        exact ⟨this.1, by simp only; omega⟩
    · simp only [hl] at ha hb
      by_cases e : d = a
      · rw [if_pos e] at ha
        cases ha
        by_cases e' : d = b
        · rw [if_pos e'] at hb
          cases hb
          rw [← e, ← e']
          exact ⟨fun _ => .refl _, fun _ => rfl⟩
        · rw [if_neg e'] at hb
          have := (h.rng b k hb).2
          refine ⟨fun hh => by omega, fun hc => ?_⟩
          exact absurd (con_end hc (fun e'' => e' (e.trans e''))).1 (by rw [← e]; exact hE)
      · rw [if_neg e] at ha
        by_cases e' : d = b
        · rw [if_pos e'] at hb
          cases hb
          have := (h.rng a n ha).2
          refine ⟨fun hh => by omega, fun hc => ?_⟩
          exact absurd (con_end hc (fun e'' => e (e'.trans e''.symm))).2 (by rw [← e']; exact hE)
        · rw [if_neg e'] at hb
          exact h.con a b n k ha hb
    · have hv := h.vals
      rw [putM_newJ hn, List.map_append, List.map_singleton, dcount_new (Nat.lt_succ_self _) (fun hm => by have := (hv _ hm).2; omega), dcount_more (fun x hx => (hv x hx).2), ← h.cnt]
theorem NInv.both {E : List (Die × Die)} {g : Gr} (h : NInv E g) (s : Spec) : GMid E [dA s, dB s] (bothG s g) := by
  have h0 : GMid E [] g := ⟨fun d => by rw [h.keys]; simp, h.nod, h.rng, h.con, h.cnt⟩
  exact (h0.know (dA s)).know (dB s)
theorem GMid.some {E : List (Die × Die)} {X : List Die} {g : Gr} (h : GMid E X g) {d : Die} (hd : d ∈ X) : ∃ n, lookM g.m d = some n :=
  Option.isSome_iff_exists.1 ((h.keys d).2 (.inr hd))
/-- What entering a specimen makes of the growth, and what it says of its dies. -/
theorem NInv.enter {E : List (Die × Die)} {g : Gr} (h : NInv E g) (s : Spec) :
    NInv (E ++ [(dA s, dB s)]) (enterG s g) ∧ (apartG s g = true ↔ ¬ JoinE E (dA s) (dB s)) ∧ (thereG s g = true ↔ JoinE E (dA s) (dB s) ∨ (EndE E (dA s) ∧ EndE E (dB s))) := by
  have hb := h.both s
  obtain ⟨t, ht⟩ := hb.some (d := dA s) (by simp)
  obtain ⟨f, hf⟩ := hb.some (d := dB s) (by simp)
  have eF : fromG s g = f := by rw [fromG, hf]; rfl
  have eT : toG s g = t := by rw [toG, ht]; rfl
  have hcon := hb.con _ _ _ _ hf ht
  have hJ : f = t ↔ JoinE E (dA s) (dB s) := by
    rw [hcon]
    constructor
    · intro hc
      have := con_end hc (dA_ne s s).symm
      exact ⟨this.2, this.1, hc.symm⟩
    · exact fun hj => hj.2.2.symm
  have hthere : ((lookM g.m (dA s)).isSome && (lookM (knowG (dA s) g).m (dB s)).isSome) = true ↔ EndE E (dA s) ∧ EndE E (dB s) := by
    rw [Bool.and_eq_true, h.keys]
    have h0 : GMid E [] g := ⟨fun d => by rw [h.keys]; simp, h.nod, h.rng, h.con, h.cnt⟩
    rw [(h0.know (dA s)).keys]
    constructor
    · rintro ⟨h1, h2⟩
      exact ⟨h1, h2.resolve_right (by simpa using (dA_ne s s).symm)⟩
    · rintro ⟨h1, h2⟩
      exact ⟨h1, .inl h2⟩
  refine ⟨?_, ?_, ?_⟩
  · unfold enterG
    rw [eF, eT]
    by_cases e : f = t
    · rw [if_pos e]
      have hab := hcon.1 e
      refine ⟨fun d => ?_, hb.nod, hb.rng, fun a b n k ha hb' => ?_, hb.cnt⟩
      · rw [hb.keys, endE_snoc]; simp
      · rw [hb.con a b n k ha hb', con_snoc]
        constructor
        · exact .inl
        · rintro (h1 | ⟨h1, h2⟩ | ⟨h1, h2⟩)
          · exact h1
          · exact h1.trans (hab.symm.trans h2)
          · exact h1.trans (hab.trans h2)
    · rw [if_neg e]
      have hvals := hb.vals
      have hfm : f ∈ (bothG s g).m.map Prod.snd := List.mem_map.2 ⟨_, lookM_some hf, rfl⟩
      have htm : t ∈ (bothG s g).m.map Prod.snd := List.mem_map.2 ⟨_, lookM_some ht, rfl⟩
      refine ⟨fun d => ?_, ?_, fun d n hd => ?_, fun a b n k ha hb' => ?_, ?_⟩
      · simp only [lookM_turn, Option.isSome_map]
        rw [hb.keys, endE_snoc]; simp
      · simp only [turnM, List.map_map]; exact hb.nod
      · simp only [lookM_turn] at hd
        obtain ⟨n', h1, h2⟩ := Option.map_eq_some_iff.1 hd
        split at h2
        · rw [← h2]; exact hb.rng _ _ ht
        · rw [← h2]; exact hb.rng _ _ h1
      · simp only [lookM_turn] at ha hb'
        obtain ⟨n', h1, h2⟩ := Option.map_eq_some_iff.1 ha
        obtain ⟨k', h3, h4⟩ := Option.map_eq_some_iff.1 hb'
        have c1 := hb.con _ _ _ _ h1 hf
        have c2 := hb.con _ _ _ _ h1 ht
        have c3 := hb.con _ _ _ _ h3 hf
        have c4 := hb.con _ _ _ _ h3 ht
        have c5 := hb.con _ _ _ _ h1 h3
        rw [con_snoc]
        have s1 : ∀ {a b : Die}, Con E a b ↔ Con E b a := ⟨Con.symm, Con.symm⟩
        rw [← c2, ← c1, s1 (a := dB s), s1 (a := dA s), ← c3, ← c4, ← c5, ← h2, ← h4]
        by_cases e1 : n' = f <;> by_cases e2 : k' = f
        · simp [e1, e2]
        · rw [if_pos e1, if_neg e2]
          constructor
          · intro hh; exact .inr (.inr ⟨e1, hh.symm⟩)
          · rintro (hh | ⟨_, hh⟩ | ⟨_, hh⟩)
            · exact absurd (hh.symm.trans e1) e2
            · exact absurd hh e2
            · exact hh.symm
        · rw [if_neg e1, if_pos e2]
          constructor
          · intro hh; exact .inr (.inl ⟨hh, e2⟩)
          · rintro (hh | ⟨hh, _⟩ | ⟨hh, _⟩)
            · exact absurd (hh.trans e2) e1
            · exact hh
            · exact absurd hh e1
        · rw [if_neg e1, if_neg e2]
          constructor
          · exact .inl
          · rintro (hh | ⟨_, hh⟩ | ⟨hh, _⟩)
            · exact hh
            · exact absurd hh e2
            · exact absurd hh e1
      · have hd := dcount_merge hfm htm e hvals
        have : (turnM (bothG s g).m f t).map Prod.snd = ((bothG s g).m.map Prod.snd).map fun x => if x = f then t else x := by
          simp only [turnM, List.map_map]; rfl
        simp only [this]
        have := hb.cnt
        omega
  · rw [apartG, eF, eT, Bool.not_eq_true', beq_eq_false_iff_ne, ← hJ]
  · rw [thereG, eF, eT, Bool.or_eq_true, beq_iff_eq, hJ, hthere]
def edgesG (g : Graph) : List (Die × Die) := g.links.map fun x => (⟨0, x.obv⟩, ⟨1, x.rev⟩)
end Go.Proofs.YthnckicnnhkkaaaGreat
/- Components of a list under a relation, plain: the first of each, the number of each element's. No program in sight, no condition. -/
namespace Go.Proofs.YthnckicnnhkkaaaGreat
open Go.RowKit

section
variable {α : Type} (R : α → α → Bool)
def repsStep (rs : List α) (d : α) : List α := if rs.any (fun r => R r d) then rs else rs ++ [d]
/-- The first element of each component. -/
def repsA (ds : List α) : List α := ds.foldl (repsStep R) []
def partI (rs : List α) (d : α) : Nat := rs.findIdx fun r => R r d
def partsA (ds : List α) : List Int := ds.map fun d => ((partI R (repsA R ds) d : Nat) : Int)
def chainsA (ds : List α) : List (List α) := (List.range (repsA R ds).length).map fun k => ds.filter fun d => decide (partI R (repsA R ds) d = k)
/-- What is asked of the relation. -/
structure Rel (ds : List α) : Prop where
  refl : ∀ d ∈ ds, R d d = true
  symm : ∀ a b, R a b = true → R b a = true
  trans : ∀ a b c, R a b = true → R b c = true → R a c = true
end
section
variable {α : Type} {R : α → α → Bool} {ds : List α}
theorem repsA_snoc (ds : List α) (d : α) : repsA R (ds ++ [d]) = repsStep R (repsA R ds) d := by rw [repsA, List.foldl_append]; rfl
theorem repsA_old {d : α} (h : (repsA R ds).any (fun r => R r d) = true) : repsA R (ds ++ [d]) = repsA R ds := by rw [repsA_snoc, repsStep, if_pos h]
theorem repsA_new {d : α} (h : (repsA R ds).any (fun r => R r d) = false) : repsA R (ds ++ [d]) = repsA R ds ++ [d] := by rw [repsA_snoc, repsStep, if_neg (by simp [h])]
theorem repsA_pre (ds es : List α) : repsA R ds <+: repsA R (ds ++ es) := by
  induction es generalizing ds with
  | nil => rw [List.append_nil]; exact List.prefix_refl _
  | cons e es ih =>
    rw [show ds ++ e :: es = (ds ++ [e]) ++ es by simp]
    refine List.IsPrefix.trans ?_ (ih (ds ++ [e]))
    rw [repsA_snoc, repsStep]
    split
    · exact List.prefix_refl _
    · exact List.prefix_append _ _
theorem repsA_take (ds : List α) (k : Nat) : repsA R (ds.take k) <+: repsA R ds := by
  have := repsA_pre (R := R) (ds.take k) (ds.drop k)
  rwa [List.take_append_drop] at this
theorem repsA_sub (ds : List α) : (repsA R ds).Sublist ds := by
  have : ∀ k, k ≤ ds.length → (repsA R (ds.take k)).Sublist (ds.take k) := by
    intro k
    induction k with
    | zero => intro _; exact List.Sublist.refl _
    | succ k ih =>
      intro hk
      obtain ⟨d, hd⟩ := get_of_lt (show k < ds.length by omega)
      rw [take_snoc' hd, repsA_snoc, repsStep]
      split
      · exact (ih (by omega)).trans (List.sublist_append_left _ _)
      · exact (ih (by omega)).append (List.Sublist.refl _)
  have := this ds.length (Nat.le_refl _)
  rwa [List.take_length] at this
theorem repsA_len (ds : List α) : (repsA R ds).length ≤ ds.length := (repsA_sub ds).length_le
theorem findIdx_pre {p : α → Bool} {rs ts : List α} (h : rs <+: ts) (ha : rs.any p = true) : ts.findIdx p = rs.findIdx p := by
  obtain ⟨us, rfl⟩ := h
  rw [List.findIdx_append, if_pos]
  rw [List.findIdx_lt_length]
  exact List.any_eq_true.1 ha
theorem findIdx_new {p : α → Bool} {rs : List α} {d : α} (ha : rs.any p = false) (hd : p d = true) : (rs ++ [d]).findIdx p = rs.length := by
  have : rs.findIdx p = rs.length := by
    rw [List.findIdx_eq_length]
    intro x hx
    rw [← Bool.not_eq_true]
    intro h
    rw [← Bool.not_eq_true] at ha
    exact ha (List.any_eq_true.2 ⟨x, hx, h⟩)
  rw [List.findIdx_append, this, if_neg (by omega), List.findIdx_cons, hd]
  simp
/-- Each element has its first one. -/
theorem reps_any (hr : Rel R ds) : ∀ d ∈ ds, (repsA R ds).any (fun r => R r d) = true := by
  have : ∀ k, k ≤ ds.length → ∀ d ∈ ds.take k, (repsA R (ds.take k)).any (fun r => R r d) = true := by
    intro k
    induction k with
    | zero => intro _ d hd; cases hd
    | succ k ih =>
      intro hk d hd
      obtain ⟨e, he⟩ := get_of_lt (show k < ds.length by omega)
      rw [take_snoc' he] at hd ⊢
      rcases List.mem_append.1 hd with hd | hd
      · obtain ⟨r, h1, h2⟩ := List.any_eq_true.1 (ih (by omega) d hd)
        exact List.any_eq_true.2 ⟨r, (repsA_pre _ _).subset h1, h2⟩
      · rw [List.mem_singleton] at hd
        subst hd
        cases ha : (repsA R (ds.take k)).any (fun r => R r d)
        · rw [repsA_new ha]
          exact List.any_eq_true.2 ⟨d, by simp, hr.refl d (List.mem_of_getElem? he)⟩
        · rw [repsA_old ha]; exact ha
  have := this ds.length (Nat.le_refl _)
  rwa [List.take_length] at this
theorem Rel.take (hr : Rel R ds) (k : Nat) : Rel R (ds.take k) := ⟨fun d hd => hr.refl d (List.mem_of_mem_take hd), hr.symm, hr.trans⟩
theorem any_reps (hr : Rel R ds) (d : α) : (repsA R ds).any (fun r => R r d) = ds.any (fun r => R r d) := by
  rw [Bool.eq_iff_iff, List.any_eq_true, List.any_eq_true]
  constructor
  · rintro ⟨r, h1, h2⟩; exact ⟨r, (repsA_sub ds).subset h1, h2⟩
  · rintro ⟨x, h1, h2⟩
    obtain ⟨r, h3, h4⟩ := List.any_eq_true.1 (reps_any hr x h1)
    exact ⟨r, h3, hr.trans _ _ _ h4 h2⟩
theorem firstsA_reps (hr : Rel R ds) : firstsA R [] ds = (repsA R ds).length := by
  have : ∀ k, k ≤ ds.length → firstsA R [] (ds.take k) = (repsA R (ds.take k)).length := by
    intro k
    induction k with
    | zero => intro _; rfl
    | succ k ih =>
      intro hk
      obtain ⟨d, hd⟩ := get_of_lt (show k < ds.length by omega)
      rw [take_snoc' hd, firstsA_snoc, ih (by omega), List.nil_append, ← any_reps (hr.take k) d]
      cases ha : (repsA R (ds.take k)).any (fun r => R r d)
      · rw [repsA_new ha]; simp
      · rw [repsA_old ha]; simp
  have := this ds.length (Nat.le_refl _)
  rwa [List.take_length] at this
theorem part_lt {d : α} (h : (repsA R ds).any (fun r => R r d) = true) : partI R (repsA R ds) d < (repsA R ds).length := by
  rw [partI, List.findIdx_lt_length]; exact List.any_eq_true.1 h
end
/-- The relation of joined dies. -/
theorem rel_join {E : List (Die × Die)} {ds : List Die} (h : ∀ d ∈ ds, EndE E d) : Rel (joinB E) ds where
  refl d hd := joinB_iff.2 ⟨h d hd, h d hd, .refl _⟩
  symm a b hab := by rw [joinB_iff] at hab ⊢; exact ⟨hab.2.1, hab.1, hab.2.2.symm⟩
  trans a b c hab hbc := by rw [joinB_iff] at hab hbc ⊢; exact ⟨hab.1, hbc.2.1, hab.2.2.trans hbc.2.2⟩
end Go.Proofs.YthnckicnnhkkaaaGreat
/- Dies reached from a die, step by step: plain. No program in sight, no condition. -/
namespace Go.Proofs.YthnckicnnhkkaaaGreat
open Go.RowKit

def lA (x : Link) : Die := ⟨0, x.obv⟩
def lB (x : Link) : Die := ⟨1, x.rev⟩
theorem lA_ne (x y : Link) : lA x ≠ lB y := fun h => by
  have := congrArg Die.side h
  simp [lA, lB] at this
/-- The other die of a link. -/
def acrO (x : Link) (d : Die) : Option Die := if d = lA x then some (lB x) else if d = lB x then some (lA x) else none
def acrD (x : Link) (d : Die) : Die := (acrO x d).getD ⟨0, 0⟩
def Nbr (E : List (Die × Die)) (a b : Die) : Prop := (a, b) ∈ E ∨ (b, a) ∈ E
theorem acr_nbr {g : Graph} {a b : Die} : Nbr (edgesG g) a b ↔ ∃ x ∈ g.links, acrO x a = some b := by
  unfold Nbr edgesG
  simp only [List.mem_map, Prod.mk.injEq]
  constructor
  · rintro (⟨x, hx, rfl, rfl⟩ | ⟨x, hx, rfl, rfl⟩)
    · exact ⟨x, hx, show acrO x (lA x) = some (lB x) by rw [acrO, if_pos rfl]⟩
    · exact ⟨x, hx, show acrO x (lB x) = some (lA x) by rw [acrO, if_neg (fun h => lA_ne x x h.symm), if_pos rfl]⟩
  · rintro ⟨x, hx, h⟩
    unfold acrO at h
    split at h
    · rename_i e; cases h; exact .inl ⟨x, hx, e.symm, rfl⟩
    · split at h
      · rename_i e; cases h; exact .inr ⟨x, hx, rfl, e.symm⟩
      · cases h
theorem Con.nbr {E : List (Die × Die)} {a b c : Die} (h : Con E a b) (k : Nbr E b c) : Con E a c := by
  rcases k with k | k
  · exact h.fwd k
  · exact h.bwd k
theorem Nbr.end {E : List (Die × Die)} {a b : Die} (h : Nbr E a b) : EndE E b := by
  rcases h with h | h
  · exact ⟨_, h, .inr rfl⟩
  · exact ⟨_, h, .inl rfl⟩
theorem con_closed {E : List (Die × Die)} {K : List Die} {a b : Die} (h : Con E a b) (ha : a ∈ K) (hc : ∀ d ∈ K, ∀ e, Nbr E d e → e ∈ K) : b ∈ K := by
  induction h with
  | refl => exact ha
  | fwd _ he ih => exact hc _ ih _ (.inl he)
  | bwd _ he ih => exact hc _ ih _ (.inr he)
/-- A search from a die: what is known, and what is still to be done. -/
structure Bfs (g : Graph) (s : Die) (m : List (Die × Int)) (Q : List Die) : Prop where
  nod : (m.map Prod.fst).Nodup
  con : ∀ d ∈ m.map Prod.fst, Con (edgesG g) s d
  start : s ∈ m.map Prod.fst
  que : ∀ d ∈ Q, d ∈ m.map Prod.fst
  sub : ∀ d ∈ m.map Prod.fst, d ∈ s :: (g.links.map lA ++ g.links.map lB)
  clo : ∀ d ∈ m.map Prod.fst, d ∉ Q → ∀ e, Nbr (edgesG g) d e → e ∈ m.map Prod.fst
  rng : ∀ p ∈ m, 0 ≤ p.2 ∧ p.2 < m.length
section
variable {g : Graph} {s d e : Die} {m : List (Die × Int)} {Q : List Die}
theorem bfs_start (g : Graph) (s : Die) : Bfs g s [(s, 0)] [s] where
  nod := by simp
  con d hd := by simp at hd; subst hd; exact .refl _
  start := by simp
  que d hd := by simpa using hd
  sub d hd := by simp at hd; subst hd; simp
  clo d hd hn := by simp at hd; subst hd; simp at hn
  rng p hp := by simp at hp; subst hp; simp
theorem Bfs.len (h : Bfs g s m Q) : m.length ≤ 1 + 2 * g.links.length := by
  have := nodup_len h.nod h.sub
  simp at this
  omega
theorem Bfs.add (h : Bfs g s m Q) (hd : d ∈ m.map Prod.fst) {x : Link} (hx : x ∈ g.links) (ha : acrO x d = some e) (hn : e ∉ m.map Prod.fst) {n : Int} (hr : 0 ≤ n ∧ n ≤ m.length) : Bfs g s (m ++ [(e, n)]) (Q ++ [e]) := by
  have hk : ((m ++ [(e, n)]).map Prod.fst) = m.map Prod.fst ++ [e] := by simp
  have hE : e ∈ s :: (g.links.map lA ++ g.links.map lB) := by
    rw [List.mem_cons, List.mem_append]
    unfold acrO at ha
    split at ha
    · cases ha; exact .inr (.inr (List.mem_map_of_mem (f := lB) hx))
    · split at ha
      · cases ha; exact .inr (.inl (List.mem_map_of_mem (f := lA) hx))
      · cases ha
  refine ⟨?_, ?_, ?_, ?_, ?_, ?_, ?_⟩
  · rw [hk, List.nodup_append]
    exact ⟨h.nod, by simp, fun a hm b hb e' => by rw [List.mem_singleton] at hb; rw [e', hb] at hm; exact hn hm⟩
  · rw [hk]
    intro y hy
    rcases List.mem_append.1 hy with hy | hy
    · exact h.con y hy
    · rw [List.mem_singleton] at hy; subst hy
      exact (h.con d hd).nbr (acr_nbr.2 ⟨x, hx, ha⟩)
  · rw [hk]; exact List.mem_append_left _ h.start
  · rw [hk]
    intro y hy
    rcases List.mem_append.1 hy with hy | hy
    · exact List.mem_append_left _ (h.que y hy)
    · exact List.mem_append_right _ hy
  · rw [hk]
    intro y hy
    rcases List.mem_append.1 hy with hy | hy
    · exact h.sub y hy
    · rw [List.mem_singleton] at hy; subst hy; exact hE
  · rw [hk]
    intro y hy hq z hz
    rw [List.mem_append, not_or] at hq
    rcases List.mem_append.1 hy with hy | hy
    · exact List.mem_append_left _ (h.clo y hy hq.1 z hz)
    · exact absurd hy hq.2
  · intro p hp
    rw [List.length_append, List.length_singleton]
    rcases List.mem_append.1 hp with hp | hp
    · have := h.rng p hp; omega
    · rw [List.mem_singleton] at hp; subst hp; simp only; omega
/-- The first of the queue is done. -/
theorem Bfs.pop (h : Bfs g s m (d :: Q)) (hd : ∀ x ∈ g.links, ∀ e, acrO x d = some e → e ∈ m.map Prod.fst) : Bfs g s m Q where
  nod := h.nod
  con := h.con
  start := h.start
  que y hy := h.que y (List.mem_cons_of_mem _ hy)
  sub := h.sub
  clo y hy hq z hz := by
    by_cases e : y = d
    · subst e
      obtain ⟨x, hx, ha⟩ := acr_nbr.1 hz
      exact hd x hx z ha
    · exact h.clo y hy (by rw [List.mem_cons, not_or]; exact ⟨e, hq⟩) z hz
  rng := h.rng
theorem Bfs.done (h : Bfs g s m []) (d : Die) : d ∈ m.map Prod.fst ↔ Con (edgesG g) s d :=
  ⟨h.con d, fun hc => con_closed hc h.start fun y hy z hz => h.clo y hy (by simp) z hz⟩
theorem look_mem {m : List (Die × Int)} {d : Die} : (lookM m d).isSome = true ↔ d ∈ m.map Prod.fst := by
  cases hl : lookM m d with
  | none => exact ⟨fun h => by simp at h, fun h => absurd h (lookM_none.1 hl)⟩
  | some y => exact ⟨fun _ => List.mem_map.2 ⟨_, lookM_some hl, rfl⟩, fun _ => rfl⟩
theorem putM_add {m : List (Die × Int)} {d : Die} {n : Int} (h : d ∉ m.map Prod.fst) : putM m d n = m ++ [(d, n)] := putM_newJ (lookM_none.2 h)
end
end Go.Proofs.YthnckicnnhkkaaaGreat
/- The numbers of links from a die, round by round: plain. No program in sight, no condition. -/
namespace Go.Proofs.YthnckicnnhkkaaaGreat
open Go.RowKit

/-- In round k. -/
structure FarR (g : Graph) (s : Die) (k : Int) (f : Die → Int) : Prop where
  rng : ∀ d, f d = -1 ∨ (0 ≤ f d ∧ f d ≤ k + 1)
  zero : f s = 0
  only : ∀ d, f d = 0 → d = s
  pred : ∀ d, 0 < f d → ∃ e, Nbr (edgesG g) d e ∧ f e = f d - 1
  clo : ∀ d e, Nbr (edgesG g) d e → 0 ≤ f d → f d < k → 0 ≤ f e ∧ f e ≤ f d + 1
  end_ : ∀ d, 0 ≤ f d → d = s ∨ EndE (edgesG g) d
section
variable {g : Graph} {s a b : Die} {k : Int} {f : Die → Int}
theorem Nbr.symm {E : List (Die × Die)} {a b : Die} (h : Nbr E a b) : Nbr E b a := h.elim .inr .inl
/-- The numbers of links. -/
structure FarAt (g : Graph) (s : Die) (f : Die → Int) : Prop where
  rng : ∀ d, -1 ≤ f d
  zero : f s = 0
  only : ∀ d, f d = 0 → d = s
  pred : ∀ d, 0 < f d → ∃ e, Nbr (edgesG g) d e ∧ f e = f d - 1
  clo : ∀ d e, Nbr (edgesG g) d e → 0 ≤ f d → 0 ≤ f e ∧ f e ≤ f d + 1
end
end Go.Proofs.YthnckicnnhkkaaaGreat
