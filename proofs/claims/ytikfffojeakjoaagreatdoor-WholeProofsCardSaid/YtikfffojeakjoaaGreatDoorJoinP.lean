/- Dies that are joined by links, the names that a growth gives them, how many components there are: plain. No program in sight, no condition. -/
import Derived.Test.YtikfffojeakjoaaGreatDoorMapK
namespace Go.Proofs.YtikfffojeakjoaaGreatDoor
open Go.RowKit

def dA (s : Spec) : Die := ⟨0, s.obv⟩
def dB (s : Spec) : Die := ⟨1, s.rev⟩
theorem dA_ne (s t : Spec) : dA s ≠ dB t := fun h => by
  have := congrArg Die.side h
  simp [dA, dB] at this
/-- Two dies are joined by edges (each die with itself). -/
inductive Con (E : List (Die × Die)) : Die → Die → Prop
  | refl (a : Die) : Con E a a
  | fwd {a b c : Die} : Con E a b → (b, c) ∈ E → Con E a c
  | bwd {a b c : Die} : Con E a b → (c, b) ∈ E → Con E a c
section
variable {E E' : List (Die × Die)} {a b c u v : Die}
theorem Con.trans (h : Con E a b) (k : Con E b c) : Con E a c := by
  induction k with
  | refl => exact h
  | fwd _ he ih => exact ih.fwd he
  | bwd _ he ih => exact ih.bwd he
theorem Con.symm (h : Con E a b) : Con E b a := by
  induction h with
  | refl => exact .refl _
  | fwd _ he ih => exact ((Con.refl _).bwd he).trans ih
  | bwd _ he ih => exact ((Con.refl _).fwd he).trans ih
theorem Con.mono (h : Con E a b) (hs : ∀ e ∈ E, e ∈ E') : Con E' a b := by
  induction h with
  | refl => exact .refl _
  | fwd _ he ih => exact ih.fwd (hs _ he)
  | bwd _ he ih => exact ih.bwd (hs _ he)
theorem con_edge (h : (a, b) ∈ E) : Con E a b := (Con.refl a).fwd h
/-- One edge more. -/
theorem con_snoc : Con (E ++ [(u, v)]) a b ↔ Con E a b ∨ (Con E a u ∧ Con E v b) ∨ (Con E a v ∧ Con E u b) := by
  constructor
  · intro h
    induction h with
    | refl => exact .inl (.refl _)
    | fwd _ he ih =>
      rw [List.mem_append, List.mem_singleton] at he
      rcases he with he | he
      · rcases ih with h | ⟨h1, h2⟩ | ⟨h1, h2⟩
        · exact .inl (h.fwd he)
        · exact .inr (.inl ⟨h1, h2.fwd he⟩)
        · exact .inr (.inr ⟨h1, h2.fwd he⟩)
      · obtain ⟨rfl, rfl⟩ := Prod.mk.inj he
        rcases ih with h | ⟨h1, _⟩ | ⟨h1, _⟩
        · exact .inr (.inl ⟨h, .refl _⟩)
        · exact .inr (.inl ⟨h1, .refl _⟩)
        · exact .inl h1
    | bwd _ he ih =>
      rw [List.mem_append, List.mem_singleton] at he
      rcases he with he | he
      · rcases ih with h | ⟨h1, h2⟩ | ⟨h1, h2⟩
        · exact .inl (h.bwd he)
        · exact .inr (.inl ⟨h1, h2.bwd he⟩)
        · exact .inr (.inr ⟨h1, h2.bwd he⟩)
      · obtain ⟨rfl, rfl⟩ := Prod.mk.inj he
        rcases ih with h | ⟨h1, _⟩ | ⟨h1, _⟩
        · exact .inr (.inr ⟨h, .refl _⟩)
        · exact .inl h1
        · exact .inr (.inr ⟨h1, .refl _⟩)
  · have hm : ∀ e ∈ E, e ∈ E ++ [(u, v)] := fun e he => List.mem_append_left _ he
    have he : (u, v) ∈ E ++ [(u, v)] := List.mem_append_right _ (by simp)
    rintro (h | ⟨h1, h2⟩ | ⟨h1, h2⟩)
    · exact h.mono hm
    · exact ((h1.mono hm).fwd he).trans (h2.mono hm)
    · exact ((h1.mono hm).bwd he).trans (h2.mono hm)
/-- A die of an edge. -/
def EndE (E : List (Die × Die)) (d : Die) : Prop := ∃ e ∈ E, e.1 = d ∨ e.2 = d
theorem endE_snoc : EndE (E ++ [(u, v)]) a ↔ EndE E a ∨ a = u ∨ a = v := by
  constructor
  · rintro ⟨e, he, h⟩
    rw [List.mem_append, List.mem_singleton] at he
    rcases he with he | rfl
    · exact .inl ⟨e, he, h⟩
    · exact .inr (h.imp Eq.symm Eq.symm)
  · rintro (⟨e, he, h⟩ | rfl | rfl)
    · exact ⟨e, List.mem_append_left _ he, h⟩
    · exact ⟨_, List.mem_append_right _ (List.mem_singleton_self _), .inl rfl⟩
    · exact ⟨_, List.mem_append_right _ (List.mem_singleton_self _), .inr rfl⟩
theorem con_end (h : Con E a b) (hne : a ≠ b) : EndE E a ∧ EndE E b := by
  induction h with
  | refl => exact absurd rfl hne
  | @fwd b c h he ih =>
    refine ⟨?_, ⟨_, he, .inr rfl⟩⟩
    by_cases e : a = b
    · exact ⟨_, he, .inl e.symm⟩
    · exact (ih e).1
  | @bwd b c h he ih =>
    refine ⟨?_, ⟨_, he, .inl rfl⟩⟩
    by_cases e : a = b
    · exact ⟨_, he, .inr e.symm⟩
    · exact (ih e).1
/-- Both are there, and joined. -/
def JoinE (E : List (Die × Die)) (a b : Die) : Prop := EndE E a ∧ EndE E b ∧ Con E a b
theorem joinE_congr (h : ∀ e, e ∈ E ↔ e ∈ E') : JoinE E a b ↔ JoinE E' a b := by
  have k1 : ∀ {E E' : List (Die × Die)}, (∀ e, e ∈ E ↔ e ∈ E') → JoinE E a b → JoinE E' a b := fun h ⟨⟨e, h1, h2⟩, ⟨f, h3, h4⟩, h5⟩ => ⟨⟨e, (h _).1 h1, h2⟩, ⟨f, (h _).1 h3, h4⟩, h5.mono fun e he => (h e).1 he⟩
  exact ⟨k1 h, k1 fun e => (h e).symm⟩
end
noncomputable def joinB (E : List (Die × Die)) (a b : Die) : Bool := @decide (JoinE E a b) (Classical.propDecidable _)
theorem joinB_iff {E : List (Die × Die)} {a b : Die} : joinB E a b = true ↔ JoinE E a b := ⟨fun h => by unfold joinB at h; exact @of_decide_eq_true _ (Classical.propDecidable _) h, fun h => by unfold joinB; exact @decide_eq_true _ (Classical.propDecidable _) h⟩
theorem joinB_no {E : List (Die × Die)} {a b : Die} : joinB E a b = false ↔ ¬ JoinE E a b := by
  rw [← joinB_iff]; simp

/-! ### How many there are -/
/-- How many of a list's elements have none before them to which they are related. -/
def firstsA {α : Type} (R : α → α → Bool) : List α → List α → Nat
  | _, [] => 0
  | pre, d :: ds => (if pre.any (fun x => R x d) then 0 else 1) + firstsA R (pre ++ [d]) ds
theorem firstsA_snoc {α : Type} (R : α → α → Bool) : ∀ (ds pre : List α) (d : α), firstsA R pre (ds ++ [d]) = firstsA R pre ds + (if (pre ++ ds).any (fun x => R x d) then 0 else 1)
  | [], pre, d => by simp [firstsA]
  | e :: ds, pre, d => by
    rw [List.cons_append, firstsA, firstsA, firstsA_snoc R ds (pre ++ [e]) d, List.append_assoc]
    simp only [List.singleton_append]
    omega
theorem firstsA_congr {α : Type} {R R' : α → α → Bool} : ∀ (ds pre : List α), (∀ x ∈ pre ++ ds, ∀ y ∈ pre ++ ds, R x y = R' x y) → firstsA R pre ds = firstsA R' pre ds
  | [], _, _ => rfl
  | d :: ds, pre, h => by
    rw [firstsA, firstsA, firstsA_congr ds (pre ++ [d]) (by simpa using h)]
    have : pre.any (fun x => R x d) = pre.any (fun x => R' x d) := by
      rw [Bool.eq_iff_iff, List.any_eq_true, List.any_eq_true]
      constructor
      · rintro ⟨x, hx, e⟩; exact ⟨x, hx, by rw [← h x (by simp [hx]) d (by simp)]; exact e⟩
      · rintro ⟨x, hx, e⟩; exact ⟨x, hx, by rw [h x (by simp [hx]) d (by simp)]; exact e⟩
    rw [this]
/-- How many of the numbers below n are values. -/
def dcount (n : Nat) (vs : List Int) : Nat := (List.range n).countP fun (i : Nat) => decide ((i : Int) ∈ vs)
theorem dcount_congr {n : Nat} {vs us : List Int} (h : ∀ x, x ∈ vs ↔ x ∈ us) : dcount n vs = dcount n us := by
  unfold dcount
  congr 1
  funext i
  rw [decide_eq_decide]
  exact h _
theorem countP_add_one {p q : Nat → Bool} {k : Nat} : ∀ {n : Nat}, k < n → (∀ i, i ≠ k → p i = q i) → p k = false → q k = true → (List.range n).countP q = (List.range n).countP p + 1
  | 0, h, _, _, _ => absurd h (by omega)
  | n + 1, h, he, h1, h2 => by
    rw [List.range_succ, List.countP_append, List.countP_append]
    by_cases e : k = n
    · subst e
      have : (List.range k).countP q = (List.range k).countP p := by
        refine List.countP_congr fun i hi => ?_
        rw [he i (by have := List.mem_range.1 hi; omega)]
      rw [this]
      simp [h1, h2]
    · rw [countP_add_one (n := n) (by omega) he h1 h2]
      have : [n].countP q = [n].countP p := by simp [List.countP_cons, he n (fun h => e h.symm)]
      rw [this]; omega
theorem dcount_new {n : Nat} {vs : List Int} {k : Nat} (hk : k < n) (h : (k : Int) ∉ vs) : dcount n (vs ++ [(k : Int)]) = dcount n vs + 1 := by
  unfold dcount
  refine countP_add_one hk (fun i hi => ?_) (by simpa using h) (by simp)
  rw [decide_eq_decide, List.mem_append, List.mem_singleton]
  constructor
  · exact .inl
  · rintro (h | h)
    · exact h
    · exact absurd (by omega) hi
theorem dcount_more {n : Nat} {vs : List Int} (h : ∀ x ∈ vs, x < n) : dcount (n + 1) vs = dcount n vs := by
  unfold dcount
  rw [List.range_succ, List.countP_append]
  have : [n].countP (fun (i : Nat) => decide ((i : Int) ∈ vs)) = 0 := by
    rw [List.countP_eq_zero]
    intro i hi
    simp only [List.mem_singleton] at hi
    subst hi
    simp only [decide_eq_true_eq]
    intro hm
    have := h _ hm
    omega
  rw [this]; omega
theorem dcount_merge {n : Nat} {vs : List Int} {f t : Int} (hf : f ∈ vs) (ht : t ∈ vs) (hne : f ≠ t) (h0 : ∀ x ∈ vs, 0 ≤ x ∧ x < n) : dcount n (vs.map fun x => if x = f then t else x) + 1 = dcount n vs := by
  obtain ⟨k, rfl⟩ : ∃ k : Nat, f = k := ⟨f.toNat, by have := h0 f hf; omega⟩
  have hk := (h0 _ hf).2
  unfold dcount
  refine (countP_add_one (n := n) (k := k) (by omega) (fun i hi => ?_) ?_ (by simpa using hf)).symm
  · rw [decide_eq_decide, List.mem_map]
    constructor
    · rintro ⟨x, hx, e⟩
      split at e
      · rw [← e]; exact ht
      · rw [← e]; exact hx
    · intro hm
      exact ⟨i, hm, by rw [if_neg (by omega)]⟩
  · simp only [decide_eq_false_iff_not, List.mem_map, not_exists, not_and]
    intro x hx e
    split at e
    · exact hne e.symm
    · rename_i h; exact h e
/-- The elements that come first by their values are as many as there are values. -/
theorem firsts_values {α : Type} (f : α → Int) (n : Nat) : ∀ (ds : List α), (∀ d ∈ ds, 0 ≤ f d ∧ f d < n) → firstsA (fun x y => f x == f y) [] ds = dcount n (ds.map f) := by
  intro ds
  have : ∀ (k : Nat), k ≤ ds.length → (∀ d ∈ ds, 0 ≤ f d ∧ f d < n) → firstsA (fun x y => f x == f y) [] (ds.take k) = dcount n ((ds.take k).map f) := by
    intro k
    induction k with
    | zero =>
      intro _ _
      rw [List.take_zero, List.map_nil]
      unfold dcount firstsA
      symm
      rw [List.countP_eq_zero]
      simp
    | succ k ih =>
      intro hk h
      obtain ⟨d, hd⟩ := get_of_lt (show k < ds.length by omega)
      have hb := h d (List.mem_of_getElem? hd)
      rw [take_snoc' hd, firstsA_snoc, ih (by omega) h, List.nil_append, List.map_append, List.map_singleton]
      obtain ⟨j, hj⟩ : ∃ j : Nat, f d = j := ⟨(f d).toNat, by omega⟩
      by_cases hin : f d ∈ (ds.take k).map f
      · rw [if_pos]
        · refine (dcount_congr fun x => ?_).symm
          rw [List.mem_append, List.mem_singleton]
          constructor
          · rintro (hx | rfl)
            · exact hx
            · exact hin
          · exact .inl
        · rw [List.any_eq_true]
          obtain ⟨x, hx, e⟩ := List.mem_map.1 hin
          exact ⟨x, hx, by simpa using e⟩
      · rw [if_neg]
        · rw [hj] at hin ⊢
          exact (dcount_new (by omega) hin).symm
        · rw [List.any_eq_true]
          rintro ⟨x, hx, e⟩
          exact hin (List.mem_map.2 ⟨x, hx, by simpa using e⟩)
  intro h
  have h1 := this ds.length (Nat.le_refl _) h
  rwa [List.take_length] at h1

/-! ### The growth -/
structure Gr where
  m : List (Die × Int)
  named : Nat
  count : Nat
def beginG : Gr := ⟨[], 0, 0⟩
def knowG (d : Die) (g : Gr) : Gr := if (lookM g.m d).isSome = true then g else ⟨putM g.m d g.named, g.named + 1, g.count + 1⟩
def bothG (s : Spec) (g : Gr) : Gr := knowG (dB s) (knowG (dA s) g)
def fromG (s : Spec) (g : Gr) : Int := (lookM (bothG s g).m (dB s)).getD 0
def toG (s : Spec) (g : Gr) : Int := (lookM (bothG s g).m (dA s)).getD 0
def turnM (m : List (Die × Int)) (f t : Int) : List (Die × Int) := m.map fun p => (p.1, if p.2 = f then t else p.2)
def enterG (s : Spec) (g : Gr) : Gr := if fromG s g = toG s g then bothG s g else ⟨turnM (bothG s g).m (fromG s g) (toG s g), (bothG s g).named, (bothG s g).count - 1⟩
def apartG (s : Spec) (g : Gr) : Bool := !(fromG s g == toG s g)
def thereG (s : Spec) (g : Gr) : Bool := (fromG s g == toG s g) || ((lookM g.m (dA s)).isSome && (lookM (knowG (dA s) g).m (dB s)).isSome)
theorem lookM_turn (m : List (Die × Int)) (f t : Int) (d : Die) : lookM (turnM m f t) d = (lookM m d).map fun n => if n = f then t else n := by
  induction m with
  | nil => rfl
  | cons p m ih =>
    simp only [turnM, List.map_cons, lookM] at ih ⊢
    by_cases h : p.1 = d
    · rw [if_pos h, if_pos h]; rfl
    · rw [if_neg h, if_neg h]; exact ih
structure NInv (E : List (Die × Die)) (g : Gr) : Prop where
  keys : ∀ d, (lookM g.m d).isSome = true ↔ EndE E d
  nod : (g.m.map Prod.fst).Nodup
  rng : ∀ d n, lookM g.m d = some n → 0 ≤ n ∧ n < g.named
  con : ∀ a b n k, lookM g.m a = some n → lookM g.m b = some k → (n = k ↔ Con E a b)
  cnt : g.count = dcount g.named (g.m.map Prod.snd)
theorem ninv_begin : NInv [] beginG where
  keys d := ⟨fun h => by simp [beginG, lookM] at h, fun ⟨e, he, _⟩ => absurd he (by simp)⟩
  nod := by simp [beginG]
  rng d n h := by simp [beginG, lookM] at h
  con a b n k h := by simp [beginG, lookM] at h
  cnt := by simp [beginG, dcount]
/-- What is known besides the ends of edges. -/
structure GMid (E : List (Die × Die)) (X : List Die) (g : Gr) : Prop where
  keys : ∀ d, (lookM g.m d).isSome = true ↔ EndE E d ∨ d ∈ X
  nod : (g.m.map Prod.fst).Nodup
  rng : ∀ d n, lookM g.m d = some n → 0 ≤ n ∧ n < g.named
  con : ∀ a b n k, lookM g.m a = some n → lookM g.m b = some k → (n = k ↔ Con E a b)
  cnt : g.count = dcount g.named (g.m.map Prod.snd)
theorem putM_new {κ β : Type} [DecidableEq κ] : ∀ {m : List (κ × β)} {x : κ} {y : β}, lookM m x = none → putM m x y = m ++ [(x, y)]
  | [], x, y, _ => rfl
  | p :: m, x, y, h => by
    rw [lookM] at h
    by_cases e : p.1 = x
    · rw [if_pos e] at h; cases h
    · rw [if_neg e] at h
      rw [putM, if_neg e, putM_new h]
      rfl
theorem GMid.vals {E : List (Die × Die)} {X : List Die} {g : Gr} (h : GMid E X g) : ∀ x ∈ g.m.map Prod.snd, 0 ≤ x ∧ x < g.named := fun x hx => by
  obtain ⟨p, hp, rfl⟩ := List.mem_map.1 hx
  exact h.rng p.1 p.2 ((lookM_mem h.nod).2 hp)
theorem GMid.know {E : List (Die × Die)} {X : List Die} {g : Gr} (h : GMid E X g) (d : Die) : GMid E (X ++ [d]) (knowG d g) := by
  unfold knowG
  by_cases hs : (lookM g.m d).isSome = true
  · rw [if_pos hs]
    refine ⟨fun x => (h.keys x).trans ⟨fun hx => hx.imp id fun hx => List.mem_append_left _ hx, fun hx => ?_⟩, h.nod, h.rng, h.con, h.cnt⟩
    rcases hx with hx | hx
    · exact .inl hx
    · rcases List.mem_append.1 hx with hx | hx
      · exact .inr hx
      · rw [List.mem_singleton] at hx
        subst hx
        exact (h.keys _).1 hs
  · rw [if_neg hs]
    have hn : lookM g.m d = none := by
      cases hl : lookM g.m d with
      | none => rfl
      | some x => rw [hl] at hs; simp at hs
    have hE : ¬ EndE E d := fun he => hs ((h.keys d).2 (.inl he))
    have hl : ∀ x, lookM (putM g.m d (g.named : Int)) x = if d = x then some (g.named : Int) else lookM g.m x := fun x => lookM_putM _ _ _ _
    refine ⟨fun x => ?_, putM_nodup h.nod _ _, fun x n hx => ?_, fun a b n k ha hb => ?_, ?_⟩
    · simp only [hl]
      by_cases e : d = x
      · subst e; simp
      · rw [if_neg e, h.keys]
        simp only [List.mem_append, List.mem_singleton]
        exact ⟨fun hx => hx.imp id .inl, fun hx => hx.imp id fun hx => hx.resolve_right fun e' => e e'.symm⟩
    · simp only [hl] at hx
      by_cases e : d = x
      · rw [if_pos e] at hx
        cases hx
        exact ⟨by omega, by simp only; omega⟩
      · rw [if_neg e] at hx
        have := h.rng x n hx
        exact ⟨this.1, by simp only; omega⟩
    · simp only [hl] at ha hb
      by_cases e : d = a
      · rw [if_pos e] at ha
        cases ha
        by_cases e' : d = b
        · rw [if_pos e'] at hb
          cases hb
          rw [← e, ← e']
          exact ⟨fun _ => .refl _, fun _ => rfl⟩
        · rw [if_neg e'] at hb
          have := (h.rng b k hb).2
          refine ⟨fun hh => by omega, fun hc => ?_⟩
          exact absurd (con_end hc (fun e'' => e' (e.trans e''))).1 (by rw [← e]; exact hE)
      · rw [if_neg e] at ha
        by_cases e' : d = b
        · rw [if_pos e'] at hb
          cases hb
          have := (h.rng a n ha).2
          refine ⟨fun hh => by omega, fun hc => ?_⟩
          exact absurd (con_end hc (fun e'' => e (e'.trans e''.symm))).2 (by rw [← e']; exact hE)
        · rw [if_neg e'] at hb
          exact h.con a b n k ha hb
    · have hv := h.vals
      rw [putM_new hn, List.map_append, List.map_singleton, dcount_new (Nat.lt_succ_self _) (fun hm => by have := (hv _ hm).2; omega), dcount_more (fun x hx => (hv x hx).2), ← h.cnt]
theorem NInv.both {E : List (Die × Die)} {g : Gr} (h : NInv E g) (s : Spec) : GMid E [dA s, dB s] (bothG s g) := by
  have h0 : GMid E [] g := ⟨fun d => by rw [h.keys]; simp, h.nod, h.rng, h.con, h.cnt⟩
  exact (h0.know (dA s)).know (dB s)
theorem GMid.some {E : List (Die × Die)} {X : List Die} {g : Gr} (h : GMid E X g) {d : Die} (hd : d ∈ X) : ∃ n, lookM g.m d = some n :=
  Option.isSome_iff_exists.1 ((h.keys d).2 (.inr hd))
/-- What entering a specimen makes of the growth, and what it says of its dies. -/
theorem NInv.enter {E : List (Die × Die)} {g : Gr} (h : NInv E g) (s : Spec) :
    NInv (E ++ [(dA s, dB s)]) (enterG s g) ∧ (apartG s g = true ↔ ¬ JoinE E (dA s) (dB s)) ∧ (thereG s g = true ↔ JoinE E (dA s) (dB s) ∨ (EndE E (dA s) ∧ EndE E (dB s))) := by
  have hb := h.both s
  obtain ⟨t, ht⟩ := hb.some (d := dA s) (by simp)
  obtain ⟨f, hf⟩ := hb.some (d := dB s) (by simp)
  have eF : fromG s g = f := by rw [fromG, hf]; rfl
  have eT : toG s g = t := by rw [toG, ht]; rfl
  have hcon := hb.con _ _ _ _ hf ht
  have hJ : f = t ↔ JoinE E (dA s) (dB s) := by
    rw [hcon]
    constructor
    · intro hc
      have := con_end hc (dA_ne s s).symm
      exact ⟨this.2, this.1, hc.symm⟩
    · exact fun hj => hj.2.2.symm
  have hthere : ((lookM g.m (dA s)).isSome && (lookM (knowG (dA s) g).m (dB s)).isSome) = true ↔ EndE E (dA s) ∧ EndE E (dB s) := by
    rw [Bool.and_eq_true, h.keys]
    have h0 : GMid E [] g := ⟨fun d => by rw [h.keys]; simp, h.nod, h.rng, h.con, h.cnt⟩
    rw [(h0.know (dA s)).keys]
    constructor
    · rintro ⟨h1, h2⟩
      exact ⟨h1, h2.resolve_right (by simpa using (dA_ne s s).symm)⟩
    · rintro ⟨h1, h2⟩
      exact ⟨h1, .inl h2⟩
  refine ⟨?_, ?_, ?_⟩
  · unfold enterG
    rw [eF, eT]
    by_cases e : f = t
    · rw [if_pos e]
      have hab := hcon.1 e
      refine ⟨fun d => ?_, hb.nod, hb.rng, fun a b n k ha hb' => ?_, hb.cnt⟩
      · rw [hb.keys, endE_snoc]; simp
      · rw [hb.con a b n k ha hb', con_snoc]
        constructor
        · exact .inl
        · rintro (h1 | ⟨h1, h2⟩ | ⟨h1, h2⟩)
          · exact h1
          · exact h1.trans (hab.symm.trans h2)
          · exact h1.trans (hab.trans h2)
    · rw [if_neg e]
      have hvals := hb.vals
      have hfm : f ∈ (bothG s g).m.map Prod.snd := List.mem_map.2 ⟨_, lookM_some hf, rfl⟩
      have htm : t ∈ (bothG s g).m.map Prod.snd := List.mem_map.2 ⟨_, lookM_some ht, rfl⟩
      refine ⟨fun d => ?_, ?_, fun d n hd => ?_, fun a b n k ha hb' => ?_, ?_⟩
      · simp only [lookM_turn, Option.isSome_map]
        rw [hb.keys, endE_snoc]; simp
      · simp only [turnM, List.map_map]; exact hb.nod
      · simp only [lookM_turn] at hd
        obtain ⟨n', h1, h2⟩ := Option.map_eq_some_iff.1 hd
        split at h2
        · rw [← h2]; exact hb.rng _ _ ht
        · rw [← h2]; exact hb.rng _ _ h1
      · simp only [lookM_turn] at ha hb'
        obtain ⟨n', h1, h2⟩ := Option.map_eq_some_iff.1 ha
        obtain ⟨k', h3, h4⟩ := Option.map_eq_some_iff.1 hb'
        have c1 := hb.con _ _ _ _ h1 hf
        have c2 := hb.con _ _ _ _ h1 ht
        have c3 := hb.con _ _ _ _ h3 hf
        have c4 := hb.con _ _ _ _ h3 ht
        have c5 := hb.con _ _ _ _ h1 h3
        rw [con_snoc]
        have s1 : ∀ {a b : Die}, Con E a b ↔ Con E b a := ⟨Con.symm, Con.symm⟩
        rw [← c2, ← c1, s1 (a := dB s), s1 (a := dA s), ← c3, ← c4, ← c5, ← h2, ← h4]
        by_cases e1 : n' = f <;> by_cases e2 : k' = f
        · simp [e1, e2]
        · rw [if_pos e1, if_neg e2]
          constructor
          · intro hh; exact .inr (.inr ⟨e1, hh.symm⟩)
          · rintro (hh | ⟨_, hh⟩ | ⟨_, hh⟩)
            · exact absurd (hh.symm.trans e1) e2
            · exact absurd hh e2
            · exact hh.symm
        · rw [if_neg e1, if_pos e2]
          constructor
          · intro hh; exact .inr (.inl ⟨hh, e2⟩)
          · rintro (hh | ⟨hh, _⟩ | ⟨hh, _⟩)
            · exact absurd (hh.trans e2) e1
            · exact hh
            · exact absurd hh e1
        · rw [if_neg e1, if_neg e2]
          constructor
          · exact .inl
          · rintro (hh | ⟨_, hh⟩ | ⟨hh, _⟩)
            · exact hh
            · exact absurd hh e2
            · exact absurd hh e1
      · have hd := dcount_merge hfm htm e hvals
        have : (turnM (bothG s g).m f t).map Prod.snd = ((bothG s g).m.map Prod.snd).map fun x => if x = f then t else x := by
          simp only [turnM, List.map_map]; rfl
        simp only [this]
        have := hb.cnt
        omega
  · rw [apartG, eF, eT, Bool.not_eq_true', beq_eq_false_iff_ne, ← hJ]
  · rw [thereG, eF, eT, Bool.or_eq_true, beq_iff_eq, hJ, hthere]
def edgesG (g : Graph) : List (Die × Die) := g.links.map fun x => (⟨0, x.obv⟩, ⟨1, x.rev⟩)
end Go.Proofs.YtikfffojeakjoaaGreatDoor
