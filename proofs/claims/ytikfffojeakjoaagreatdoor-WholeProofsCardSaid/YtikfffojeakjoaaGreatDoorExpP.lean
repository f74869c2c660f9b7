/- The order of lists, the greedy list, ways along links: plain. No program in sight, no condition. -/
import Derived.Test.YtikfffojeakjoaaGreatDoorCompP
import Derived.Test.YtikfffojeakjoaaGreatDoorCmpL
import Derived.Test.YtikfffojeakjoaaGreatDoorLinkA
import Derived.Test.YtikfffojeakjoaaGreatDoorPlain
import Derived.Test.YtikfffojeakjoaaGreatDoorBase
import Derived.Test.YtikfffojeakjoaaGreatDoorCompB
namespace Go.Proofs.YtikfffojeakjoaaGreatDoor
open Go.RowKit

/-! ### The order of lists of numbers -/
theorem cmpI_self (x : Int) : Lib.compareInt x x = 0 := by simp [Lib.compareInt]
theorem cmpI_zero {x y : Int} : Lib.compareInt x y = 0 ↔ x = y := by
  unfold Lib.compareInt
  split
  · omega
  · split <;> omega
theorem cmpI_neg (x y : Int) : Lib.compareInt y x = - Lib.compareInt x y := by
  unfold Lib.compareInt
  split <;> split <;> (try split) <;> (try split) <;> omega
theorem cmpI_lt {x y : Int} : Lib.compareInt x y < 0 ↔ x < y := by
  unfold Lib.compareInt
  split
  · omega
  · split <;> omega
theorem cmpL_cons (x y : Int) (xs ys : List Int) : cmpL (x :: xs) (y :: ys) = if Lib.compareInt x y = 0 then cmpL xs ys else Lib.compareInt x y := rfl
theorem cmpL_self : ∀ xs, cmpL xs xs = 0
  | [] => rfl
  | x :: xs => by rw [cmpL_cons, if_pos (cmpI_self x), cmpL_self xs]
theorem cmpL_neg : ∀ xs ys, cmpL ys xs = - cmpL xs ys
  | [], [] => rfl
  | [], y :: ys => rfl
  | x :: xs, [] => rfl
  | x :: xs, y :: ys => by
    rw [cmpL_cons, cmpL_cons, cmpI_neg x y, cmpL_neg xs ys]
    by_cases h : Lib.compareInt x y = 0
    · rw [if_pos h, if_pos (by omega)]
    · rw [if_neg h, if_neg (by omega)]
theorem cmpL_zero : ∀ {xs ys}, cmpL xs ys = 0 → xs = ys
  | [], [], _ => rfl
  | [], y :: ys, h => by cases h
  | x :: xs, [], h => by cases h
  | x :: xs, y :: ys, h => by
    rw [cmpL_cons] at h
    split at h
    · rename_i e; rw [cmpI_zero.1 e, cmpL_zero h]
    · rename_i e; exact absurd h e
theorem cmpL_trans : ∀ {xs ys zs}, cmpL xs ys ≤ 0 → cmpL ys zs ≤ 0 → cmpL xs zs ≤ 0
  | [], _, [], _, _ => by decide
  | [], _, z :: zs, _, _ => by rw [show cmpL [] (z :: zs) = -1 from rfl]; decide
  | x :: xs, [], _, h, _ => absurd h (by rw [show cmpL (x :: xs) [] = 1 from rfl]; decide)
  | x :: xs, y :: ys, [], _, h => absurd h (by rw [show cmpL (y :: ys) [] = 1 from rfl]; decide)
  | x :: xs, y :: ys, z :: zs, h, k => by
    rw [cmpL_cons] at h k ⊢
    by_cases hxy : Lib.compareInt x y = 0
    · rw [if_pos hxy] at h
      rw [cmpI_zero.1 hxy]
      by_cases hyz : Lib.compareInt y z = 0
      · rw [if_pos hyz] at k ⊢; exact cmpL_trans h k
      · rw [if_neg hyz] at k ⊢; exact k
    · rw [if_neg hxy] at h
      have h1 : x < y := cmpI_lt.1 (by omega)
      by_cases hyz : Lib.compareInt y z = 0
      · rw [← cmpI_zero.1 hyz, if_neg hxy]; exact h
      · rw [if_neg hyz] at k
        have h2 : y < z := cmpI_lt.1 (by omega)
        have h3 : Lib.compareInt x z < 0 := cmpI_lt.2 (by omega)
        rw [if_neg (by omega)]; omega
theorem cmpL_total (xs ys : List Int) : cmpL xs ys ≤ 0 ∨ cmpL ys xs ≤ 0 := by rw [cmpL_neg xs ys]; omega
theorem cmpL_anti {xs ys : List Int} (h : cmpL xs ys ≤ 0) (k : cmpL ys xs ≤ 0) : xs = ys := cmpL_zero (by rw [cmpL_neg xs ys] at k; omega)
/-- Element by element. -/
inductive LeL : List Int → List Int → Prop
  | nil : LeL [] []
  | cons {x y : Int} {xs ys : List Int} : x ≤ y → LeL xs ys → LeL (x :: xs) (y :: ys)
theorem LeL.cmp {xs ys : List Int} (h : LeL xs ys) : cmpL xs ys ≤ 0 := by
  induction h with
  | nil => decide
  | @cons x y xs ys hxy _ ih =>
    rw [cmpL_cons]
    split
    · exact ih
    · have : ¬ Lib.compareInt x y > 0 := by
        intro h; rw [← Int.neg_neg (Lib.compareInt x y), ← cmpI_neg] at h
        have := cmpI_lt.1 (show Lib.compareInt y x < 0 by omega)
        omega
      omega
theorem LeL.refl : ∀ xs, LeL xs xs
  | [] => .nil
  | x :: xs => .cons (Int.le_refl x) (LeL.refl xs)
/-- Insertion into an ascending list. -/
def insN (x : Int) : List Int → List Int
  | [] => [x]
  | y :: ys => if x ≤ y then x :: y :: ys else y :: insN x ys
def isL : List Int → List Int
  | [] => []
  | x :: xs => insN x (isL xs)
theorem insN_perm (x : Int) : ∀ ys, (insN x ys).Perm (x :: ys)
  | [] => .refl _
  | y :: ys => by
    rw [insN]
    split
    · exact .refl _
    · exact ((insN_perm x ys).cons y).trans (.swap x y ys)
theorem isL_perm : ∀ xs, (isL xs).Perm xs
  | [] => .refl _
  | x :: xs => (insN_perm x _).trans ((isL_perm xs).cons x)
theorem insN_sorted (x : Int) : ∀ {ys : List Int}, ys.Pairwise (· ≤ ·) → (insN x ys).Pairwise (· ≤ ·)
  | [], _ => List.pairwise_singleton _ _
  | y :: ys, h => by
    rw [List.pairwise_cons] at h
    rw [insN]
    split
    · rename_i hxy
      refine List.pairwise_cons.2 ⟨fun z hz => ?_, List.pairwise_cons.2 h⟩
      rcases List.mem_cons.1 hz with rfl | hz
      · exact hxy
      · have := h.1 z hz; omega
    · rename_i hxy
      refine List.pairwise_cons.2 ⟨fun z hz => ?_, insN_sorted x h.2⟩
      rcases List.mem_cons.1 ((insN_perm x ys).mem_iff.1 hz) with rfl | hz
      · omega
      · exact h.1 z hz
theorem isL_sorted : ∀ xs, (isL xs).Pairwise (· ≤ ·)
  | [] => List.Pairwise.nil
  | x :: xs => insN_sorted x (isL_sorted xs)
theorem sortI_isL (xs : List Int) : sortI xs = isL xs := by
  have h1 : (sortI xs).Pairwise (· ≤ ·) := (List.pairwise_mergeSort (le := fun x y : Int => decide (x ≤ y)) (fun a b c h1 h2 => by simp at *; omega) (fun a b => by simp; omega) xs).imp fun h => by simpa using h
  exact ((List.mergeSort_perm _ _).trans (isL_perm xs).symm).eq_of_pairwise (fun a b _ _ h1 h2 => by omega) h1 (isL_sorted xs)
theorem isL_of_perm {xs ys : List Int} (h : xs.Perm ys) : isL xs = isL ys :=
  (((isL_perm xs).trans h).trans (isL_perm ys).symm).eq_of_pairwise (fun a b _ _ h1 h2 => by omega) (isL_sorted xs) (isL_sorted ys)
theorem insN_head {a : Int} {s : List Int} (h : (a :: s).Pairwise (· ≤ ·)) : insN a s = a :: s := by
  cases s with
  | nil => rfl
  | cons b s =>
    rw [insN, if_pos]
    exact (List.pairwise_cons.1 h).1 b (by simp)
theorem insN_cmp {x y : Int} : ∀ {s : List Int}, s.Pairwise (· ≤ ·) → x ≤ y → cmpL (insN x s) (insN y s) ≤ 0
  | [], _, h => (LeL.cons h .nil).cmp
  | a :: s, hs, h => by
    by_cases hx : x ≤ a
    · by_cases hy : y ≤ a
      · rw [insN, insN, if_pos hx, if_pos hy]
        exact (LeL.cons h (LeL.refl _)).cmp
      · rw [insN, insN, if_pos hx, if_neg hy, cmpL_cons]
        by_cases e : x = a
        · rw [e, if_pos (cmpI_self a)]
          have := insN_cmp (x := a) (y := y) (List.pairwise_cons.1 hs).2 (by omega)
          rwa [insN_head hs] at this
        · have := cmpI_lt.2 (show x < a by omega)
          rw [if_neg (by omega)]; omega
    · rw [insN, insN, if_neg hx, if_neg (by omega), cmpL_cons, if_pos (cmpI_self a)]
      exact insN_cmp (List.pairwise_cons.1 hs).2 h
theorem LeL.isL {xs ys : List Int} (h : LeL xs ys) : ∀ m : List Int, cmpL (isL (xs ++ m)) (isL (ys ++ m)) ≤ 0 := by
  induction h with
  | nil => intro m; rw [cmpL_self]; omega
  | @cons x y xs ys hxy _ ih =>
    intro m
    have h1 := insN_cmp (isL_sorted (xs ++ m)) hxy
    have h2 := ih (y :: m)
    have e1 : Go.Proofs.YtikfffojeakjoaaGreatDoor.isL (xs ++ y :: m) = insN y (Go.Proofs.YtikfffojeakjoaaGreatDoor.isL (xs ++ m)) := isL_of_perm (ys := y :: (xs ++ m)) List.perm_middle
    have e2 : Go.Proofs.YtikfffojeakjoaaGreatDoor.isL (ys ++ y :: m) = Go.Proofs.YtikfffojeakjoaaGreatDoor.isL (y :: ys ++ m) := isL_of_perm List.perm_middle
    rw [e1, e2] at h2
    exact cmpL_trans h1 h2
/-! ### The least list, and the greedy one -/
abbrev AscL (L : List Int) : Prop := L.Pairwise (· < ·)
structure LeastIn (F : List Int → Prop) (L : List Int) : Prop where
  mem : F L
  least : ∀ M, F M → cmpL L M ≤ 0
theorem LeastIn.uniq {F : List Int → Prop} {L M : List Int} (h : LeastIn F L) (k : LeastIn F M) : L = M := cmpL_anti (h.least M k.mem) (k.least L h.mem)
/-- A list that has an element which the other one lacks, and all that the other one has below it, comes first. -/
theorem cmpL_witness {i : Int} : ∀ {M m : List Int}, AscL M → AscL m → M.length = m.length → i ∈ M → i ∉ m → (∀ y ∈ m, y < i → y ∈ M) → cmpL M m < 0
  | [], _, _, _, _, h, _, _ => by cases h
  | _ :: _, [], _, _, h, _, _, _ => by cases h
  | a :: M, b :: m, hM, hm, hl, hi, hn, hs => by
    rw [AscL, List.pairwise_cons] at hM hm
    rw [cmpL_cons]
    by_cases e : a = b
    · subst e
      rw [if_pos (cmpI_self a)]
      have hia : i ≠ a := fun e => hn (by rw [e]; exact List.mem_cons_self ..)
      have hiM : i ∈ M := (List.mem_cons.1 hi).resolve_left hia
      refine cmpL_witness hM.2 hm.2 (by simpa using hl) hiM (fun h => hn (List.mem_cons_of_mem _ h)) fun y hy hyi => ?_
      have hya := hm.1 y hy
      exact (List.mem_cons.1 (hs y (List.mem_cons_of_mem _ hy) hyi)).resolve_left (by omega)
    · have hne : Lib.compareInt a b ≠ 0 := fun h => e (cmpI_zero.1 h)
      rw [if_neg hne]
      rcases Int.lt_or_lt_of_ne e with h | h
      · exact cmpI_lt.2 h
      · exfalso
        have hai : a ≤ i := by
          rcases List.mem_cons.1 hi with rfl | h1
          · exact Int.le_refl _
          · have := hM.1 i h1; omega
        have hb := hs b (List.mem_cons_self ..) (by omega)
        rcases List.mem_cons.1 hb with h1 | h1
        · exact e h1.symm
        · have := hM.1 b h1; omega
/-- One more element, if there are not k yet and the test allows it. -/
def greedyS (k : Nat) (T : List Int → Bool) (out : List Int) (i : Int) : List Int := if (decide (out.length < k) && T (out ++ [i])) = true then out ++ [i] else out
def greedyL (k : Nat) (T : List Int → Bool) (ids : List Int) : List Int := ids.foldl (greedyS k T) []
theorem greedy_least {F : List Int → Prop} {k : Nat} {T : List Int → Bool} {ids m : List Int} (hids : AscL ids) (hm : LeastIn F m) (hF : ∀ M, F M → AscL M ∧ M.length = k ∧ ∀ y ∈ M, y ∈ ids)
    (hT : ∀ R, AscL R → (∀ y ∈ R, y ∈ ids) → (T R = true ↔ ∃ M, F M ∧ ∀ y ∈ R, y ∈ M)) : ∀ j, j ≤ ids.length → (ids.take j).foldl (greedyS k T) [] = m.filter fun y => decide (y ∈ ids.take j) := by
  intro j
  obtain ⟨hma, hmk, hmi⟩ := hF m hm.mem
  induction j with
  | zero => intro _; simp
  | succ j ih =>
    intro hj
    obtain ⟨i, hi⟩ := get_of_lt (show j < ids.length by omega)
    have hti := take_snoc' hi
    have hps : AscL (ids.take j ++ [i]) := by rw [← hti]; exact hids.sublist (List.take_sublist _ _)
    have hlt : ∀ y ∈ ids.take j, y < i := fun y hy => (List.pairwise_append.1 hps).2.2 y hy i (by simp)
    have hmem : i ∈ ids := List.mem_of_getElem? hi
    have hback : ∀ y ∈ ids, y < i → y ∈ ids.take j := fun y hy hyi => by
      obtain ⟨n, hn⟩ := List.getElem?_of_mem hy
      have hnj : n < j := by
        rcases Nat.lt_or_ge n j with h | h
        · exact h
        · exfalso
          rcases Nat.eq_or_lt_of_le h with e | h
          · subst e; rw [hi] at hn; cases hn; omega
          · obtain ⟨h1, e1⟩ := List.getElem?_eq_some_iff.1 hi
            obtain ⟨h2, e2⟩ := List.getElem?_eq_some_iff.1 hn
            have := List.pairwise_iff_getElem.1 hids j n h1 h2 h
            omega
      exact List.mem_of_getElem? (i := n) (by rw [List.getElem?_take, if_pos hnj]; exact hn)
    rw [hti, List.foldl_append, ih (by omega)]
    have hout : AscL (m.filter fun y => decide (y ∈ ids.take j)) := hma.sublist List.filter_sublist
    have hsub : ∀ y ∈ (m.filter fun y => decide (y ∈ ids.take j)) ++ [i], y ∈ ids := fun y hy => by
      rcases List.mem_append.1 hy with h | h
      · exact hmi y (List.mem_filter.1 h).1
      · rw [List.mem_singleton] at h; subst h; exact hmem
    have hasc : AscL ((m.filter fun y => decide (y ∈ ids.take j)) ++ [i]) := by
      refine List.pairwise_append.2 ⟨hout, List.pairwise_singleton _ _, fun a ha b hb => ?_⟩
      rw [List.mem_singleton] at hb; subst hb
      exact hlt a (by simpa using (List.mem_filter.1 ha).2)
    show greedyS k T (m.filter fun y => decide (y ∈ ids.take j)) i = _
    unfold greedyS
    by_cases him : i ∈ m
    · have hl : (m.filter fun y => decide (y ∈ ids.take j)).length < k := by
        rw [← hmk]
        refine Nat.lt_of_le_of_ne (List.length_filter_le _ _) fun e => ?_
        have := List.length_filter_eq_length_iff.1 e i him
        have := hlt i (by simpa using this)
        omega
      rw [if_pos]
      · refine asc_unique id hasc (hma.sublist List.filter_sublist) fun n => ?_
        simp only [List.mem_append, List.mem_filter, List.mem_singleton, decide_eq_true_eq]
        constructor
        · rintro (⟨h1, h2⟩ | rfl)
          · exact ⟨h1, .inl h2⟩
          · exact ⟨him, .inr rfl⟩
        · rintro ⟨h1, h2 | h2⟩
          · exact .inl ⟨h1, h2⟩
          · exact .inr h2
      · rw [Bool.and_eq_true, decide_eq_true_eq]
        refine ⟨hl, (hT _ hasc hsub).2 ⟨m, hm.mem, fun y hy => ?_⟩⟩
        rcases List.mem_append.1 hy with h | h
        · exact (List.mem_filter.1 h).1
        · rw [List.mem_singleton] at h; subst h; exact him
    · rw [if_neg]
      · refine List.filter_congr fun y hy => ?_
        rw [Bool.eq_iff_iff, decide_eq_true_eq, decide_eq_true_eq, List.mem_append, List.mem_singleton]
        exact ⟨.inl, fun h => h.resolve_right fun e => him (e ▸ hy)⟩
      · rw [Bool.and_eq_true, decide_eq_true_eq, not_and]
        intro _ hf
        obtain ⟨M, hM, hMs⟩ := (hT _ hasc hsub).1 hf
        obtain ⟨q1, q2, _⟩ := hF M hM
        have := cmpL_witness q1 hma (by rw [q2, hmk]) (hMs i (by simp)) him fun y hy hyi => hMs y (List.mem_append_left _ (List.mem_filter.2 ⟨hy, by simpa using hback y (hmi y hy) hyi⟩))
        have h2 := hm.least M hM
        rw [cmpL_neg M m] at h2
        omega
/-! ### Ways along links -/
inductive Way (g : Graph) : Die → List Link → Die → Prop
  | nil (a : Die) : Way g a [] a
  | cons {a b c : Die} {x : Link} {p : List Link} : x ∈ g.links → acrO x a = some c → Way g c p b → Way g a (x :: p) b
section
variable {g : Graph} {a b c : Die} {p q : List Link} {x : Link} {f : Die → Int}
theorem Way.mem (h : Way g a p b) : ∀ x ∈ p, x ∈ g.links := by
  induction h with
  | nil => intro x hx; cases hx
  | cons hx _ _ ih =>
    intro y hy
    rcases List.mem_cons.1 hy with rfl | hy
    · exact hx
    · exact ih y hy
theorem acr_symm {x : Link} {a b : Die} (h : acrO x a = some b) : acrO x b = some a := by
  unfold acrO at h ⊢
  split at h
  · rename_i e; cases h; subst e; rw [if_neg (fun h => lA_ne x x h.symm), if_pos rfl]
  · split at h
    · rename_i e; cases h; subst e; rw [if_pos rfl]
    · cases h
theorem Way.snoc (h : Way g a p b) (hx : x ∈ g.links) (hc : acrO x b = some c) : Way g a (p ++ [x]) c := by
  induction h with
  | nil => exact .cons hx hc (.nil _)
  | cons h1 h2 _ ih => exact .cons h1 h2 (ih hc)
theorem Way.rev (h : Way g a p b) : Way g b p.reverse a := by
  induction h with
  | nil => exact .nil _
  | cons h1 h2 _ ih => rw [List.reverse_cons]; exact ih.snoc h1 (acr_symm h2)
theorem Way.append (h : Way g a p b) (k : Way g b q c) : Way g a (p ++ q) c := by
  induction h with
  | nil => exact k
  | cons h1 h2 _ ih => exact .cons h1 h2 (ih k)
theorem Way.con (h : Way g a p b) : Con (edgesG g) a b := by
  induction h with
  | nil => exact .refl _
  | cons h1 h2 _ ih => exact ((Con.refl _).nbr (acr_nbr.2 ⟨_, h1, h2⟩)).trans ih
theorem way_far (hf : FarAt g b f) : ∀ (n : Nat) (a : Die), f a = n → ∃ p, Way g a p b ∧ p.length = n
  | 0, a, h => ⟨[], by rw [hf.only a h]; exact .nil _, rfl⟩
  | n + 1, a, h => by
    obtain ⟨c, h1, h2⟩ := hf.pred a (by omega)
    obtain ⟨x, hx, hc⟩ := acr_nbr.1 h1
    obtain ⟨p, hp, hl⟩ := way_far hf n c (by omega)
    exact ⟨x :: p, .cons hx hc hp, by simp [hl]⟩
theorem Way.far (hf : FarAt g b f) (h : Way g a p b) : 0 ≤ f a ∧ f a ≤ p.length := by
  induction h with
  | nil => rw [hf.zero]; simp
  | @cons a b c x p h1 h2 _ ih =>
    obtain ⟨i1, i2⟩ := ih hf
    have := hf.clo c a (acr_nbr.2 ⟨x, h1, acr_symm h2⟩) i1
    simp only [List.length_cons]
    omega
/-- The numbers of the links of the shortest ways. -/
def ShortF (g : Graph) (a b : Die) (L : List Int) : Prop := ∃ p, Way g a p b ∧ (∀ q, Way g a q b → p.length ≤ q.length) ∧ L = isL (p.map Link.id)
theorem short_iff (hf : FarAt g b f) : ShortF g a b = fun L => ∃ p, Way g a p b ∧ (p.length : Int) = f a ∧ L = isL (p.map Link.id) := by
  funext L
  refine propext ⟨fun ⟨p, hp, hm, hL⟩ => ⟨p, hp, ?_, hL⟩, fun ⟨p, hp, hl, hL⟩ => ⟨p, hp, fun q hq => ?_, hL⟩⟩
  · have h1 := hp.far hf
    obtain ⟨q, hq, hl⟩ := way_far hf (f a).toNat a (by omega)
    have := hm q hq
    omega
  · have := hq.far hf; omega
theorem short_symm : ShortF g a b = ShortF g b a := by
  funext L
  have : ∀ {a b : Die}, ShortF g a b L → ShortF g b a L := fun {a b} ⟨p, hp, hm, hL⟩ =>
    ⟨p.reverse, hp.rev, fun q hq => by have := hm _ hq.rev; simpa using this, by rw [hL]; exact isL_of_perm (by rw [List.map_reverse]; exact (List.reverse_perm _).symm)⟩
  exact propext ⟨this, this⟩
end
theorem greedy_eq {F : List Int → Prop} {k : Nat} {T : List Int → Bool} {ids m : List Int} (hids : AscL ids) (hm : LeastIn F m) (hF : ∀ M, F M → AscL M ∧ M.length = k ∧ ∀ y ∈ M, y ∈ ids)
    (hT : ∀ R, AscL R → (∀ y ∈ R, y ∈ ids) → (T R = true ↔ ∃ M, F M ∧ ∀ y ∈ R, y ∈ M)) : greedyL k T ids = m := by
  have := greedy_least hids hm hF hT ids.length (Nat.le_refl _)
  rw [List.take_length] at this
  rw [greedyL, this, List.filter_eq_self]
  exact fun y hy => by simpa using (hF m hm.mem).2.2 y hy
/-! ### The search for the first of the shortest ways -/
def updB (P : List Int) : Option (List Int) → Option (List Int)
  | none => some (isL P)
  | some b => if cmpL (isL P) b < 0 then some (isL P) else some b
def dfsS (rec : Die → List Int → Option (List Int) → Option (List Int)) (f : Die → Int) (k : Nat) (at_ : Die) (P : List Int) (st : List Die × Option (List Int)) (x : Link) : List Die × Option (List Int) :=
  match acrO x at_ with
  | none => st
  | some d => if d ∈ st.1 ∨ f d ≠ k then st else (st.1 ++ [d], rec d (P ++ [x.id]) st.2)
def dfsF (g : Graph) (f : Die → Int) : Nat → Die → List Int → Option (List Int) → Option (List Int)
  | 0, _, P, b => updB P b
  | k + 1, at_, P, b => (g.links.foldl (dfsS (dfsF g f k) f k at_ P) ([], b)).2
/-- r comes of b by ways from a die. -/
structure DfsR (g : Graph) (t : Die) (k : Nat) (at_ : Die) (P : List Int) (b r : Option (List Int)) : Prop where
  src : r = b ∨ ∃ p, Way g at_ p t ∧ p.length = k ∧ r = some (isL (P ++ p.map Link.id))
  le : ∀ M, b = some M → ∃ R, r = some R ∧ cmpL R M ≤ 0
  all : ∀ q, Way g at_ q t → q.length = k → ∃ R, r = some R ∧ cmpL R (isL (P ++ q.map Link.id)) ≤ 0
structure DfsI (g : Graph) (f : Die → Int) (t : Die) (k : Nat) (at_ : Die) (P : List Int) (b : Option (List Int)) (ls : List Link) (tr : List Die) (r : Option (List Int)) : Prop where
  src : r = b ∨ ∃ p, Way g at_ p t ∧ p.length = k + 1 ∧ r = some (isL (P ++ p.map Link.id))
  le : ∀ M, b = some M → ∃ R, r = some R ∧ cmpL R M ≤ 0
  all : ∀ x ∈ ls, ∀ d, acrO x at_ = some d → f d = k → ∀ q, Way g d q t → q.length = k → ∃ R, r = some R ∧ cmpL R (isL (P ++ x.id :: q.map Link.id)) ≤ 0
  tried : ∀ d ∈ tr, ∃ x ∈ ls, acrO x at_ = some d
theorem updB_r (g : Graph) (t : Die) (P : List Int) (b : Option (List Int)) : DfsR g t 0 t P b (updB P b) := by
  have hs : ∀ q : List Link, q.length = 0 → isL (P ++ q.map Link.id) = isL P := fun q hq => by rw [List.length_eq_zero_iff.1 hq]; simp
  cases b with
  | none => exact ⟨.inr ⟨[], .nil _, rfl, by simp [updB]⟩, fun M h => (by cases h), fun q _ hq => ⟨_, rfl, by rw [hs q hq, cmpL_self]; omega⟩⟩
  | some b =>
    unfold updB
    by_cases h : cmpL (isL P) b < 0
    · simp only [if_pos h]
      exact ⟨.inr ⟨[], .nil _, rfl, by simp⟩, fun M hM => by cases hM; exact ⟨_, rfl, by omega⟩, fun q _ hq => ⟨_, rfl, by rw [hs q hq, cmpL_self]; omega⟩⟩
    · simp only [if_neg h]
      exact ⟨.inl rfl, fun M hM => by cases hM; exact ⟨_, rfl, by rw [cmpL_self]; omega⟩, fun q _ hq => ⟨_, rfl, by rw [hs q hq, cmpL_neg]; omega⟩⟩
theorem dfs_step {g : Graph} {f : Die → Int} {t : Die} {k : Nat} {at_ : Die} {P : List Int} {b r : Option (List Int)} {ls : List Link} {tr : List Die} {y : Link} {rec : Die → List Int → Option (List Int) → Option (List Int)}
    (hrec : ∀ d Q b, f d = k → DfsR g t k d Q b (rec d Q b)) (hy : y ∈ g.links) (hlt : ∀ x ∈ ls, x.id < y.id) (h : DfsI g f t k at_ P b ls tr r) :
    DfsI g f t k at_ P b (ls ++ [y]) (dfsS rec f k at_ P (tr, r) y).1 (dfsS rec f k at_ P (tr, r) y).2 := by
  have hmono : ∀ d ∈ tr, ∃ x ∈ ls ++ [y], acrO x at_ = some d := fun d hd => by
    obtain ⟨x, hx, h1⟩ := h.tried d hd
    exact ⟨x, List.mem_append_left _ hx, h1⟩
  unfold dfsS
  cases ha : acrO y at_ with
  | none =>
    refine ⟨h.src, h.le, fun x hx d h1 h2 q h3 h4 => ?_, hmono⟩
    rcases List.mem_append.1 hx with hx | hx
    · exact h.all x hx d h1 h2 q h3 h4
    · rw [List.mem_singleton] at hx; subst hx; rw [ha] at h1; cases h1
  | some d =>
    simp only
    by_cases hc : d ∈ tr ∨ f d ≠ k
    · rw [if_pos hc]
      refine ⟨h.src, h.le, fun x hx d' h1 h2 q h3 h4 => ?_, hmono⟩
      rcases List.mem_append.1 hx with hx | hx
      · exact h.all x hx d' h1 h2 q h3 h4
      · rw [List.mem_singleton] at hx; subst hx
        rw [ha] at h1; cases h1
        obtain ⟨z, hz, hza⟩ := h.tried d (hc.resolve_right fun hne => hne h2)
        obtain ⟨R, hR, hRl⟩ := h.all z hz d hza h2 q h3 h4
        have hzx := hlt z hz
        refine ⟨R, hR, cmpL_trans hRl ?_⟩
        have := (LeL.cons (show z.id ≤ x.id by omega) (LeL.refl [])).isL (P ++ q.map Link.id)
        have e1 := isL_of_perm (List.perm_middle (a := z.id) (l₁ := P) (l₂ := q.map Link.id)).symm
        have e2 := isL_of_perm (List.perm_middle (a := x.id) (l₁ := P) (l₂ := q.map Link.id)).symm
        rw [List.singleton_append, List.singleton_append] at this
        rwa [e1, e2] at this
    · rw [if_neg hc]
      simp only [not_or, Decidable.not_not] at hc
      have hr := hrec d (P ++ [y.id]) r hc.2
      simp only
      refine ⟨?_, fun M hM => ?_, fun x hx d' h1 h2 q h3 h4 => ?_, fun d' hd' => ?_⟩
      · rcases hr.src with e | ⟨p, p1, p2, p3⟩
        · rw [e]; exact h.src
        · exact .inr ⟨y :: p, .cons hy ha p1, by simp [p2], by rw [p3]; simp⟩
      · obtain ⟨R, hR, h5⟩ := h.le M hM
        obtain ⟨R', hR', h6⟩ := hr.le R hR
        exact ⟨R', hR', cmpL_trans h6 h5⟩
      · rcases List.mem_append.1 hx with hx | hx
        · obtain ⟨R, hR, h5⟩ := h.all x hx d' h1 h2 q h3 h4
          obtain ⟨R', hR', h6⟩ := hr.le R hR
          exact ⟨R', hR', cmpL_trans h6 h5⟩
        · rw [List.mem_singleton] at hx; subst hx
          rw [ha] at h1; cases h1
          obtain ⟨R, hR, h5⟩ := hr.all q h3 h4
          exact ⟨R, hR, by simpa using h5⟩
      · rcases List.mem_append.1 hd' with hd' | hd'
        · exact hmono d' hd'
        · rw [List.mem_singleton] at hd'; subst hd'
          exact ⟨y, by simp, ha⟩
/-- What the search gives. -/
theorem dfs_all {g : Graph} {f : Die → Int} {t : Die} (hf : FarAt g t f) (hasc : g.links.Pairwise fun x y => x.id < y.id) : ∀ (k : Nat) (at_ : Die) (P : List Int) (b : Option (List Int)), f at_ = k → DfsR g t k at_ P b (dfsF g f k at_ P b)
  | 0, at_, P, b, h => by rw [hf.only at_ h]; exact updB_r g t P b
  | k + 1, at_, P, b, h => by
    have key : ∀ j, j ≤ g.links.length → DfsI g f t k at_ P b (g.links.take j) ((g.links.take j).foldl (dfsS (dfsF g f k) f k at_ P) ([], b)).1 ((g.links.take j).foldl (dfsS (dfsF g f k) f k at_ P) ([], b)).2 := by
      intro j
      induction j with
      | zero => intro _; exact ⟨.inl rfl, fun M hM => ⟨M, hM, by rw [cmpL_self]; omega⟩, fun x hx => by simp at hx, fun d hd => by simp at hd⟩
      | succ j ih =>
        intro hj
        obtain ⟨y, hy⟩ := get_of_lt (show j < g.links.length by omega)
        have hts := take_snoc' hy
        have hps : (g.links.take j ++ [y]).Pairwise fun x y => x.id < y.id := by rw [← hts]; exact hasc.sublist (List.take_sublist _ _)
        rw [hts, List.foldl_append]
        exact dfs_step (fun d Q b hd => dfs_all hf hasc k d Q b hd) (List.mem_of_getElem? hy) (fun x hx => (List.pairwise_append.1 hps).2.2 x hx y (by simp)) (ih (by omega))
    have hfin := key g.links.length (Nat.le_refl _)
    rw [List.take_length] at hfin
    refine ⟨hfin.src, hfin.le, fun q hq hl => ?_⟩
    cases hq with
    | nil => simp at hl
    | @cons _ _ d x p h1 h2 h3 =>
      have hp := h3.far hf
      have hd := hf.clo d at_ (acr_nbr.2 ⟨x, h1, acr_symm h2⟩) hp.1
      simp only [List.length_cons] at hl
      have hpl : p.length = k := by omega
      have hfd : f d = k := by omega
      exact hfin.all x h1 d h2 hfd p h3 hpl
/-- The least of the shortest ways. -/
theorem dfs_least {g : Graph} {f : Die → Int} {a t : Die} (hf : FarAt g t f) (hasc : g.links.Pairwise fun x y => x.id < y.id) (h0 : 0 ≤ f a) : ∃ L, dfsF g f (f a).toNat a [] none = some L ∧ LeastIn (ShortF g a t) L := by
  have hr := dfs_all hf hasc (f a).toNat a [] none (by omega)
  obtain ⟨q, hq, hl⟩ := way_far hf (f a).toNat a (by omega)
  obtain ⟨R, hR, _⟩ := hr.all q hq hl
  refine ⟨R, hR, ?_⟩
  rw [short_iff hf]
  refine ⟨?_, fun M ⟨p, p1, p2, p3⟩ => ?_⟩
  · rcases hr.src with e | ⟨p, p1, p2, p3⟩
    · rw [e] at hR; cases hR
    · rw [hR] at p3; cases p3
      exact ⟨p, p1, by omega, by simp⟩
  · obtain ⟨R', hR', h2⟩ := hr.all p p1 (by omega)
    rw [hR] at hR'; cases hR'
    rw [p3]; simpa using h2
/-! ### A search breadth first gives the numbers of links -/
structure BfsD (g : Graph) (s : Die) (m : List (Die × Int)) (Q : List Die) (n : Int) : Prop where
  base : Bfs g s m Q
  zero : (s, 0) ∈ m
  only : ∀ d, (d, (0 : Int)) ∈ m → d = s
  pos : ∀ p ∈ m, 0 ≤ p.2
  pred : ∀ d k, (d, k) ∈ m → 0 < k → ∃ e, Nbr (edgesG g) d e ∧ (e, k - 1) ∈ m
  que : ∀ d k, (d, k) ∈ m → d ∈ Q → n ≤ k ∧ k ≤ n + 1
  asc : Q.Pairwise fun d e => ∀ j k, (d, j) ∈ m → (e, k) ∈ m → j ≤ k
  old : ∀ d k, (d, k) ∈ m → d ∉ Q → k ≤ n
  clo : ∀ d k, (d, k) ∈ m → d ∉ Q → ∀ e j, Nbr (edgesG g) d e → (e, j) ∈ m → j ≤ k + 1
section
variable {g : Graph} {s d e d0 : Die} {m : List (Die × Int)} {Q : List Die} {n : Int}
theorem mem_keys {m : List (Die × Int)} {d : Die} {k : Int} (h : (d, k) ∈ m) : d ∈ m.map Prod.fst := List.mem_map.2 ⟨_, h, rfl⟩
theorem key_val {m : List (Die × Int)} (hd : (m.map Prod.fst).Nodup) {d : Die} {j k : Int} (h : (d, j) ∈ m) (h' : (d, k) ∈ m) : j = k := by
  have h1 := (lookM_mem hd).2 h
  have h2 := (lookM_mem hd).2 h'
  rw [h1] at h2
  exact Option.some.inj h2
theorem bfsD_start (g : Graph) (s : Die) : BfsD g s [(s, 0)] [s] 0 where
  base := bfs_start g s
  zero := (by simp)
  only d hd := by simpa using hd
  pos p hp := by simp at hp; subst hp; simp
  pred d k hd hk := by simp at hd; omega
  que d k hd _ := by simp at hd; omega
  asc := List.pairwise_singleton _ _
  old d k hd hn := by simp at hd; omega
  clo d k hd hn := by simp at hd hn; exact absurd hd.1 hn
theorem BfsD.add (h : BfsD g s m (d0 :: Q) n) (h0 : (d0, n) ∈ m) {x : Link} (hx : x ∈ g.links) (ha : acrO x d0 = some e) (hn : e ∉ m.map Prod.fst) : BfsD g s (m ++ [(e, n + 1)]) (d0 :: (Q ++ [e])) n := by
  have hr := h.base.rng _ h0
  have hp := h.pos _ h0
  simp only at hr hp
  have hcase : ∀ d k, (d, k) ∈ m ++ [(e, n + 1)] → (d, k) ∈ m ∨ (d = e ∧ k = n + 1) := fun d k hd => by
    rcases List.mem_append.1 hd with h1 | h1
    · exact .inl h1
    · simp at h1; exact .inr h1
  have hne : ∀ d k, (d, k) ∈ m → d ≠ e := fun d k hd e1 => hn (e1 ▸ mem_keys hd)
  refine ⟨by simpa using h.base.add (mem_keys h0) hx ha hn (n := n + 1) (by omega), List.mem_append_left _ h.zero, fun d hd => ?_, fun p hp => ?_, fun d k hd hk => ?_, fun d k hd hq => ?_, ?_, fun d k hd hq => ?_, fun d k hd hq e' j hN hj => ?_⟩
  · rcases hcase d 0 hd with h1 | ⟨_, h1⟩
    · exact h.only d h1
    · omega
  · rcases hcase p.1 p.2 hp with h1 | ⟨_, h1⟩
    · exact h.pos _ h1
    · omega
  · rcases hcase d k hd with h1 | ⟨h1, h2⟩
    · obtain ⟨y, y1, y2⟩ := h.pred d k h1 hk
      exact ⟨y, y1, List.mem_append_left _ y2⟩
    · subst h1; subst h2
      exact ⟨d0, (acr_nbr.2 ⟨x, hx, ha⟩).symm, List.mem_append_left _ (by rw [Int.add_sub_cancel]; exact h0)⟩
  · rcases hcase d k hd with h1 | ⟨_, h2⟩
    · refine h.que d k h1 ?_
      have := hne d k h1
      simpa [this] using hq
    · omega
  · rw [← List.cons_append, List.pairwise_append]
    refine ⟨h.asc.imp_of_mem fun {a b} ha hb hab j k hj hk => ?_, List.pairwise_singleton _ _, fun a hma b hb j k hj hk => ?_⟩
    · rcases hcase a j hj with h1 | ⟨h1, _⟩
      · rcases hcase b k hk with h2 | ⟨h2, _⟩
        · exact hab j k h1 h2
        · exact absurd (h.base.que b hb) (h2 ▸ hn)
      · exact absurd (h.base.que a ha) (h1 ▸ hn)
    · rw [List.mem_singleton] at hb; subst hb
      have hkn : k = n + 1 := by
        rcases hcase b k hk with h1 | ⟨_, h1⟩
        · exact absurd (mem_keys h1) hn
        · exact h1
      rcases hcase a j hj with h1 | ⟨_, h1⟩
      · have := h.que a j h1 hma; omega
      · omega
  · rcases hcase d k hd with h1 | ⟨h1, _⟩
    · refine h.old d k h1 fun hm => hq ?_
      rcases List.mem_cons.1 hm with h2 | h2
      · exact List.mem_cons.2 (.inl h2)
      · exact List.mem_cons_of_mem _ (List.mem_append_left _ h2)
    · exact absurd (List.mem_cons_of_mem _ (List.mem_append_right _ (by simp [h1]))) hq
  · have hdQ : d ∉ d0 :: Q := fun hm => hq (by
      rcases List.mem_cons.1 hm with h2 | h2
      · exact List.mem_cons.2 (.inl h2)
      · exact List.mem_cons_of_mem _ (List.mem_append_left _ h2))
    rcases hcase d k hd with h1 | ⟨h1, _⟩
    · rcases hcase e' j hj with h2 | ⟨h2, _⟩
      · exact h.clo d k h1 hdQ e' j hN h2
      · exact absurd (h.base.clo d (mem_keys h1) hdQ e' hN) (h2 ▸ hn)
    · exact absurd (List.mem_cons_of_mem _ (List.mem_append_right _ (by simp [h1]))) hq
theorem BfsD.pop (h : BfsD g s m (d0 :: Q) n) (h0 : (d0, n) ∈ m) (hd : ∀ x ∈ g.links, ∀ e, acrO x d0 = some e → e ∈ m.map Prod.fst) : ∃ n', BfsD g s m Q n' ∧ ∀ d1 Q', Q = d1 :: Q' → (d1, n') ∈ m := by
  have hb := h.base.pop hd
  have hle : ∀ e j, (e, j) ∈ m → j ≤ n + 1 := fun e j hj => by
    by_cases he : e ∈ d0 :: Q
    · exact (h.que e j hj he).2
    · have := h.old e j hj he; omega
  have hclo : ∀ d k, (d, k) ∈ m → d ∉ Q → ∀ e j, Nbr (edgesG g) d e → (e, j) ∈ m → j ≤ k + 1 := fun d k hk hq e j hN hj => by
    by_cases e1 : d = d0
    · subst e1
      rw [key_val h.base.nod hk h0]; exact hle e j hj
    · exact h.clo d k hk (by rw [List.mem_cons, not_or]; exact ⟨e1, hq⟩) e j hN hj
  cases Q with
  | nil =>
    refine ⟨n, ⟨hb, h.zero, h.only, h.pos, h.pred, fun d k _ hq => (by cases hq), List.Pairwise.nil, fun d k hk hq => ?_, hclo⟩, fun d1 Q' e => by cases e⟩
    by_cases e1 : d = d0
    · subst e1; rw [key_val h.base.nod hk h0]; omega
    · exact h.old d k hk (by rw [List.mem_cons, not_or]; exact ⟨e1, by simp⟩)
  | cons d1 Q' =>
    obtain ⟨p, hp, hpe⟩ := List.mem_map.1 (hb.que d1 (List.mem_cons_self ..))
    obtain ⟨x1, n1⟩ := p
    simp only at hpe
    subst hpe
    have hq1 := h.que x1 n1 hp (by simp)
    have hasc := (List.pairwise_cons.1 h.asc).2
    refine ⟨n1, ⟨hb, h.zero, h.only, h.pos, h.pred, fun d k hk hq => ?_, hasc, fun d k hk hq => ?_, hclo⟩, fun d1 Q'' e => by cases e; exact hp⟩
    · have := hle d k hk
      refine ⟨?_, by omega⟩
      rcases List.mem_cons.1 hq with e1 | e1
      · subst e1; rw [key_val h.base.nod hk hp]; omega
      · exact (List.pairwise_cons.1 hasc).1 d e1 n1 k hp hk
    · by_cases e1 : d = d0
      · subst e1; rw [key_val h.base.nod hk h0]; omega
      · have := h.old d k hk (by rw [List.mem_cons, not_or]; exact ⟨e1, hq⟩)
        omega
/-- What the search has found. -/
def farM (m : List (Die × Int)) (d : Die) : Int := (lookM m d).getD (-1)
theorem BfsD.far (h : BfsD g s m [] n) : FarAt g s (farM m) := by
  have hl : ∀ d k, lookM m d = some k ↔ (d, k) ∈ m := fun d k => lookM_mem h.base.nod
  have hs : ∀ d, (farM m d = -1 ∧ lookM m d = none) ∨ ∃ k, farM m d = k ∧ (d, k) ∈ m ∧ 0 ≤ k := fun d => by
    unfold farM
    cases hd : lookM m d with
    | none => exact .inl ⟨rfl, rfl⟩
    | some k => exact .inr ⟨k, rfl, (hl d k).1 hd, h.pos _ ((hl d k).1 hd)⟩
  have hv : ∀ d k, (d, k) ∈ m → farM m d = k := fun d k hd => by rw [farM, (hl d k).2 hd]; rfl
  refine ⟨fun d => ?_, hv s 0 h.zero, fun d hd => ?_, fun d hd => ?_, fun d e hN h0 => ?_⟩
  · rcases hs d with h1 | ⟨k, h1, _, h2⟩ <;> omega
  · rcases hs d with h1 | ⟨k, h1, h3, h2⟩
    · omega
    · exact h.only d (by rw [← hd, h1]; exact h3)
  · rcases hs d with h1 | ⟨k, h1, h3, h2⟩
    · omega
    · obtain ⟨e, e1, e2⟩ := h.pred d k h3 (by omega)
      exact ⟨e, e1, by rw [hv e _ e2]; omega⟩
  · rcases hs d with h1 | ⟨k, h1, h3, h2⟩
    · omega
    · obtain ⟨p, hp, rfl⟩ := List.mem_map.1 (h.base.clo d (mem_keys h3) (by simp) e hN)
      have := h.clo d k h3 (by simp) p.1 p.2 hN hp
      have := h.pos p hp
      rw [hv p.1 p.2 hp]
      omega
end
end Go.Proofs.YtikfffojeakjoaaGreatDoor
/- What reference 51 calls feasible: plain. No program in sight, no condition. -/
namespace Go.Proofs.YtikfffojeakjoaaGreatDoor
open Go.RowKit

/-- A link leads from step i to step i + 1. -/
def layF (F : Die → Int) (x : Link) (i : Nat) : Bool := (decide (F (lA x) = i) && decide (F (lB x) = i + 1)) || (decide (F (lB x) = i) && decide (F (lA x) = i + 1))
def mustF (ls : List Link) (F : Die → Int) (R : List Int) (i : Nat) : Nat := (ls.filter fun x => layF F x i && hasB R x.id).length
def usedF (ls : List Link) (F : Die → Int) (R : List Int) : Nat → Nat
  | 0 => 0
  | i + 1 => usedF ls F R i + mustF ls F R i
def stepN (F : Die → Int) (R : List Int) (i m : Nat) (N : Die → Bool) (x : Link) (d : Die) : Bool :=
  (decide (m = 0) || hasB R x.id) && ((decide (F (lA x) = i) && decide (F (lB x) = i + 1) && N (lA x) && decide (lB x = d)) || (decide (F (lB x) = i) && decide (F (lA x) = i + 1) && N (lB x) && decide (lA x = d)))
def nowF (ls : List Link) (F : Die → Int) (R : List Int) : Nat → Die → Bool
  | 0, d => decide (F d = 0)
  | i + 1, d => ls.any fun x => stepN F R i (mustF ls F R i) (nowF ls F R i) x d
def feasF (ls : List Link) (F : Die → Int) (b : Die) (k : Nat) (R : List Int) : Bool := (List.range k).all (fun i => decide (mustF ls F R i ≤ 1)) && decide (usedF ls F R k = R.length) && nowF ls F R k b
section
variable {g : Graph} {a b c d : Die} {f F : Die → Int} {R : List Int} {p q : List Link} {x : Link} {k : Nat} {ls : List Link}
theorem lay_iff {i : Nat} : layF F x i = true ↔ (F (lA x) = i ∧ F (lB x) = i + 1) ∨ (F (lB x) = i ∧ F (lA x) = i + 1) := by
  simp [layF]
theorem lay_uniq {i j : Nat} (h : layF F x i = true) (k : layF F x j = true) : i = j := by
  rw [lay_iff] at h k
  omega
theorem filter_or {α : Type} (P Q : α → Bool) (l : List α) (h : ∀ x ∈ l, ¬ (P x = true ∧ Q x = true)) : (l.filter fun x => P x || Q x).length = (l.filter P).length + (l.filter Q).length := by
  induction l with
  | nil => rfl
  | cons y l ih =>
    have ih := ih fun x hx => h x (List.mem_cons_of_mem _ hx)
    have hy := h y (by simp)
    rw [List.filter_cons, List.filter_cons, List.filter_cons]
    cases hp : P y <;> cases hq : Q y
    · simpa using ih
    · simp [ih]; omega
    · simp [ih]; omega
    · exact absurd ⟨hp, hq⟩ hy
theorem used_len (ls : List Link) (F : Die → Int) (R : List Int) : ∀ k, usedF ls F R k = (ls.filter fun x => (List.range k).any (layF F x) && hasB R x.id).length
  | 0 => by rw [usedF, List.filter_eq_nil_iff.2 (by simp)]; rfl
  | k + 1 => by
    have hz : ∀ x ∈ ls, ¬ (((List.range k).any (layF F x) && hasB R x.id) = true ∧ (layF F x k && hasB R x.id) = true) := fun x _ ⟨h1, h2⟩ => by
      rw [Bool.and_eq_true, List.any_eq_true] at h1
      rw [Bool.and_eq_true] at h2
      obtain ⟨⟨i, hi, h3⟩, _⟩ := h1
      have := lay_uniq h3 h2.1
      have := List.mem_range.1 hi
      omega
    rw [usedF, used_len ls F R k, mustF, ← filter_or _ _ _ hz]
    congr 1
    refine List.filter_congr fun x _ => ?_
    rw [List.range_succ, List.any_append]
    simp only [List.any_cons, List.any_nil, Bool.or_false]
    rw [Bool.and_or_distrib_right]
theorem req_len (hid : (ls.map Link.id).Nodup) (hR : R.Nodup) (hsub : ∀ y ∈ R, y ∈ ls.map Link.id) : (ls.filter fun x => hasB R x.id).length = R.length := by
  have h1 : ((ls.filter fun x => hasB R x.id).map Link.id).Nodup := hid.sublist (List.filter_sublist.map _)
  have : ((ls.filter fun x => hasB R x.id).map Link.id).Perm R := (List.perm_ext_iff_of_nodup h1 hR).2 fun y => by
    rw [List.mem_map]
    constructor
    · rintro ⟨x, hx, rfl⟩
      exact (hasB_iff _ _).1 (List.mem_filter.1 hx).2
    · intro hy
      obtain ⟨x, hx, rfl⟩ := List.mem_map.1 (hsub y hy)
      exact ⟨x, List.mem_filter.2 ⟨hx, (hasB_iff _ _).2 hy⟩, rfl⟩
  simpa using this.length_eq
theorem nodup_of_map {α β : Type} {h : α → β} : ∀ {l : List α}, (l.map h).Nodup → l.Nodup
  | [], _ => List.nodup_nil
  | x :: l, hn => by
    rw [List.map_cons, List.nodup_cons] at hn
    exact List.nodup_cons.2 ⟨fun hx => hn.1 (List.mem_map_of_mem (f := h) hx), nodup_of_map hn.2⟩
theorem id_link (hid : (ls.map Link.id).Nodup) {x y : Link} (hx : x ∈ ls) (hy : y ∈ ls) (e : x.id = y.id) : x = y := by
  obtain ⟨i, hi, rfl⟩ := List.getElem_of_mem hx
  obtain ⟨j, hj, rfl⟩ := List.getElem_of_mem hy
  have := (List.getElem_inj (xs := ls.map Link.id) (h₀ := by simpa using hi) (h₁ := by simpa using hj) hid).1 (by simpa using e)
  subst this; rfl
/-- Step by step away from a die. -/
inductive Up (g : Graph) (F : Die → Int) : List Link → Nat → Die → Prop
  | nil {a : Die} : F a = 0 → Up g F [] 0 a
  | snoc {p : List Link} {i : Nat} {b c : Die} {x : Link} : Up g F p i b → x ∈ g.links → acrO x b = some c → F b = i → F c = i + 1 → Up g F (p ++ [x]) (i + 1) c
theorem Up.len (h : Up g F p k b) : p.length = k := by
  induction h with
  | nil => rfl
  | snoc _ _ _ _ _ ih => simp [ih]
theorem Up.mem (h : Up g F p k b) : ∀ x ∈ p, x ∈ g.links ∧ ∃ i, i < k ∧ layF F x i = true := by
  induction h with
  | nil => intro x hx; cases hx
  | @snoc p i b c y _ hy ha h1 h2 ih =>
    intro x hx
    rcases List.mem_append.1 hx with hx | hx
    · obtain ⟨q1, j, q2, q3⟩ := ih x hx
      exact ⟨q1, j, by omega, q3⟩
    · rw [List.mem_singleton] at hx; subst hx
      refine ⟨hy, i, by omega, lay_iff.2 ?_⟩
      unfold acrO at ha
      split at ha
      · rename_i e; cases ha; subst e; exact .inl ⟨h1, h2⟩
      · split at ha
        · rename_i e; cases ha; subst e; exact .inr ⟨h1, h2⟩
        · cases ha
theorem Up.at (h : Up g F p k b) : ∀ i, i < k → ∃ x ∈ p, layF F x i = true := by
  induction h with
  | nil => intro i hi; omega
  | @snoc p i b c y hp hy ha h1 h2 ih =>
    intro j hj
    by_cases e : j = i
    · subst e
      obtain ⟨_, n, hn, hl⟩ := (Up.snoc hp hy ha h1 h2).mem y (by simp)
      refine ⟨y, by simp, ?_⟩
      have hc : layF F y j = true := by
        refine lay_iff.2 ?_
        unfold acrO at ha
        split at ha
        · rename_i e; cases ha; subst e; exact .inl ⟨h1, h2⟩
        · split at ha
          · rename_i e; cases ha; subst e; exact .inr ⟨h1, h2⟩
          · cases ha
      exact hc
    · obtain ⟨x, hx, hl⟩ := ih j (by omega)
      exact ⟨x, List.mem_append_left _ hx, hl⟩
theorem Up.uniq (h : Up g F p k b) {x y : Link} (hx : x ∈ p) (hy : y ∈ p) {i : Nat} (h1 : layF F x i = true) (h2 : layF F y i = true) : x = y := by
  revert hx hy
  induction h with
  | nil => intro hx; cases hx
  | @snoc p n b c z hp hz ha q1 q2 ih =>
    intro hx hy
    have hzl : layF F z n = true := by
      refine lay_iff.2 ?_
      unfold acrO at ha
      split at ha
      · rename_i e; cases ha; subst e; exact .inl ⟨q1, q2⟩
      · split at ha
        · rename_i e; cases ha; subst e; exact .inr ⟨q1, q2⟩
        · cases ha
    rcases List.mem_append.1 hx with kx | kx <;> rcases List.mem_append.1 hy with ky | ky
    · exact ih kx ky
    · rw [List.mem_singleton] at ky; subst ky
      obtain ⟨_, j, j1, j2⟩ := hp.mem x kx
      have := lay_uniq h1 j2; have := lay_uniq h2 hzl
      omega
    · rw [List.mem_singleton] at kx; subst kx
      obtain ⟨_, j, j1, j2⟩ := hp.mem y ky
      have := lay_uniq h2 j2; have := lay_uniq h1 hzl
      omega
    · rw [List.mem_singleton] at kx ky; rw [kx, ky]
theorem acr_ends {x : Link} {b c : Die} : acrO x b = some c ↔ (b = lA x ∧ c = lB x) ∨ (b = lB x ∧ c = lA x) := by
  unfold acrO
  constructor
  · intro h
    split at h
    · rename_i e; cases h; exact .inl ⟨e, rfl⟩
    · split at h
      · rename_i e; cases h; exact .inr ⟨e, rfl⟩
      · cases h
  · rintro (⟨rfl, rfl⟩ | ⟨rfl, rfl⟩)
    · rw [if_pos rfl]
    · rw [if_neg (fun h => lA_ne x x h.symm), if_pos rfl]
theorem step_iff {i m : Nat} {N : Die → Bool} : stepN F R i m N x d = true ↔ (m = 0 ∨ x.id ∈ R) ∧ ∃ e, acrO x e = some d ∧ F e = i ∧ F d = i + 1 ∧ N e = true := by
  simp only [stepN, Bool.and_eq_true, Bool.or_eq_true, decide_eq_true_eq, hasB_iff, acr_ends]
  refine and_congr_right fun _ => ?_
  constructor
  · rintro (⟨⟨⟨h1, h2⟩, h3⟩, rfl⟩ | ⟨⟨⟨h1, h2⟩, h3⟩, rfl⟩)
    · exact ⟨_, .inl ⟨rfl, rfl⟩, h1, h2, h3⟩
    · exact ⟨_, .inr ⟨rfl, rfl⟩, h1, h2, h3⟩
  · rintro ⟨e, (⟨rfl, rfl⟩ | ⟨rfl, rfl⟩), h1, h2, h3⟩
    · exact .inl ⟨⟨⟨h1, h2⟩, h3⟩, rfl⟩
    · exact .inr ⟨⟨⟨h1, h2⟩, h3⟩, rfl⟩
theorem now_up (g : Graph) (F : Die → Int) (R : List Int) : ∀ (k : Nat) (d : Die), nowF g.links F R k d = true ↔ ∃ p, Up g F p k d ∧ ∀ x ∈ p, ∀ i, layF F x i = true → mustF g.links F R i = 0 ∨ x.id ∈ R
  | 0, d => by
    rw [nowF, decide_eq_true_eq]
    exact ⟨fun h => ⟨[], .nil h, fun x hx => by cases hx⟩, fun ⟨p, hp, _⟩ => by cases hp; assumption⟩
  | k + 1, d => by
    rw [nowF, List.any_eq_true]
    constructor
    · rintro ⟨x, hx, h⟩
      obtain ⟨h1, e, h2, h3, h4, h5⟩ := step_iff.1 h
      obtain ⟨p, hp, hr⟩ := (now_up g F R k e).1 h5
      have hu := Up.snoc hp hx h2 h3 h4
      refine ⟨p ++ [x], hu, fun y hy i hi => ?_⟩
      rcases List.mem_append.1 hy with hy | hy
      · exact hr y hy i hi
      · rw [List.mem_singleton] at hy; subst hy
        have : layF F y k = true := by
          rcases acr_ends.1 h2 with ⟨rfl, rfl⟩ | ⟨rfl, rfl⟩
          · exact lay_iff.2 (.inl ⟨h3, h4⟩)
          · exact lay_iff.2 (.inr ⟨h3, h4⟩)
        rw [lay_uniq hi this]; exact h1
    · rintro ⟨p, hp, hr⟩
      cases hp with
      | @snoc p i b c x hp hx ha h1 h2 =>
        have hl : layF F x k = true := by
          rcases acr_ends.1 ha with ⟨rfl, rfl⟩ | ⟨rfl, rfl⟩
          · exact lay_iff.2 (.inl ⟨h1, h2⟩)
          · exact lay_iff.2 (.inr ⟨h1, h2⟩)
        exact ⟨x, hx, step_iff.2 ⟨hr x (by simp) k hl, _, ha, h1, h2, (now_up g F R k _).2 ⟨p, hp, fun y hy i hi => hr y (List.mem_append_left _ hy) i hi⟩⟩⟩
/-- A list is feasible just if some steps have all its links. -/
theorem feas_up (hid : (g.links.map Link.id).Nodup) (hR : R.Nodup) (hsub : ∀ y ∈ R, y ∈ g.links.map Link.id) : feasF g.links F b k R = true ↔ ∃ p, Up g F p k b ∧ ∀ y ∈ R, y ∈ p.map Link.id := by
  have hrl := req_len hid hR hsub
  have huse := used_len g.links F R k
  unfold feasF
  rw [Bool.and_eq_true, Bool.and_eq_true, List.all_eq_true, decide_eq_true_eq]
  have hfil : usedF g.links F R k = R.length ↔ ∀ x ∈ g.links, x.id ∈ R → ∃ i, i < k ∧ layF F x i = true := by
    rw [huse, ← hrl]
    have hfe : (g.links.filter fun x => (List.range k).any (layF F x) && hasB R x.id) = ((g.links.filter fun x => hasB R x.id).filter fun x => (List.range k).any (layF F x)) := by rw [List.filter_filter]
    rw [hfe]
    rw [List.length_filter_eq_length_iff]
    refine ⟨fun h x hx hr => ?_, fun h x hx => ?_⟩
    · have := h x (List.mem_filter.2 ⟨hx, (hasB_iff _ _).2 hr⟩)
      rw [List.any_eq_true] at this
      obtain ⟨i, hi, hl⟩ := this
      exact ⟨i, List.mem_range.1 hi, hl⟩
    · obtain ⟨h1, h2⟩ := List.mem_filter.1 hx
      obtain ⟨i, hi, hl⟩ := h x h1 ((hasB_iff _ _).1 h2)
      exact List.any_eq_true.2 ⟨i, List.mem_range.2 hi, hl⟩
  rw [hfil, now_up]
  constructor
  · rintro ⟨⟨h1, h2⟩, p, hp, hr⟩
    refine ⟨p, hp, fun y hy => ?_⟩
    obtain ⟨x, hx, rfl⟩ := List.mem_map.1 (hsub y hy)
    obtain ⟨i, hi, hl⟩ := h2 x hx hy
    obtain ⟨z, hz, hzl⟩ := hp.at i hi
    have hm1 : mustF g.links F R i ≤ 1 := by simpa using h1 i (List.mem_range.2 hi)
    have hxm : x ∈ g.links.filter fun x => layF F x i && hasB R x.id := List.mem_filter.2 ⟨hx, by rw [hl, (hasB_iff _ _).2 hy]; rfl⟩
    have hm0 : mustF g.links F R i ≠ 0 := fun e => by
      have := List.length_eq_zero_iff.1 e
      rw [this] at hxm; cases hxm
    have hzR := (hr z hz i hzl).resolve_left hm0
    have hzm : z ∈ g.links.filter fun x => layF F x i && hasB R x.id := List.mem_filter.2 ⟨(hp.mem z hz).1, by rw [hzl, (hasB_iff _ _).2 hzR]; rfl⟩
    have hm1' : (g.links.filter fun x => layF F x i && hasB R x.id).length ≤ 1 := hm1
    have : x = z := by
      match hL : g.links.filter fun x => layF F x i && hasB R x.id, hm1' with
      | [], _ => rw [hL] at hxm; cases hxm
      | [u], _ =>
        rw [hL, List.mem_singleton] at hxm hzm
        rw [hxm, hzm]
      | u :: v :: r, h => rw [hL] at hm1'; simp at hm1'
    rw [this]
    exact List.mem_map_of_mem (f := Link.id) hz
  · rintro ⟨p, hp, hs⟩
    have hin : ∀ x ∈ g.links, x.id ∈ R → x ∈ p := fun x hx hr => by
      obtain ⟨z, hz, e⟩ := List.mem_map.1 (hs _ hr)
      rw [← id_link hid (hp.mem z hz).1 hx e]; exact hz
    have hone : ∀ i, mustF g.links F R i ≤ 1 := fun i => by
      have hnd : (g.links.filter fun x => layF F x i && hasB R x.id).Nodup := (nodup_of_map hid).sublist List.filter_sublist
      unfold mustF
      match hL : g.links.filter fun x => layF F x i && hasB R x.id with
      | [] => simp
      | [u] => simp
      | u :: v :: r =>
        exfalso
        have hu : u ∈ g.links.filter fun x => layF F x i && hasB R x.id := by rw [hL]; simp
        have hv : v ∈ g.links.filter fun x => layF F x i && hasB R x.id := by rw [hL]; simp
        obtain ⟨u1, u2⟩ := List.mem_filter.1 hu
        obtain ⟨v1, v2⟩ := List.mem_filter.1 hv
        rw [Bool.and_eq_true, hasB_iff] at u2 v2
        have := hp.uniq (hin u u1 u2.2) (hin v v1 v2.2) u2.1 v2.1
        rw [hL, this] at hnd
        simp at hnd
    refine ⟨⟨fun i _ => by simpa using hone i, fun x hx hr => (hp.mem x (hin x hx hr)).2⟩, p, hp, fun x hx i hi => ?_⟩
    by_cases h0 : mustF g.links F R i = 0
    · exact .inl h0
    · right
      obtain ⟨z, hz⟩ := List.exists_mem_of_length_pos (Nat.pos_of_ne_zero h0)
      obtain ⟨z1, z2⟩ := List.mem_filter.1 hz
      rw [Bool.and_eq_true, hasB_iff] at z2
      rw [hp.uniq hx (hin z z1 z2.2) hi z2.1]; exact z2.2
/-- Steps away from a die are shortest ways. -/
theorem up_way (hf : FarAt g a f) (hF : ∀ d (i : Nat), i ≤ k → (F d = i ↔ f d = i)) : ∀ {p : List Link} {j : Nat} {b : Die}, j ≤ k → (Up g F p j b ↔ Way g a p b ∧ p.length = j ∧ f b = j) := by
  intro p j b hj
  constructor
  · intro h
    induction h with
    | @nil c h0 =>
      have h1 := (hF c 0 (by omega)).1 (by simpa using h0)
      have h2 := hf.only c (by simpa using h1)
      subst h2
      exact ⟨.nil _, rfl, by rw [hf.zero]; rfl⟩
    | @snoc p i b c x hp hx ha h1 h2 ih =>
      obtain ⟨q1, q2, q3⟩ := ih (by omega)
      exact ⟨q1.snoc hx ha, by simp [q2], (hF c (i + 1) hj).1 (by rw [h2]; simp)⟩
  · rintro ⟨hw, hl, hfb⟩
    have key : ∀ (n : Nat) (p : List Link) (b : Die), n ≤ k → Way g a p b → p.length = n → f b = n → Up g F p n b := by
      intro n
      induction n with
      | zero =>
        intro p b _ hw hl hfb
        rw [List.length_eq_zero_iff.1 hl]
        exact .nil (by simpa using (hF b 0 (by omega)).2 (by simpa using hfb))
      | succ n ih =>
        intro p b hn hw hl hfb
        have hr := hw.rev
        obtain ⟨x, r, e⟩ : ∃ x r, p.reverse = x :: r := by
          match hp : p.reverse with
          | [] =>
            have h9 : p.reverse.length = 0 := by rw [hp]; rfl
            rw [List.length_reverse] at h9; omega
          | x :: r => exact ⟨x, r, rfl⟩
        rw [e] at hr
        cases hr with
        | @cons _ _ c _ _ h1 h2 h3 =>
          have hp : p = r.reverse ++ [x] := by rw [← List.reverse_reverse p, e]; simp
          have hc := h3.rev
          have hcl : r.reverse.length = n := by rw [hp] at hl; simpa using hl
          have hrl : r.length = n := by rw [List.length_reverse] at hcl; exact hcl
          have hfc1 := h3.far hf
          have hfc2 := hf.clo c b (acr_nbr.2 ⟨x, h1, acr_symm h2⟩) hfc1.1
          have hfc : f c = n := by omega
          rw [hp]
          exact .snoc (ih _ c (by omega) hc hcl hfc) h1 (acr_symm h2) (by have := (hF c n (by omega)).2 hfc; exact this) (by have := (hF b (n + 1) hn).2 hfb; rw [this]; simp)
    exact key j p b hj hw hl hfb
end
end Go.Proofs.YtikfffojeakjoaaGreatDoor
/- Supports, plain: what explanation and reference 51 say of a list. No program in sight, no condition. -/
namespace Go.Proofs.YtikfffojeakjoaaGreatDoor
open Go.RowKit

def onlyL (l : List Spec) (set : List Int) (inn : Bool) : List Spec := l.filter fun s => hasB set s.id == inn
/-- Whether some specimens join two dies. -/
noncomputable def jnL (l : List Spec) (a b : Die) : Bool := joinG (ofG l) a b
noncomputable def isS (l : List Spec) (a b : Die) (set : List Int) : Bool := decide (ofE l = 0) && decide (AscL set) && set.all (fun n => decide (n ∈ l.map Spec.id)) && jnL (onlyL l set true) a b
noncomputable def minS (l : List Spec) (a b : Die) (set : List Int) : Bool := isS l a b set && (List.range set.length).all fun i => !jnL (onlyL l (set.eraseIdx i) true) a b
noncomputable def leastE (l : List Spec) (a b : Die) : Int := if ofE l = 0 then (if jnL l a b = true then 0 else 7) else ofE l
/-- Least returns such a list. -/
def LeastS (l : List Spec) (a b : Die) (L : List Int) : Prop :=
  if leastE l a b = 0 then (if a = b then ∃ x, (ofG l).links.find? (fun x => (acrO x a).isSome) = some x ∧ L = [x.id] else LeastIn (ShortF (ofG l) a b) L) else L = []
noncomputable def needL (l : List Spec) (a b : Die) : List Int := if leastE l a b = 0 then ((ofG l).links.map Link.id).filter fun n => !jnL (onlyL l [n] false) a b else []
theorem LeastS.uniq {l : List Spec} {a b : Die} {L M : List Int} (h : LeastS l a b L) (k : LeastS l a b M) : L = M := by
  unfold LeastS at h k
  split at h
  · rename_i h0
    rw [if_pos h0] at k
    split at h
    · rename_i h1
      rw [if_pos h1] at k
      obtain ⟨x, hx, rfl⟩ := h
      obtain ⟨y, hy, rfl⟩ := k
      rw [hx] at hy; cases hy; rfl
    · rename_i h1
      rw [if_neg h1] at k
      exact h.uniq k
  · rename_i h0
    rw [if_neg h0] at k
    rw [h, k]
section
variable {l : List Spec} {a b c d : Die} {set : List Int} {p q : List Link} {x : Link}
theorem only_sub (l : List Spec) (set : List Int) (inn : Bool) : (onlyL l set inn).Sublist l := List.filter_sublist
theorem only_of (h : ofE l = 0) (set : List Int) (inn : Bool) : ofE (onlyL l set inn) = 0 := of_sub h (only_sub l set inn)
theorem jn_iff (h : ofE l = 0) : jnL l a b = true ↔ JoinE (edgesS l) a b := by rw [jnL, joinG, of_valid h, join_of h, Bool.true_and, joinB_iff]
theorem links_of (h : ofE l = 0) : x ∈ (ofG l).links ↔ ∃ s ∈ l, x = linkOf s := by
  have hd := links_nodup (checkE_zero (ofE_zero h).1).2.2
  rw [of_made h]
  show x ∈ inss (l.map linkOf) ↔ _
  rw [inss_mem hd, List.mem_map]
  exact ⟨fun ⟨s, hs, e⟩ => ⟨s, hs, e.symm⟩, fun ⟨s, hs, e⟩ => ⟨s, hs, e.symm⟩⟩
theorem ids_asc (h : ofE l = 0) : AscL ((ofG l).links.map Link.id) := ascB_asc ((graphB_iff _).1 (of_valid h)).ids
theorem ids_mem (h : ofE l = 0) {n : Int} : n ∈ (ofG l).links.map Link.id ↔ n ∈ l.map Spec.id := by
  rw [List.mem_map, List.mem_map]
  constructor
  · rintro ⟨x, hx, rfl⟩
    obtain ⟨s, hs, rfl⟩ := (links_of h).1 hx
    exact ⟨s, hs, rfl⟩
  · rintro ⟨s, hs, rfl⟩
    exact ⟨linkOf s, (links_of h).2 ⟨s, hs, rfl⟩, rfl⟩
theorem asc_nodup {L : List Int} (h : AscL L) : L.Nodup := h.imp fun h => by omega
theorem ids_nodup (h : ofE l = 0) : ((ofG l).links.map Link.id).Nodup := asc_nodup (ids_asc h)
theorem links_asc (h : ofE l = 0) : (ofG l).links.Pairwise fun x y => x.id < y.id := List.pairwise_map.1 (ids_asc h)
theorem only_mem {s : Spec} {inn : Bool} : s ∈ onlyL l set inn ↔ s ∈ l ∧ (hasB set s.id = inn) := by simp [onlyL]
/-- Links with Ids of a set, in the graph of the specimens of the set. -/
theorem links_only (h : ofE l = 0) {inn : Bool} : x ∈ (ofG (onlyL l set inn)).links ↔ x ∈ (ofG l).links ∧ hasB set x.id = inn := by
  rw [links_of (only_of h set inn), links_of h]
  constructor
  · rintro ⟨s, hs, rfl⟩
    obtain ⟨h1, h2⟩ := only_mem.1 hs
    exact ⟨⟨s, h1, rfl⟩, h2⟩
  · rintro ⟨⟨s, hs, rfl⟩, h2⟩
    exact ⟨s, only_mem.2 ⟨hs, h2⟩, rfl⟩
/-- The numbers of links from a die. -/
theorem far_ex (h : ofE l = 0) (ha : EndE (edgesG (ofG l)) a) : ∃ f, FarAt (ofG l) a f ∧ ∀ d, f d < 65 := by
  have hE := fun d => dies_end (of_valid h) d
  refine ⟨_, far_done (ds := diesG (ofG l)) ((hE a).2 ha) fun d hd => (hE d).2 hd, fun d => ?_⟩
  have hr := far_rounds (ofG l) a (diesG (ofG l)).length
  have hlen := dies_le (of_valid h)
  rcases hr.rng d with h1 | h1
  · omega
  · obtain ⟨n, hn⟩ : ∃ n : Nat, roundsF (ofG l) a (diesG (ofG l)).length d = n := ⟨(roundsF (ofG l) a (diesG (ofG l)).length d).toNat, by omega⟩
    obtain ⟨c, c1, c2, c3⟩ := hr.chain n d hn
    have := nodup_len c2 (fun x hx => (hr.end_ x (c3 x hx).1).elim (fun e => e ▸ (hE a).2 ha) (fun e => (hE x).2 e))
    omega
theorem way_of_con {f : Die → Int} {g : Graph} (hf : FarAt g b f) (h : Con (edgesG g) b a) : ∃ p, Way g a p b ∧ (p.length : Int) = f a := by
  have := (hf.con a).2 h
  obtain ⟨p, hp, hl⟩ := way_far hf (f a).toNat a (by omega)
  exact ⟨p, hp, by omega⟩
theorem Way.ends {g : Graph} (h : Way g a p b) (hp : p ≠ []) : EndE (edgesG g) a ∧ EndE (edgesG g) b := by
  cases h with
  | nil => exact absurd rfl hp
  | @cons _ _ c x r h1 h2 h3 =>
    have hN : Nbr (edgesG g) a c := acr_nbr.2 ⟨x, h1, h2⟩
    refine ⟨hN.symm.end, ?_⟩
    clear hp h2
    have : ∀ {c b : Die} {r : List Link}, Way g c r b → EndE (edgesG g) c → EndE (edgesG g) b := fun {c b r} hw => by
      induction hw with
      | nil => exact id
      | @cons a b c x p h1 h2 _ ih => intro _; exact ih ((acr_nbr.2 ⟨x, h1, h2⟩ : Nbr (edgesG g) a c).end)
    exact this h3 hN.end
/-- A way along links of a set joins its dies within the set. -/
theorem Way.sub {g g' : Graph} (h : Way g a p b) (hs : ∀ x ∈ p, x ∈ g'.links) : Way g' a p b := by
  induction h with
  | nil => exact .nil _
  | cons h1 h2 _ ih => exact .cons (hs _ (by simp)) h2 (ih fun x hx => hs x (List.mem_cons_of_mem _ hx))
theorem way_joins (h : ofE l = 0) (hw : Way (ofG l) a p b) (hp : p ≠ []) : jnL l a b = true := by
  obtain ⟨h1, h2⟩ := hw.ends hp
  rw [jnL, joinG, of_valid h, Bool.true_and, joinB_iff]
  exact ⟨h1, h2, hw.con⟩
/-- A shortest way takes no link twice. -/
theorem Up.nodup {g : Graph} {F : Die → Int} {k : Nat} (h : Up g F p k b) : p.Nodup := by
  induction h with
  | nil => exact List.nodup_nil
  | @snoc p n b c z hp hz ha q1 q2 ih =>
    rw [List.nodup_append]
    refine ⟨ih, by simp, fun x hx y hy e => ?_⟩
    rw [List.mem_singleton] at hy; subst hy; subst e
    obtain ⟨_, j, j1, j2⟩ := hp.mem x hx
    have hl : layF F x n = true := by
      rcases acr_ends.1 ha with ⟨rfl, rfl⟩ | ⟨rfl, rfl⟩
      · exact lay_iff.2 (.inl ⟨q1, q2⟩)
      · exact lay_iff.2 (.inr ⟨q1, q2⟩)
    have := lay_uniq hl j2
    omega
theorem isL_asc {L : List Int} (h : L.Nodup) : AscL (isL L) := by
  have h1 := isL_sorted L
  have h2 := (isL_perm L).nodup_iff.2 h
  exact (List.pairwise_and_iff.2 ⟨h1, h2⟩).imp fun ⟨h3, h4⟩ => by omega
theorem isL_mem {L : List Int} {n : Int} : n ∈ isL L ↔ n ∈ L := (isL_perm L).mem_iff
theorem isL_len (L : List Int) : (isL L).length = L.length := (isL_perm L).length_eq
theorem short_way {f : Die → Int} {g : Graph} (hf : FarAt g a f) (hw : Way g a p b) (hl : (p.length : Int) = f b) : p.Nodup := by
  have := (up_way (k := p.length) (F := f) hf (fun d i _ => Iff.rfl) (p := p) (j := p.length) (b := b) (Nat.le_refl _)).2 ⟨hw, rfl, hl.symm⟩
  exact this.nodup
/-- What the lists of the shortest ways are like. -/
theorem short_facts (h : ofE l = 0) {f : Die → Int} (hf : FarAt (ofG l) a f) {M : List Int} (hM : ShortF (ofG l) a b M) : AscL M ∧ (M.length : Int) = f b ∧ ∀ y ∈ M, y ∈ (ofG l).links.map Link.id := by
  rw [short_symm] at hM
  have hM' : ShortF (ofG l) b a M := hM
  rw [short_iff hf] at hM'
  obtain ⟨p, hp, hl, rfl⟩ := hM'
  have hnd := short_way (p := p.reverse) hf hp.rev (by simpa using hl)
  have hnd' : p.Nodup := ((List.reverse_perm _).nodup_iff).1 hnd
  have hpn : (p.map Link.id).Nodup := by
    rw [List.Nodup, List.pairwise_map]
    refine hnd'.imp_of_mem fun {x y} hx hy hne e => hne (id_link (ids_nodup h) (hp.mem x hx) (hp.mem y hy) e)
  refine ⟨isL_asc hpn, by rw [isL_len, List.length_map]; exact hl, fun y hy => ?_⟩
  obtain ⟨x, hx, rfl⟩ := List.mem_map.1 (isL_mem.1 hy)
  exact List.mem_map_of_mem (f := Link.id) (hp.mem x hx)
/-- The greedy list is the least one. -/
theorem greedy_short (h : ofE l = 0) {f F : Die → Int} (hf : FarAt (ofG l) a f) (hF : ∀ d (i : Nat), i ≤ (f b).toNat → (F d = i ↔ f d = i)) (hb : 0 ≤ f b) {m : List Int} (hm : LeastIn (ShortF (ofG l) a b) m) :
    greedyL (f b).toNat (feasF (ofG l).links F b (f b).toNat) ((ofG l).links.map Link.id) = m := by
  refine greedy_eq (ids_asc h) hm (fun M hM => ?_) fun R hR hRs => ?_
  · obtain ⟨h1, h2, h3⟩ := short_facts h hf hM
    exact ⟨h1, by omega, h3⟩
  · rw [feas_up (ids_nodup h) (asc_nodup hR) hRs]
    rw [short_symm, short_iff hf]
    constructor
    · rintro ⟨p, hp, hs⟩
      obtain ⟨q1, q2, q3⟩ := (up_way hf hF (Nat.le_refl _)).1 hp
      exact ⟨isL (p.map Link.id), ⟨p.reverse, q1.rev, by simp; omega, isL_of_perm (by rw [List.map_reverse]; exact (List.reverse_perm _).symm)⟩, fun y hy => isL_mem.2 (hs y hy)⟩
    · rintro ⟨M, ⟨p, p1, p2, rfl⟩, hs⟩
      refine ⟨p.reverse, (up_way hf hF (Nat.le_refl _)).2 ⟨p1.rev, by simp; omega, by omega⟩, fun y hy => ?_⟩
      have := isL_mem.1 (hs y hy)
      rw [List.map_reverse, List.mem_reverse]; exact this
theorem jn_nil : jnL [] a b = false := by
  cases h : jnL [] a b
  · rfl
  · obtain ⟨⟨e, he, _⟩, _⟩ := (jn_iff ofE_nil).1 h
    simp [edgesS] at he
theorem jn_mono {k : List Spec} (h : ofE l = 0) (hs : k.Sublist l) (hj : jnL k a b = true) : jnL l a b = true := by
  obtain ⟨⟨e, m1, q1⟩, ⟨e2, m2, q2⟩, hc⟩ := (jn_iff (of_sub h hs)).1 hj
  have hsub : ∀ e ∈ edgesS k, e ∈ edgesS l := fun e he => by
    obtain ⟨s, hs', rfl⟩ := List.mem_map.1 he
    exact List.mem_map.2 ⟨s, hs.subset hs', rfl⟩
  exact (jn_iff h).2 ⟨⟨e, hsub _ m1, q1⟩, ⟨e2, hsub _ m2, q2⟩, hc.mono hsub⟩
theorem only_sub' {l : List Spec} {S T : List Int} {i j : Bool} (h : ∀ s ∈ l, hasB S s.id = i → hasB T s.id = j) : (onlyL l S i).Sublist (onlyL l T j) := by
  have : onlyL l S i = (onlyL l T j).filter fun s => hasB S s.id == i := by
    rw [onlyL, onlyL, List.filter_filter]
    refine List.filter_congr fun s hs => ?_
    have := h s hs
    cases hS : hasB S s.id == i
    · simp
    · have := this (by simpa using hS)
      simp [this]
  rw [this]
  exact List.filter_sublist
theorem supp_way (h : ofE l = 0) (hw : Way (ofG l) a p b) (hp : p ≠ []) (hS : ∀ x ∈ p, x.id ∈ set) : jnL (onlyL l set true) a b = true :=
  way_joins (only_of h set true) (hw.sub fun x hx => (links_only h).2 ⟨hw.mem x hx, (hasB_iff _ _).2 (hS x hx)⟩) hp
/-- A list that joins two dies has as many elements as a shortest way has links. -/
theorem supp_size (h : ofE l = 0) {L : List Int} (hL : ShortF (ofG l) a b L) (hj : jnL (onlyL l set true) a b = true) : L.length ≤ set.length := by
  have h' := only_of h set true
  obtain ⟨ha, hb, hc⟩ := (jn_iff h').1 hj
  have hbG : EndE (edgesG (ofG (onlyL l set true))) b := by
    obtain ⟨e, he, hq⟩ := hb
    exact ⟨e, (edges_of h' e).2 he, hq⟩
  obtain ⟨f, hf, _⟩ := far_ex h' hbG
  have hcG : Con (edgesG (ofG (onlyL l set true))) b a := (hc.mono fun e he => (edges_of h' e).2 he).symm
  obtain ⟨q, hq, hql⟩ := way_of_con hf hcG
  have hnd : q.Nodup := ((List.reverse_perm _).nodup_iff).1 (short_way (p := q.reverse) hf hq.rev (by simpa using hql))
  have hqn : (q.map Link.id).Nodup := by
    rw [List.Nodup, List.pairwise_map]
    exact hnd.imp_of_mem fun {x y} hx hy hne e => hne (id_link (ids_nodup h') (hq.mem x hx) (hq.mem y hy) e)
  have h1 := nodup_len hqn (c := set) fun n hn => by
    obtain ⟨x, hx, rfl⟩ := List.mem_map.1 hn
    exact (hasB_iff _ _).1 ((links_only h).1 (hq.mem x hx)).2
  obtain ⟨p, hp, hm, rfl⟩ := hL
  have h2 := hm q (hq.sub fun x hx => ((links_only h).1 (hq.mem x hx)).1)
  rw [isL_len, List.length_map]
  rw [List.length_map] at h1
  omega
theorem leastE_0 (h : leastE l a b = 0) : ofE l = 0 ∧ jnL l a b = true := by
  unfold leastE at h
  by_cases hE : ofE l = 0
  · rw [if_pos hE] at h
    refine ⟨hE, ?_⟩
    by_cases hj : jnL l a b = true
    · exact hj
    · rw [if_neg hj] at h; omega
  · rw [if_neg hE] at h; exact absurd h hE
theorem leastE_no (h : leastE l a b ≠ 0) (set : List Int) : isS l a b set = false := by
  cases hS : isS l a b set
  · rfl
  · exfalso
    simp only [isS, Bool.and_eq_true, decide_eq_true_eq] at hS
    obtain ⟨⟨⟨hE, _⟩, _⟩, hj⟩ := hS
    exact h (by rw [leastE, if_pos hE, if_pos (jn_mono hE (only_sub l set true) hj)])
theorem leastE_symm : leastE l a b = leastE l b a := by
  have : ∀ {a b : Die}, ofE l = 0 → jnL l a b = true → jnL l b a = true := fun {a b} h hj => by
    obtain ⟨h1, h2, h3⟩ := (jn_iff h).1 hj
    exact (jn_iff h).2 ⟨h2, h1, h3.symm⟩
  unfold leastE
  by_cases hE : ofE l = 0
  · rw [if_pos hE, if_pos hE]
    by_cases hj : jnL l a b = true
    · rw [if_pos hj, if_pos (this hE hj)]
    · rw [if_neg hj, if_neg fun h => hj (this hE h)]
  · rw [if_neg hE, if_neg hE]
theorem leastS_symm {L : List Int} (h : LeastS l a b L) : LeastS l b a L := by
  unfold LeastS at h ⊢
  rw [leastE_symm] at h
  by_cases h0 : leastE l b a = 0
  · rw [if_pos h0] at h ⊢
    by_cases e : a = b
    · subst e; exact h
    · rw [if_neg e] at h
      rw [if_neg fun e' => e e'.symm, short_symm]; exact h
  · rw [if_neg h0] at h ⊢; exact h
theorem isS_of (h : ofE l = 0) (h1 : AscL set) (h2 : ∀ n ∈ set, n ∈ l.map Spec.id) (h3 : jnL (onlyL l set true) a b = true) : isS l a b set = true := by
  simp only [isS, Bool.and_eq_true, decide_eq_true_eq, List.all_eq_true]
  exact ⟨⟨⟨h, h1⟩, h2⟩, h3⟩
/-- What Least returns. -/
theorem least_facts {L : List Int} (h0 : leastE l a b = 0) (hL : LeastS l a b L) :
    isS l a b L = true ∧ minS l a b L = true ∧ (∀ S, isS l a b S = true → L.length ≤ S.length) ∧ (∀ n ∈ needL l a b, n ∈ L) := by
  obtain ⟨hE, hj⟩ := leastE_0 h0
  unfold LeastS at hL
  rw [if_pos h0] at hL
  have key : isS l a b L = true → (∀ S, jnL (onlyL l S true) a b = true → L.length ≤ S.length) → isS l a b L = true ∧ minS l a b L = true ∧ (∀ S, isS l a b S = true → L.length ≤ S.length) ∧ (∀ n ∈ needL l a b, n ∈ L) := fun h1 h2 => by
    have hparts := h1
    simp only [isS, Bool.and_eq_true, decide_eq_true_eq, List.all_eq_true] at hparts
    refine ⟨h1, ?_, fun S hS => ?_, fun n hn => ?_⟩
    · unfold minS
      rw [h1, Bool.true_and, List.all_eq_true]
      intro i hi
      cases hc : jnL (onlyL l (L.eraseIdx i) true) a b
      · rfl
      · exfalso
        have := h2 _ hc
        have hi' := List.mem_range.1 hi
        rw [List.length_eraseIdx_of_lt hi'] at this
        omega
    · simp only [isS, Bool.and_eq_true] at hS
      exact h2 S hS.2
    · rw [needL, if_pos h0, List.mem_filter] at hn
      obtain ⟨_, hn⟩ := hn
      by_cases hm : n ∈ L
      · exact hm
      · exfalso
        have hs := only_sub' (l := l) (S := L) (T := [n]) (i := true) (j := false) fun s _ hsL => by
          cases hb : hasB [n] s.id
          · rfl
          · have h3 := (hasB_iff _ _).1 hb
            rw [List.mem_singleton] at h3
            exact absurd (h3 ▸ (hasB_iff _ _).1 hsL) hm
        have := jn_mono (only_of hE [n] false) hs hparts.2
        rw [this] at hn; cases hn
  by_cases e : a = b
  · subst e
    rw [if_pos rfl] at hL
    obtain ⟨x, hx, rfl⟩ := hL
    have hxm := List.mem_of_find?_eq_some hx
    obtain ⟨c, hc⟩ := Option.isSome_iff_exists.1 (List.find?_some (p := fun x => (acrO x a).isSome) hx)
    have hw : Way (ofG l) a [x, x] a := .cons hxm hc (.cons hxm (acr_symm hc) (.nil _))
    refine key (isS_of hE (List.pairwise_singleton _ _) (fun n hn => ?_) (supp_way hE hw (by simp) (fun y hy => by simp at hy; simp [hy]))) fun S hS => ?_
    · rw [List.mem_singleton] at hn; subst hn
      exact (ids_mem hE).1 (List.mem_map_of_mem (f := Link.id) hxm)
    · cases S with
      | nil =>
        have : onlyL l [] true = [] := by simp [onlyL, hasB]
        rw [this, jn_nil] at hS; cases hS
      | cons n S => simp
  · rw [if_neg e] at hL
    have haG : EndE (edgesG (ofG l)) a := by
      obtain ⟨⟨e, he, hq⟩, _⟩ := (jn_iff hE).1 hj
      exact ⟨e, (edges_of hE e).2 he, hq⟩
    obtain ⟨f, hf, _⟩ := far_ex hE haG
    obtain ⟨q1, q2, q3⟩ := short_facts hE hf hL.mem
    obtain ⟨p, hp, _, rfl⟩ := hL.mem
    have hpn : p ≠ [] := fun h => by subst h; cases hp; exact e rfl
    refine key (isS_of hE q1 (fun n hn => (ids_mem hE).1 (q3 n hn)) (supp_way hE hp hpn fun x hx => isL_mem.2 (List.mem_map_of_mem (f := Link.id) hx))) fun S hS => supp_size hE hL.mem hS
theorem need_has (h0 : leastE l a b = 0) {n : Int} (hn : n ∈ l.map Spec.id) : hasB (needL l a b) n = !jnL (onlyL l [n] false) a b := by
  rw [Bool.eq_iff_iff, hasB_iff, needL, if_pos h0, List.mem_filter, ids_mem (leastE_0 h0).1]
  exact ⟨fun h => h.2, fun h => ⟨hn, h⟩⟩
/-- A support without an Id. -/
theorem some_facts (hE : ofE l = 0) {n : Int} {L : List Int} (h0 : leastE (onlyL l [n] false) a b = 0) (hL : LeastS (onlyL l [n] false) a b L) : isS l a b L = true ∧ hasB L n = false := by
  obtain ⟨h1, _⟩ := least_facts h0 hL
  simp only [isS, Bool.and_eq_true, decide_eq_true_eq, List.all_eq_true] at h1
  obtain ⟨⟨⟨_, h2⟩, h3⟩, h4⟩ := h1
  have hin : ∀ m ∈ L, m ∈ l.map Spec.id ∧ m ≠ n := fun m hm => by
    obtain ⟨s, hs, rfl⟩ := List.mem_map.1 (h3 m hm)
    obtain ⟨k1, k2⟩ := only_mem.1 hs
    refine ⟨List.mem_map_of_mem (f := Spec.id) k1, fun e => ?_⟩
    have : hasB [n] s.id = true := (hasB_iff _ _).2 (by rw [e]; simp)
    rw [this] at k2; cases k2
  refine ⟨isS_of hE h2 (fun m hm => (hin m hm).1) (jn_mono (only_of hE L true) ?_ h4), ?_⟩
  · exact ((only_sub l [n] false).filter _)
  · cases hb : hasB L n
    · rfl
    · exact absurd rfl (hin n ((hasB_iff _ _).1 hb)).2
end
end Go.Proofs.YtikfffojeakjoaaGreatDoor
