/- The part of the evidence that a chain names has that chain (plain). No program in sight, no condition. -/
import Derived.Test.YtikfffojeakjoaaGreatDoorPreM
import Derived.Test.YtikfffojeakjoaaGreatDoorCmp
import Derived.Test.YtikfffojeakjoaaGreatDoorQryD
import Derived.Test.YtikfffojeakjoaaGreatDoorBefX
import Derived.Test.YtikfffojeakjoaaGreatDoorOpen
import Derived.Test.YtikfffojeakjoaaGreatDoorRows
import Derived.Test.YtikfffojeakjoaaGreatDoorCards
import Derived.Test.YtikfffojeakjoaaGreatDoorTie
import Derived.LaidMore
import Derived.ProofKit
namespace Go.Proofs.YtikfffojeakjoaaGreatDoor
open Go.RowKit

/-! ### Chains by Ids -/
section
variable {P Q Q' : List Link} {t x y : Int} {f g g' I : Int → Int} {p q r : Link} {n : Nat}
theorem bestF_of (hI : ∀ p ∈ P, ∀ q ∈ P, I p.rev = I q.rev → p.rev = q.rev) (h : BestOf f I x P p) : bestF f I x P = some p := by
  have hb := best_is f I x P
  cases hB : bestF f I x P with
  | none => rw [hB] at hb; have := hb p h.1; rw [h.2.1] at this; cases this
  | some q => rw [hB] at hb; rw [BestOf.uniq hI hb h]
theorem bestF_no (h : ∀ q ∈ P, candB f x q = false) : bestF f I x P = none := by
  have hb := best_is f I x P
  cases hB : bestF f I x P with
  | none => rfl
  | some q => rw [hB] at hb; have := h q hb.1; rw [hb.2.1] at this; cases this
theorem best_of_some (h : bestF f I x P = some p) : BestOf f I x P p := by
  have hb := best_is f I x P
  rwa [h] at hb
theorem best_of_none (h : bestF f I x P = none) : ∀ q ∈ P, candB f x q = false := by
  have hb := best_is f I x P
  rwa [h] at hb
/-- Fewer pieces: no number is less. -/
theorem FarP.low (hf : FarP Q' t g') (hg : FarP Q t g) (hs : ∀ p ∈ Q', p ∈ Q) : ∀ (n : Nat) (x : Int), g' x = n → 0 ≤ g x ∧ g x ≤ n
  | 0, x, h => by
    have := hf.only x h
    subst this
    rw [hg.zero]; simp
  | n + 1, x, h => by
    obtain ⟨p, hp, h1, h2⟩ := hf.pred x (by omega)
    subst h1
    have ⟨h3, h4⟩ := FarP.low hf hg hs n p.rev (by omega)
    have ⟨h5, h6⟩ := hg.clo p (hs p hp) h3
    omega
theorem FarP.low' (hf : FarP Q' t g') (hg : FarP Q t g) (hs : ∀ p ∈ Q', p ∈ Q) (h : 0 ≤ g' x) : 0 ≤ g x ∧ g x ≤ g' x := by
  have := FarP.low hf hg hs (g' x).toNat x (by omega)
  omega
/-- On the chain the numbers stay. -/
theorem chain_keep (hf : FarP Q' t g') (hg : FarP Q t g) (hs : ∀ p ∈ Q', p ∈ Q) : ∀ (n : Nat) (x : Int), 0 < g x → g x ≤ n → (∀ p ∈ chainK g I Q t n x, p ∈ Q') → g' x = g x
  | 0, x, h1, h2, _ => by omega
  | n + 1, x, h1, h2, hc => by
    obtain ⟨p, hp, h3⟩ := best_next (I := I) hg h1
    have hx := (best_mem hp).2.1
    rw [chain_some hp] at hc
    have hpQ : p ∈ Q' := hc p (by simp)
    have h4 : g' p.rev = g p.rev := by
      by_cases e : p.rev = t
      · rw [e, hf.zero, hg.zero]
      · rw [if_neg e] at hc
        have h5 : g p.rev ≠ 0 := fun h => e (hg.only _ h)
        exact chain_keep hf hg hs n p.rev (by omega) (by omega) fun q hq => hc q (List.mem_cons_of_mem _ hq)
    have ⟨h6, h7⟩ := hf.clo p hpQ (by omega)
    rw [hx] at h6 h7
    have h8 := FarP.low' hf hg hs h6
    omega
/-- With fewer pieces, but all of the chain, the chain is the same. -/
theorem chain_same (hf : FarP Q' t g') (hg : FarP Q t g) (hs : ∀ p ∈ Q', p ∈ Q) (hI : ∀ p ∈ Q, ∀ q ∈ Q, I p.rev = I q.rev → p.rev = q.rev) : ∀ (n : Nat) (x : Int) (p : Link), (∀ y, g y ≤ n) → bestF g I x Q = some p → (∀ p ∈ chainK g I Q t (n + 1) x, p ∈ Q') → bestF g' I x Q' = some p ∧ ∀ m, m ≤ n → (g p.rev ≤ m) → chainK g' I Q' t (m + 1) x = chainK g I Q t (m + 1) x := by
  have key : ∀ (n : Nat) (x : Int) (p : Link), g p.rev ≤ n → bestF g I x Q = some p → (∀ p ∈ chainK g I Q t (n + 1) x, p ∈ Q') → bestF g' I x Q' = some p ∧ chainK g' I Q' t (n + 1) x = chainK g I Q t (n + 1) x := by
    intro n
    induction n with
    | zero =>
      intro x p hn hp hc
      obtain ⟨h1, h2, h3⟩ := best_mem hp
      have h0 : g p.rev = 0 := by omega
      have e : p.rev = t := hg.only _ h0
      rw [chain_some hp, if_pos e] at hc ⊢
      have hpQ : p ∈ Q' := hc p (by simp)
      have hk : g' p.rev = g p.rev := by rw [e, hf.zero, hg.zero]
      have hb : bestF g' I x Q' = some p := by
        refine bestF_of (fun a ha b hb => hI a (hs a ha) b (hs b hb)) ⟨hpQ, cand_iff.2 ⟨h2, by omega⟩, fun q hq hqc => ?_⟩
        have hqc' := cand_iff.1 hqc
        have hl := FarP.low' hf hg hs hqc'.2
        have := keyLt_no.1 ((best_of_some hp).2.2 q (hs q hq) (cand_iff.2 ⟨hqc'.1, hl.1⟩))
        rw [keyLt_no]; omega
      exact ⟨hb, by rw [chain_some hb, if_pos e]⟩
    | succ n ih =>
      intro x p hn hp hc
      obtain ⟨h1, h2, h3⟩ := best_mem hp
      rw [chain_some hp] at hc ⊢
      have hpQ : p ∈ Q' := hc p (by simp)
      have hk : g' p.rev = g p.rev := by
        by_cases e : p.rev = t
        · rw [e, hf.zero, hg.zero]
        · have h5 : g p.rev ≠ 0 := fun h => e (hg.only _ h)
          rw [if_neg e] at hc
          exact chain_keep (I := I) hf hg hs (n + 1) p.rev (by omega) (by omega) fun q hq => hc q (List.mem_cons_of_mem _ hq)
      have hb : bestF g' I x Q' = some p := by
        refine bestF_of (fun a ha b hb => hI a (hs a ha) b (hs b hb)) ⟨hpQ, cand_iff.2 ⟨h2, by omega⟩, fun q hq hqc => ?_⟩
        have hqc' := cand_iff.1 hqc
        have hl := FarP.low' hf hg hs hqc'.2
        have := keyLt_no.1 ((best_of_some hp).2.2 q (hs q hq) (cand_iff.2 ⟨hqc'.1, hl.1⟩))
        rw [keyLt_no]; omega
      refine ⟨hb, ?_⟩
      rw [chain_some hb]
      by_cases e : p.rev = t
      · rw [if_pos e, if_pos e]
      · rw [if_neg e] at hc
        rw [if_neg e, if_neg e]
        have h5 : g p.rev ≠ 0 := fun h => e (hg.only _ h)
        obtain ⟨r, hr, h6⟩ := best_next (I := I) hg (show 0 < g p.rev by omega)
        rw [(ih p.rev r (by omega) hr fun q hq => hc q (List.mem_cons_of_mem _ hq)).2]
  intro n x p hn hp hc
  have hfull := key n x p (hn _) hp hc
  refine ⟨hfull.1, fun m hm hgm => ?_⟩
  have hmc : ∀ q ∈ chainK g I Q t (m + 1) x, q ∈ Q' := by
    intro q hq
    refine hc q ?_
    have hmono : ∀ (m n : Nat) (x : Int), m ≤ n → ∀ q ∈ chainK g I Q t m x, q ∈ chainK g I Q t n x := by
      intro m
      induction m with
      | zero => intro n x _ q hq; simp [chainK] at hq
      | succ m ih =>
        intro n x hmn q hq
        obtain ⟨n', rfl⟩ : ∃ n', n = n' + 1 := ⟨n - 1, by omega⟩
        cases hb : bestF g I x Q with
        | none => rw [chain_none hb] at hq; simp at hq
        | some p =>
          rw [chain_some hb] at hq ⊢
          rw [List.mem_cons] at hq ⊢
          refine hq.imp id fun h => ?_
          split at h
          · simp at h
          · rename_i e
            rw [if_neg e]
            exact ih n' p.rev (by omega) q h
    exact hmono _ _ _ (by omega) q hq
  exact (key m x p hgm hp hmc).2
end
/-- Numbers by Ids. -/
def gId (l : List Spec) (f : Int → Int) (n : Int) : Int := if 0 ≤ plS l n then f (plS l n) else -1
section
variable {l : List Spec} {P : List Link} {t x : Int} {f : Int → Int} {p q : Link} {n : Nat}
theorem gId_at (hd : (l.map Spec.id).Nodup) (hx : 0 ≤ x ∧ x < l.length) : gId l f (idAt l x) = f x := by
  rw [gId, pl_idAt hd hx, if_pos hx.1]
theorem far_id (hd : (l.map Spec.id).Nodup) (hin : PcIn l.length P) (ht : 0 ≤ t ∧ t < l.length) (hf : FarP P t f) : FarP (P.map (prfL l)) (idAt l t) (gId l f) := by
  have hg : ∀ n, 0 ≤ gId l f n → ∃ x : Int, (0 ≤ x ∧ x < l.length) ∧ n = idAt l x ∧ gId l f n = f x := fun n h => by
    unfold gId at h ⊢
    split at h
    · rename_i h1
      rw [if_pos h1]
      exact ⟨plS l n, ⟨h1, plS_lt h1⟩, (idAt_pl h1).symm, rfl⟩
    · omega
  refine ⟨fun n => ?_, by rw [gId_at hd ht, hf.zero], fun n h => ?_, fun n h => ?_, fun q hq h => ?_⟩
  · unfold gId; split
    · exact hf.rng _
    · omega
  · obtain ⟨x, hx, rfl, e⟩ := hg n (by omega)
    rw [e] at h
    rw [hf.only x h]
  · obtain ⟨x, hx, rfl, e⟩ := hg n (by omega)
    rw [e] at h ⊢
    obtain ⟨p, hp, h1, h2⟩ := hf.pred x h
    refine ⟨prfL l p, List.mem_map.2 ⟨p, hp, rfl⟩, by show idAt l p.obv = _; rw [h1], ?_⟩
    show gId l f (idAt l p.rev) = _
    rw [gId_at hd (hin p hp).2, h2]
  · obtain ⟨p, hp, rfl⟩ := List.mem_map.1 hq
    have h1 : gId l f (prfL l p).rev = f p.rev := gId_at hd (hin p hp).2
    have h2 : gId l f (prfL l p).obv = f p.obv := gId_at hd (hin p hp).1
    rw [h1] at h ⊢
    rw [h2]
    exact hf.clo p hp h
theorem key_id (hd : (l.map Spec.id).Nodup) (hin : PcIn l.length P) (hp : p ∈ P) (hq : q ∈ P) : keyLt (gId l f) id (prfL l p) (prfL l q) = keyLt f (idAt l) p q := by
  have h1 : gId l f (prfL l p).rev = f p.rev := gId_at hd (hin p hp).2
  have h2 : gId l f (prfL l q).rev = f q.rev := gId_at hd (hin q hq).2
  unfold keyLt
  rw [h1, h2]; rfl
theorem cand_id (hd : (l.map Spec.id).Nodup) (hin : PcIn l.length P) (hp : p ∈ P) (hx : 0 ≤ x ∧ x < l.length) : candB (gId l f) (idAt l x) (prfL l p) = candB f x p := by
  have h1 : gId l f (prfL l p).rev = f p.rev := gId_at hd (hin p hp).2
  unfold candB
  rw [h1]
  congr 1
  refine decide_eq_decide.2 ⟨fun h => idAt_inj hd (hin p hp).1 hx h, fun h => by show idAt l p.obv = _; rw [h]⟩
theorem best_id (hd : (l.map Spec.id).Nodup) (hin : PcIn l.length P) (hx : 0 ≤ x ∧ x < l.length) : bestF (gId l f) id (idAt l x) (P.map (prfL l)) = (bestF f (idAt l) x P).map (prfL l) := by
  cases hb : bestF f (idAt l) x P with
  | none =>
    refine bestF_no fun q hq => ?_
    obtain ⟨p, hp, rfl⟩ := List.mem_map.1 hq
    rw [cand_id hd hin hp hx]
    exact best_of_none hb p hp
  | some p =>
    obtain ⟨h1, h2, h3⟩ := best_of_some hb
    refine bestF_of (fun a _ b _ h => h) ⟨List.mem_map.2 ⟨p, h1, rfl⟩, by rw [cand_id hd hin h1 hx]; exact h2, fun q hq hqc => ?_⟩
    obtain ⟨r, hr, rfl⟩ := List.mem_map.1 hq
    rw [cand_id hd hin hr hx] at hqc
    rw [key_id hd hin hr h1]
    exact h3 r hr hqc
theorem chain_id (hd : (l.map Spec.id).Nodup) (hin : PcIn l.length P) (ht : 0 ≤ t ∧ t < l.length) : ∀ (n : Nat) (x : Int), 0 ≤ x ∧ x < l.length → chainK (gId l f) id (P.map (prfL l)) (idAt l t) n (idAt l x) = (chainK f (idAt l) P t n x).map (prfL l)
  | 0, _, _ => rfl
  | n + 1, x, hx => by
    have hb := best_id (f := f) hd hin hx
    cases h : bestF f (idAt l) x P with
    | none => rw [h] at hb; rw [chain_none h, chain_none hb]; rfl
    | some p =>
      rw [h] at hb
      have hp := (best_mem h).1
      rw [chain_some h, chain_some (show _ = some (prfL l p) from hb), List.map_cons]
      congr 1
      have he : (prfL l p).rev = idAt l t ↔ p.rev = t := ⟨fun e => idAt_inj hd (hin p hp).2 ht e, fun e => by show idAt l p.rev = _; rw [e]⟩
      by_cases e : p.rev = t
      · rw [if_pos e, if_pos (he.2 e)]; rfl
      · rw [if_neg e, if_neg (fun h => e (he.1 h))]
        exact chain_id hd hin ht n p.rev (hin p hp).2
end
/-! ### Evidence by Ids -/
theorem arcs_iff {o : Int} {l : List Spec} {p : Pair} : p ∈ arcsW o l l ↔ ∃ (i j : Nat) (s t : Spec), p = ⟨i, j⟩ ∧ l[i]? = some s ∧ l[j]? = some t ∧ befB o s t = true := by
  unfold arcsW
  rw [List.mem_flatMap]
  constructor
  · rintro ⟨⟨s, i⟩, h1, h2⟩
    unfold rowW at h2
    obtain ⟨⟨t, j⟩, h3, h4⟩ := List.mem_filterMap.1 h2
    split at h4
    · rename_i hb
      cases h4
      exact ⟨i, j, s, t, rfl, List.mem_zipIdx_iff_getElem?.1 h1, List.mem_zipIdx_iff_getElem?.1 h3, hb⟩
    · cases h4
  · rintro ⟨i, j, s, t, rfl, h1, h2, h3⟩
    refine ⟨(s, i), List.mem_zipIdx_iff_getElem?.2 h1, ?_⟩
    unfold rowW
    refine List.mem_filterMap.2 ⟨(t, j), List.mem_zipIdx_iff_getElem?.2 h2, ?_⟩
    show (if befB o s t = true then _ else none) = _
    rw [if_pos h3]
theorem proofs_iff {l : List Spec} {C : List Pair} (hg : gatherE l C = 0) {q : Link} : q ∈ proofsS l C ↔ (∃ o, (o = 0 ∨ o = 1) ∧ ∃ s ∈ l, ∃ t ∈ l, befB o s t = true ∧ q = ⟨o, s.id, t.id⟩) ∨ ∃ c ∈ C, q = ⟨2, c.a, c.b⟩ := by
  have harc : ∀ o : Int, q ∈ ((arcsW o l l).map (arcP o)).map (prfL l) ↔ ∃ s ∈ l, ∃ t ∈ l, befB o s t = true ∧ q = ⟨o, s.id, t.id⟩ := fun o => by
    rw [List.mem_map]
    constructor
    · rintro ⟨r, h1, rfl⟩
      obtain ⟨p, h2, rfl⟩ := List.mem_map.1 h1
      obtain ⟨i, j, s, t, rfl, h3, h4, h5⟩ := arcs_iff.1 h2
      exact ⟨s, List.mem_of_getElem? h3, t, List.mem_of_getElem? h4, h5, by simp [prfL, arcP, idAt_get h3, idAt_get h4]⟩
    · rintro ⟨s, hs, t, ht, h5, rfl⟩
      obtain ⟨i, h3⟩ := List.getElem?_of_mem hs
      obtain ⟨j, h4⟩ := List.getElem?_of_mem ht
      exact ⟨_, List.mem_map.2 ⟨_, arcs_iff.2 ⟨i, j, s, t, rfl, h3, h4, h5⟩, rfl⟩, by simp [prfL, arcP, idAt_get h3, idAt_get h4]⟩
  have hcl : q ∈ (C.map (claP l)).map (prfL l) ↔ ∃ c ∈ C, q = ⟨2, c.a, c.b⟩ := by
    rw [List.map_map]
    have := proofs_claim hg
    rw [show (prfL l ∘ claP l) = (fun c => prfL l (claP l c)) from rfl, this, List.mem_map]
    exact ⟨fun ⟨c, h1, h2⟩ => ⟨c, h1, h2.symm⟩, fun ⟨c, h1, h2⟩ => ⟨c, h1, h2.symm⟩⟩
  rw [proofsS, piecesS, sidesS, List.map_append, List.map_append, List.mem_append, List.mem_append, harc, harc, hcl]
  constructor
  · rintro ((h | h) | h)
    · exact .inl ⟨0, .inl rfl, h⟩
    · exact .inl ⟨1, .inr rfl, h⟩
    · exact .inr h
  · rintro (⟨o, ho, h⟩ | h)
    · rcases ho with rfl | rfl
      · exact .inl (.inl h)
      · exact .inl (.inr h)
    · exact .inr h
/-- The specimens with Ids among some, and the claims between them. -/
def prtL (S : List Int) (l : List Spec) : List Spec := l.filter fun s => decide (s.id ∈ S)
def prtC (S : List Int) (C : List Pair) : List Pair := C.filter fun c => decide (c.a ∈ S) && decide (c.b ∈ S)
theorem check_part {l : List Spec} (h : checkE l = 0) (S : List Int) : checkE (prtL S l) = 0 := by
  obtain ⟨h1, h2, h3⟩ := checkE_zero h
  have hs : (prtL S l).Sublist l := List.filter_sublist
  have e1 : (prtL S l).length ≤ 64 := Nat.le_trans hs.length_le h1
  have e2 : (prtL S l).all specB = true := List.all_eq_true.2 fun s hm => List.all_eq_true.1 h2 s (hs.subset hm)
  have e3 : ((prtL S l).map Spec.id).Nodup := h3.sublist (hs.map _)
  rw [checkE, if_neg (by omega), if_pos e2, if_pos e3]
theorem plS_yes {l : List Spec} {a : Int} (h : a ∈ l.map Spec.id) : 0 ≤ plS l a := by
  obtain ⟨s, hs, he⟩ := List.mem_map.1 h
  by_cases ha : l.all (fun x' => !(fun s : Spec => s.id == a) x') = true
  · have := List.all_eq_true.1 ha s hs
    simp [he] at this
  · obtain ⟨i, y, h1, h2, h3⟩ := first_hit ha
    have : plS l a = i := firstI_hit h1 h2 h3
    omega
theorem plS_in {l : List Spec} {a : Int} (h : 0 ≤ plS l a) : a ∈ l.map Spec.id := by
  obtain ⟨k, x, _, h2, h3⟩ := plS_at h
  exact List.mem_map.2 ⟨x, List.mem_of_getElem? h2, h3⟩
theorem mem_part {l : List Spec} {S : List Int} {a : Int} : a ∈ (prtL S l).map Spec.id ↔ a ∈ l.map Spec.id ∧ a ∈ S := by
  rw [List.mem_map, List.mem_map]
  constructor
  · rintro ⟨s, hs, rfl⟩
    obtain ⟨h1, h2⟩ := List.mem_filter.1 hs
    exact ⟨⟨s, h1, rfl⟩, by simpa using h2⟩
  · rintro ⟨⟨s, hs, rfl⟩, h⟩
    exact ⟨s, List.mem_filter.2 ⟨hs, by simpa using h⟩, rfl⟩
theorem gather_part {l : List Spec} {C : List Pair} (hg : gatherE l C = 0) (S : List Int) : gatherE (prtL S l) (prtC S C) = 0 := by
  obtain ⟨h1, h2, h3, h4, h5⟩ := gather_zero hg
  have hs : (prtL S l).Sublist l := List.filter_sublist
  have hc : (prtC S C).Sublist C := List.filter_sublist
  have e1 := Nat.le_trans hs.length_le h2
  have e2 := Nat.le_trans hc.length_le h3
  have hin : ∀ c ∈ prtC S C, 0 ≤ plS (prtL S l) c.a ∧ 0 ≤ plS (prtL S l) c.b ∧ c ∈ C := fun c hm => by
    obtain ⟨k1, k2⟩ := List.mem_filter.1 hm
    simp at k2
    obtain ⟨k3, k4⟩ := miss_no (any_no h4 k1)
    exact ⟨plS_yes (mem_part.2 ⟨plS_in k3, k2.1⟩), plS_yes (mem_part.2 ⟨plS_in k4, k2.2⟩), k1⟩
  have e4 : (prtC S C).any (missB (prtL S l)) = false := by
    cases h : (prtC S C).any (missB (prtL S l))
    · rfl
    · obtain ⟨c, hm, hb⟩ := List.any_eq_true.1 h
      obtain ⟨k1, k2, _⟩ := hin c hm
      unfold missB at hb
      rw [decide_eq_false (by omega), decide_eq_false (by omega)] at hb
      cases hb
  have e5 : (prtC S C).any (sameB (prtL S l)) = false := by
    cases h : (prtC S C).any (sameB (prtL S l))
    · rfl
    · obtain ⟨c, hm, hb⟩ := List.any_eq_true.1 h
      obtain ⟨k1, k2, k3⟩ := hin c hm
      have k4 : c.a = c.b := (plS_same k1).1 (by simpa [sameB] using hb)
      have := any_no h5 k3
      rw [sameB, k4] at this
      simp at this
  rw [gatherE, if_pos (check_part h1 S), if_pos ⟨e1, e2⟩, if_neg (by rw [e4]; simp), if_neg (by rw [e5]; simp)]
/-- The law: a chain's own specimens, with the claims among them, have that chain. -/
theorem why_part {l : List Spec} {C : List Pair} {a b E' : Int} {L L' : List Link} (h : WhyR l C a b 0 L) (h' : WhyR (prtL (whyIds L) l) (prtC (whyIds L) C) a b E' L') : E' = 0 ∧ L' = L := by
  obtain ⟨hids, hz, _⟩ := h.ids
  obtain ⟨_, ha, hb⟩ := hz rfl
  rcases h with ⟨h1, h2, _⟩ | ⟨_, _, h2, _⟩ | ⟨hg, ⟨hpa, hpb⟩, f, ⟨hf, hfn⟩, h4⟩
  · exact absurd h2.symm h1
  · omega
  rcases h4 with ⟨_, h5, _⟩ | ⟨⟨p, hp⟩, _, hL⟩
  · omega
  have hg' := gather_part hg (whyIds L)
  obtain ⟨hc, _, _, _, _⟩ := gather_zero hg
  obtain ⟨hc', _, _, _, _⟩ := gather_zero hg'
  have hd := (checkE_zero hc).2.2
  have hd' := (checkE_zero hc').2.2
  have hpa' : 0 ≤ plS (prtL (whyIds L) l) a := plS_yes (mem_part.2 ⟨plS_in hpa, ha⟩)
  have hpb' : 0 ≤ plS (prtL (whyIds L) l) b := plS_yes (mem_part.2 ⟨plS_in hpb, hb⟩)
  have hin := pieces_in hg
  have hin' := pieces_in hg'
  have ra := plS_lt hpa; have rb := plS_lt hpb; have ra' := plS_lt hpa'; have rb' := plS_lt hpb'
  have hF := far_id hd hin ⟨hpb, rb⟩ hf
  have hB := best_id (f := f) hd hin ⟨hpa, ra⟩
  have hC := chain_id (f := f) hd hin ⟨hpb, rb⟩ 26 _ ⟨hpa, ra⟩
  rw [idAt_pl hpb] at hF hC
  rw [idAt_pl hpa] at hB hC
  rw [hp] at hB
  rw [← hL] at hC
  rcases h' with ⟨k1, _⟩ | ⟨_, k2, _⟩ | ⟨_, _, f', ⟨hf', _⟩, k4⟩
  · exact absurd hg' k1
  · omega
  have hF' := far_id hd' hin' ⟨hpb', rb'⟩ hf'
  have hB' := best_id (f := f') hd' hin' ⟨hpa', ra'⟩
  have hC' := chain_id (f := f') hd' hin' ⟨hpb', rb'⟩ 26 _ ⟨hpa', ra'⟩
  rw [idAt_pl hpb'] at hF' hC'
  rw [idAt_pl hpa'] at hB' hC'
  have hsub : ∀ q ∈ proofsS (prtL (whyIds L) l) (prtC (whyIds L) C), q ∈ proofsS l C := fun q hq => by
    rcases (proofs_iff hg').1 hq with ⟨o, ho, s, hs, t, ht, h1, h2⟩ | ⟨c, hm, h2⟩
    · exact (proofs_iff hg).2 (.inl ⟨o, ho, s, (List.mem_filter.1 hs).1, t, (List.mem_filter.1 ht).1, h1, h2⟩)
    · exact (proofs_iff hg).2 (.inr ⟨c, (List.mem_filter.1 hm).1, h2⟩)
  have hall : ∀ q ∈ L, q ∈ proofsS (prtL (whyIds L) l) (prtC (whyIds L) C) := fun q hq => by
    have h1 : q.obv ∈ whyIds L := whyIds_mem.2 ⟨q, hq, .inl rfl⟩
    have h2 : q.rev ∈ whyIds L := whyIds_mem.2 ⟨q, hq, .inr rfl⟩
    have h3 : q ∈ proofsS l C := by
      rw [hL] at hq
      obtain ⟨r, hr, rfl⟩ := List.mem_map.1 hq
      exact List.mem_map.2 ⟨r, chain_mem _ _ hr, rfl⟩
    rcases (proofs_iff hg).1 h3 with ⟨o, ho, s, hs, t, ht, h4, h5⟩ | ⟨c, hm, h5⟩
    · rw [h5] at h1 h2
      exact (proofs_iff hg').2 (.inl ⟨o, ho, s, List.mem_filter.2 ⟨hs, by simpa using h1⟩, t, List.mem_filter.2 ⟨ht, by simpa using h2⟩, h4, h5⟩)
    · rw [h5] at h1 h2
      exact (proofs_iff hg').2 (.inr ⟨c, List.mem_filter.2 ⟨hm, by simp [h1, h2]⟩, h5⟩)
  have hgn : ∀ y, gId l f y ≤ (25 : Nat) := fun y => by
    unfold gId; split
    · have := hfn (plS l y); omega
    · omega
  obtain ⟨r1, r2⟩ := chain_same (n := 25) hF' hF hsub (fun _ _ _ _ h => h) a (prfL l p) hgn hB (by rw [hC]; exact hall)
  have r3 := r2 25 (Nat.le_refl _) (hgn _)
  rw [show (25 : Nat) + 1 = 26 from rfl] at r3
  have r4 : chainK (gId (prtL (whyIds L) l) f') id (proofsS (prtL (whyIds L) l) (prtC (whyIds L) C)) b 26 a = L := r3.trans hC
  have hB2 : bestF (gId (prtL (whyIds L) l) f') id a (proofsS (prtL (whyIds L) l) (prtC (whyIds L) C)) = (bestF f' (idAt (prtL (whyIds L) l)) (plS (prtL (whyIds L) l) a) (piecesS (prtL (whyIds L) l) (prtC (whyIds L) C))).map (prfL (prtL (whyIds L) l)) := hB'
  rcases k4 with ⟨k5, _, _⟩ | ⟨_, k6, k7⟩
  · rw [k5] at hB2
    have r5 : bestF (gId (prtL (whyIds L) l) f') id a (proofsS (prtL (whyIds L) l) (prtC (whyIds L) C)) = some (prfL l p) := r1
    rw [hB2] at r5
    cases r5
  · refine ⟨k6, ?_⟩
    rw [k7, ← hC']
    exact r4
/-- The part has as many specimens as there are Ids. -/
theorem part_len {l : List Spec} {C : List Pair} {a b E : Int} {L : List Link} (hn : (l.map Spec.id).Nodup) (h : WhyR l C a b E L) (W : List Int) (hW : W.Nodup) (hm : ∀ n, n ∈ W ↔ n ∈ whyIds L) : (prtL (whyIds L) l).length = W.length := by
  have h1 : ((prtL (whyIds L) l).map Spec.id).Nodup := hn.sublist ((List.filter_sublist (l := l)).map _)
  have h2 : ((prtL (whyIds L) l).map Spec.id).Perm W := (List.perm_ext_iff_of_nodup h1 hW).2 fun n => by
    rw [mem_part, hm]
    exact ⟨fun h => h.2, fun h' => ⟨h.ids.1 n h', h'⟩⟩
  have := h2.length_eq
  simpa using this
end Go.Proofs.YtikfffojeakjoaaGreatDoor
/- '==' on proofs; coinagebase.Proofs. Condition: the arguments read as lists. -/
namespace Go.Proofs.YtikfffojeakjoaaGreatDoor
open Go.RowKit

theorem eqlPrf (a0 a1 a2 b0 b1 b2 : Int) (w : World) : (binOp .eql 52 (.agg #[.int .i64 a0, .int .i64 a1, .int .i64 a2]) (.agg #[.int .i64 b0, .int .i64 b1, .int .i64 b2])).run Tryz.prog w =
    .ok (.bool (decide ((⟨a0, a1, a2⟩ : Link) = ⟨b0, b1, b2⟩))) w := by
  have uI := Tryz.underlying3
  have aI := Tryz.isAgg3
  have hS : Tryz.prog.underlying 52 = some (.struct (Tryz.prog.fieldsOf 52)) := by kernel_rfl
  have hp : Tryz.prog.stoodInHeld 52 = false := by kernel_rfl
  rw [run_eql_struct, show (10000 : Nat) = 9999 + 1 from rfl, run_equalIn_agg w 9999 52 _ _ hS hp]
  simp only [Program.fieldsOf, Tryz.underlying52]
  go_simp
  by_cases h0 : a0 = b0 <;> by_cases h1 : a1 = b1 <;> by_cases h2 : a2 = b2 <;> simp [h0, h1, h2]

theorem neqPrf (a0 a1 a2 b0 b1 b2 : Int) (w : World) : (binOp .neq 52 (.agg #[.int .i64 a0, .int .i64 a1, .int .i64 a2]) (.agg #[.int .i64 b0, .int .i64 b1, .int .i64 b2])).run Tryz.prog w =
    .ok (.bool (decide ((⟨a0, a1, a2⟩ : Link) ≠ ⟨b0, b1, b2⟩))) w := by
  have uI := Tryz.underlying3
  have aI := Tryz.isAgg3
  have hS : Tryz.prog.underlying 52 = some (.struct (Tryz.prog.fieldsOf 52)) := by kernel_rfl
  have hp : Tryz.prog.stoodInHeld 52 = false := by kernel_rfl
  rw [run_neq_struct, show (10000 : Nat) = 9999 + 1 from rfl, run_equalIn_agg w 9999 52 _ _ hS hp]
  simp only [Program.fieldsOf, Tryz.underlying52]
  go_simp
  by_cases h0 : a0 = b0 <;> by_cases h1 : a1 = b1 <;> by_cases h2 : a2 = b2 <;> simp [h0, h1, h2]

theorem eqlPrf_ (x y : Link) (w : World) : (binOp .eql 52 (.agg #[.int .i64 x.id, .int .i64 x.obv, .int .i64 x.rev]) (.agg #[.int .i64 y.id, .int .i64 y.obv, .int .i64 y.rev])).run Tryz.prog w = .ok (.bool (eqB x y)) w := eqlPrf _ _ _ _ _ _ w

theorem neqPrf_ (x y : Link) (w : World) : (binOp .neq 52 (.agg #[.int .i64 x.id, .int .i64 x.obv, .int .i64 x.rev]) (.agg #[.int .i64 y.id, .int .i64 y.obv, .int .i64 y.rev])).run Tryz.prog w = .ok (.bool (neB x y)) w := neqPrf _ _ _ _ _ _ w

set_option maxHeartbeats 400000 in
theorem baseProofs_ok (v u : Value) (xs ys : List Link) (w : World) (h : Links w v xs) (h' : Links w u ys) :
    Calls Tryz.prog 8 #[v, u] w fun e w' => e = .returned (.bool (decide (xs = ys))) ∧ Below w.heap.size w w' := by
  obtain ⟨A, c, rfl, h1, h2, hc⟩ := h.cells
  obtain ⟨A', c', rfl, h1', h2', hc'⟩ := h'.cells
  by_cases hne : xs.length = ys.length
  · have hne' : ((xs.length : Int) != (ys.length : Int)) = false := by simp; omega
    have Hne := Lib.hid hne; clear hne
    go_enter Tryz.func8, Tryz.ntmps8
    go_wp2
    go_loopw [5] (fun i wr => ∃ k : Nat, k ≤ xs.length ∧ i = .int .i64 k ∧ xs.take k = ys.take k ∧ Below w.heap.size w wr) (fun i _ => xs.length - (intOf i).toNat)
    case atStart => exact ⟨0, Nat.zero_le _, rfl, by simp, Below.refl _ _⟩
    case round =>
      obtain ⟨k, hk, rfl, hr, hb⟩ := hrel
      have Hr := Lib.hid hr; clear hr
      by_cases hlt : k < xs.length
      · have hlt' : k < ys.length := by have := Hne.out; omega
        obtain ⟨b, o, rfl, _, hc⟩ := hc k hlt
        obtain ⟨b', o', rfl, _, hc'⟩ := hc' k hlt'
        obtain ⟨x, hx⟩ := get_of_lt hlt
        obtain ⟨y, hy⟩ := get_of_lt hlt'
        have ⟨c0, c1, c2⟩ := hc wr hb k x hx
        have ⟨d0, d1, d2⟩ := hc' wr hb k y hy
        have Hx := Lib.hid hx; clear hx hc
        have Hy := Lib.hid hy; clear hy hc'
        have hl1 : (k : Int) < (xs.length : Int) := by omega
        have hl2 : (k : Int) < (ys.length : Int) := by omega
        have hl0 : (0 : Int) ≤ (k : Int) := by omega
        have nL := neqPrf_
        by_cases hxy : x = y
        · have hd : neB x y = false := neB_no hxy
          have Hxy := Lib.hid hxy; clear hxy
          go_wp2
          go_quiet (fail)
          go_wp2
          refine ⟨?rel, ?measure⟩
          case rel => exact ⟨k + 1, by omega, by go_num, eq_snoc Hx.out Hy.out Hr.out Hxy.out, hb.trans (below_drewN (Below.refl _ _) _)⟩
          case measure => simp [intOf]; omega
        · have hd : neB x y = true := neB_yes hxy
          go_wp2
          go_quiet (fail)
          go_wp2
          go_ret
          exact ⟨ret_bool (by simpa using ne_at Hx.out Hy.out hxy), hb.trans (below_drewN (Below.refl _ _) _)⟩
      · go_wp2
        go_ret
        exact ⟨ret_bool (by simpa using eq_end Hne.out hlt Hr.out), hb⟩
  · have hne' : ((xs.length : Int) != (ys.length : Int)) = true := by simp; omega
    have Hne := Lib.hid hne; clear hne
    go_enter Tryz.func8, Tryz.ntmps8
    go_wp2
    go_ret
    exact ⟨ret_bool (by simp; exact fun e => Hne.out (by rw [e])), Below.refl _ _⟩

end Go.Proofs.YtikfffojeakjoaaGreatDoor
/- The statement WholeProofs. No condition. -/
namespace Go.Proofs.YtikfffojeakjoaaGreatDoor
open Go.RowKit Go.Shelf Go.ChangeShapes Go.WideShapes Go.ChangeAt Go.Maps Go.Deep

section
variable {H : Type} {enc : TypeId × Value → H} {w : World} {base : Nat} {spare : Nat → Bool} {held : Bool}
set_option maxRecDepth 100000 in
theorem opens_uu {r : Reach} {b0 : Nat} {v : Value} {d : DataW H} {p : List MemPlace} (hv : Value.okWide Tryz.prog w r b0 24 v) (h : DataW.Trod enc Tryz.prog w base spare held 24 v d p) :
    ∃ x y : Int, v = .agg #[.int .u8 x, .int .u8 y] ∧ (Lit.int .u8 x).wf = true ∧ (Lit.int .u8 y).wf = true := by
  have c2 : Tryz.prog.cellsOf 24 = 2 := by kernel_rfl
  have c1 : Tryz.prog.cellsOf 5 = 1 := by kernel_rfl
  obtain ⟨cs, rfl, hsz⟩ := okWide_arr Tryz.underlying24 hv
  rw [c2] at hsz
  obtain ⟨fuel, hf⟩ := h
  obtain ⟨L, hL⟩ : ∃ L, cs = L.toArray := ⟨cs.toList, by simp⟩
  subst hL
  have hf' : DataW.trod enc Tryz.prog w base spare held fuel 24 L = some (d, p) := by simpa [Value.cells] using hf
  obtain ⟨xs, m, _, _, _, hl, hel⟩ := DataW.trod_array Tryz.underlying24 hf'
  rw [c1] at hel
  have hsz' : L.length = 2 := by simpa using hsz
  match L, hsz' with
  | [a, b], _ =>
    have h0 : DataW.trod enc Tryz.prog w base spare held m 5 [a] = xs[0]? := hel 0 (by omega)
    have h1 : DataW.trod enc Tryz.prog w base spare held m 5 [b] = xs[1]? := hel 1 (by omega)
    rw [List.getElem?_eq_getElem (by omega)] at h0 h1
    obtain ⟨x, e1, _, w1⟩ := DataW.trod_int Tryz.underlying5 h0
    obtain ⟨y, e2, _, w2⟩ := DataW.trod_int Tryz.underlying5 h1
    simp at e1 e2
    exact ⟨x, y, by rw [e1, e2], w1, w2⟩
end
theorem prtL_snoc {l : List Spec} {S : List Int} {k : Nat} {s : Spec} (h : l[k]? = some s) : prtL S (l.take (k + 1)) = prtL S (l.take k) ++ (if decide (s.id ∈ S) = true then [s] else []) := by
  unfold prtL
  rw [take_snoc' h, List.filter_append]
  congr 1
  by_cases e : s.id ∈ S <;> simp [e]
theorem prtC_snoc {C : List Pair} {S : List Int} {k : Nat} {c : Pair} (h : C[k]? = some c) : prtC S (C.take (k + 1)) = prtC S (C.take k) ++ (if (decide (c.a ∈ S) && decide (c.b ∈ S)) = true then [c] else []) := by
  unfold prtC
  rw [take_snoc' h, List.filter_append]
  congr 1
  by_cases ha : c.a ∈ S <;> by_cases hb : c.b ∈ S <;> simp [ha, hb]
theorem hasB_dec (S : List Int) (n : Int) : hasB S n = decide (n ∈ S) := by
  rw [Bool.eq_iff_iff, hasB_iff, decide_eq_true_eq]
theorem u8_nat {n : Int} (h : (Lit.int .u8 n).wf = true) : ∃ k : Nat, n = (k : Int) ∧ k ≤ 255 := by
  have e1 : IntKind.u8.min = 0 := by decide
  have e2 : IntKind.u8.max = 255 := by decide
  have h0 : IntKind.u8.min ≤ n ∧ n ≤ IntKind.u8.max := by simpa [Lit.wf] using h
  exact ⟨n.toNat, by omega, by omega⟩
set_option maxHeartbeats 16000000 in
set_option maxRecDepth 100000 in
theorem who_walk (v : Value) (l : List Spec) (cv : Value) (C : List Pair) (p q : Int) (w : World) (h : Specs w v l) (hC : Pairs w cv C) (hp : (Lit.int .u8 p).wf = true) (hq : (Lit.int .u8 q).wf = true) :
    Calls Tryz.prog 3 #[v, cv, .agg #[.int .u8 p, .int .u8 q]] w fun e w' => e = .returned (.bool true) ∧ Below w.heap.size w w' := by
  obtain ⟨mp, rfl, hmp⟩ := u8_nat hp
  obtain ⟨mq, rfl, hmq⟩ := u8_nat hq
  obtain ⟨X0, hX0, HzX0, hX, hltX0, hcX0⟩ := boxed w #[.int .u8 (mp : Int), .int .u8 (mq : Int)] 24
  have a0 := hcX0 0 _ rfl; have a1 := hcX0 1 _ rfl
  obtain ⟨A, c, rfl, _⟩ := id h
  obtain ⟨Ac, cc, rfl, _⟩ := id hC
  have Hh := Lib.hid h; have HC := Lib.hid (show Pairs w _ C from hC)
  clear hcX0 h hC hp hq
  go_enter Tryz.func3, Tryz.ntmps3
  go_wp2_with fail
  refine (supAwake_ok _).mono ?_
  rintro e w1 ⟨rfl, hb1⟩
  have hw1 := below_trans hX hb1
  have a0 := cell_later hb1 a0; have a1 := cell_later hb1 a1
  clear hX0
  by_cases h1 : l.length < 1
  · have t1 : (l.length : Int) < 1 := by omega
    clear a0 a1 h1
    go_wp2_with fail
    refine (supAwake_ok _).mono ?_
    rintro e w2 ⟨rfl, hb2⟩
    go_wp2_with fail
    go_ret
    exact ⟨rfl, below_trans hw1 hb2⟩
  have t1 : ¬ (l.length : Int) < 1 := by omega
  by_cases h2 : 8 < l.length
  · have t2 : (8 : Int) < (l.length : Int) := by omega
    clear a0 a1 h1 h2
    go_wp2_with fail
    refine (supAwake_ok _).mono ?_
    rintro e w2 ⟨rfl, hb2⟩
    go_wp2_with fail
    go_ret
    exact ⟨rfl, below_trans hw1 hb2⟩
  have t2 : ¬ (8 : Int) < (l.length : Int) := by omega
  by_cases h3 : 6 < C.length
  · have t3 : (6 : Int) < (C.length : Int) := by omega
    clear a0 a1 h1 h2 h3
    go_wp2_with fail
    refine (supAwake_ok _).mono ?_
    rintro e w2 ⟨rfl, hb2⟩
    go_wp2_with fail
    go_ret
    exact ⟨rfl, below_trans hw1 hb2⟩
  have t3 : ¬ (6 : Int) < (C.length : Int) := by omega
  have hkp : mp % l.length < l.length := Nat.mod_lt _ (by omega)
  have hkq : mq % l.length < l.length := Nat.mod_lt _ (by omega)
  obtain ⟨ka, hka⟩ : ∃ k, mp % l.length = k := ⟨_, rfl⟩
  obtain ⟨kb, hkb⟩ : ∃ k, mq % l.length = k := ⟨_, rfl⟩
  rw [hka] at hkp
  rw [hkb] at hkq
  have hmodA : (mp : Int).tmod (l.length : Int) = (ka : Int) := by rw [← hka]; rfl
  have hmodB : (mq : Int).tmod (l.length : Int) = (kb : Int) := by rw [← hkb]; rfl
  obtain ⟨sa, hsa⟩ := get_of_lt hkp
  obtain ⟨sb, hsb⟩ := get_of_lt hkq
  obtain ⟨_, _, ex, _, _, hlc⟩ := Hh.out.cells
  cases ex
  obtain ⟨bl, ol, rfl, _, hlb⟩ := hlc ka hkp
  have g0 := (hlb w1 hw1 ka sa hsa).1
  have g1 := (hlb w1 hw1 kb sb hsb).1
  have Hlb := Lib.hid hlb
  have hka1 : (ka : Int) < (l.length : Int) := by omega
  have hka0 : (0 : Int) ≤ (ka : Int) := by omega
  have hkb1 : (kb : Int) < (l.length : Int) := by omega
  have hkb0 : (0 : Int) ≤ (kb : Int) := by omega
  have hlz : ¬ (l.length : Int) = 0 := by omega
  have HB := Lib.hid (BeforeX_ok (some ⟨bl, ol, none⟩) c l _ C sa.id sb.id w1 (Hh.out.below hw1) (show Pairs w1 _ C from HC.out.below hw1))
  clear hlc hlb hsa hsb hka hkb
  go_wp2_with fail
  clear a0 a1 g0 g1 hmodA hmodB
  refine HB.out.mono ?_
  rintro e w2 ⟨u2, E, L, rfl, hi2, hR, hb2⟩
  have hw2 := below_trans hw1 hb2
  have HR := Lib.hid hR
  obtain ⟨S, hS⟩ : ∃ S, withs (whyIds L) = S := ⟨_, rfl⟩
  have HS := Lib.hid hS
  rw [hS] at hi2
  obtain ⟨Ai, ci, rfl, _⟩ := id hi2
  have Hi := Lib.hid hi2
  have hL0 := hR.ids.2.2
  clear hi2 hS HB
  by_cases hE0 : E = 0
  case neg =>
    have t : (E != 0) = true := by simpa using hE0
    have hS0 : S = [] := by rw [← HS.out, hL0 hE0]; rfl
    subst hS0
    clear hL0 hE0 hR
    go_wp2_with fail
    go_ret
    exact ⟨rfl, hw2⟩
  subst hE0
  obtain ⟨hcE, _, _⟩ := hR.ids.2.1 rfl
  have hnd := (checkE_zero hcE).2.2
  have HSm : Hid (∀ n, n ∈ S ↔ n ∈ whyIds L) := Lib.hid fun n => by rw [← HS.out]; exact withs_mem _ n
  have HSn : Hid S.Nodup := Lib.hid (by rw [← HS.out]; exact (withs_asc _).imp fun h e => by omega)
  have HPL : Hid (∀ m : List Spec, prtL S m = prtL (whyIds L) m) := Lib.hid fun m => by
    unfold prtL
    refine List.filter_congr fun s _ => decide_eq_decide.2 (HSm.out s.id)
  have HPC : Hid (∀ m : List Pair, prtC S m = prtC (whyIds L) m) := Lib.hid fun m => by
    unfold prtC
    refine List.filter_congr fun x _ => ?_
    rw [decide_eq_decide.2 (HSm.out x.a), decide_eq_decide.2 (HSm.out x.b)]
  have Hlen := Lib.hid (part_len hnd hR S HSn.out HSm.out)
  obtain ⟨iS, hiS, hzS, hkS, hbS⟩ := info_parts infoS
  obtain ⟨iQ, hiQ, hzQ, hkQ, hbQ⟩ := info_parts infoP
  clear hL0 hR hcE hnd
  go_wp2_with fail
  go_loopw [11, 12] (fun ov iv wr => ∃ (k : Nat) (R : List Spec), k ≤ l.length ∧ iv = .int .i64 k ∧ OwnS w2.heap.size wr ov R ∧ Below w2.heap.size w2 wr ∧ Hid (R = prtL S (l.take k))) (fun _ iv _ => l.length - (intOf iv).toNat)
  case atStart => exact ⟨0, [], Nat.zero_le _, rfl, own_nil _ _ _ _ _, Below.refl _ _, Lib.hid rfl⟩
  case round =>
    obtain ⟨k, R, hk, rfl, hown, hbr, HRe⟩ := hrel
    have hRl : R.length ≤ 8 := by
      rw [HRe.out]
      exact Nat.le_trans (List.length_filter_le _ _) (by rw [List.length_take]; omega)
    obtain ⟨Ao, co, rfl, _⟩ := id hown.slOf
    have hwr := below_trans hw2 hbr
    have hzr := hbr.size
    have HO := Lib.hid hown
    by_cases hlt : k < l.length
    case pos =>
      obtain ⟨x, hx⟩ := get_of_lt hlt
      obtain ⟨y0, y1, y2, y3, y4, y5, y6⟩ := Hlb.out wr hwr k x hx
      have HH := Has_ok _ S x.id wr (Hi.out.below hbr)
      have Hsn := Lib.hid (prtL_snoc (S := S) hx)
      have hk1 : (k : Int) < (l.length : Int) := by omega
      have hk0 : (0 : Int) ≤ (k : Int) := by omega
      have hhas : hasB S x.id = decide (x.id ∈ S) := hasB_dec _ _
      rw [hhas] at HH
      obtain ⟨T, hT⟩ : ∃ T, decide (x.id ∈ S) = T := ⟨_, rfl⟩
      rw [hT] at HH Hsn
      have HH' := Lib.hid HH
      clear hx hT hhas HH
      cases T
      · have HN : Hid (prtL S (l.take (k + 1)) = R) := Lib.hid (by rw [Hsn.out, ← HRe.out]; simp)
        clear hown
        go_wp2_with fail
        refine HH'.out.mono ?_
        rintro e w9 ⟨rfl, rfl⟩
        go_wp2_with fail
        refine ⟨?rel, ?measure⟩
        case rel => exact ⟨k + 1, R, by omega, by go_num, HO.out, hbr, Lib.hid HN.out.symm⟩
        case measure => first | (simp [intOf]; done) | (simp [intOf]; omega)
      · have HN : Hid (prtL S (l.take (k + 1)) = R ++ [x]) := Lib.hid (by rw [Hsn.out, ← HRe.out]; simp)
        go_wp2_with fail
        refine HH'.out.mono ?_
        rintro e w9 ⟨rfl, rfl⟩
        go_wp2_with (at_builtin; refine wpList_append1 (enc := encS) (size := 7) (B := w2.heap.size) rfl (.tmp 83) (.tmp 88) _ rfl 27 iS _ 56 Tryz.underlying22 hiS hzS hkS hbS rfl (by decide) rfl hown (x : Spec) _ rfl lenS oneS _ rfl rfl (by omega) (by omega) hzr ?_; intro v' w7 hown' hgrow hat; obtain ⟨Av, cv9, rfl, _⟩ := id hown'.slOf; obtain ⟨Rn, hRn⟩ : ∃ z, R ++ [(x : Spec)] = z := ⟨_, rfl⟩; rw [hRn] at hown' hat ⊢; have HRn := Lib.hid hRn; have HO7 := Lib.hid hown'; have Hb7 := Lib.hid (hbr.grown hgrow hzr (fun j e => (HO.out.lt j e).1)); clear hRn hown' hgrow hat)
        refine ⟨?rel, ?measure⟩
        case rel => exact ⟨k + 1, Rn, by omega, by go_num, HO7.out, Hb7.out, Lib.hid (by rw [HN.out]; exact HRn.out.symm)⟩
        case measure => first | (simp [intOf]; done) | (simp [intOf]; omega)
    have HRa : Hid (R = prtL (whyIds L) l) := Lib.hid (by have := HRe.out; rw [List.take_of_length_le (by omega), HPL.out] at this; exact this)
    obtain ⟨wp, hwp0⟩ : ∃ z, z = wr := ⟨_, rfl⟩
    subst hwp0
    clear hown
    go_wp2_with fail
    clear hlt
    go_loopw [13, 14] (fun ov iv wr => ∃ (k : Nat) (M : List Pair), k ≤ C.length ∧ iv = .int .i64 k ∧ OwnP wp.heap.size wr ov M ∧ Below wp.heap.size wp wr ∧ Hid (M = prtC S (C.take k))) (fun _ iv _ => C.length - (intOf iv).toNat)
    case atStart => exact ⟨0, [], Nat.zero_le _, rfl, own_nil _ _ _ _ _, Below.refl _ _, Lib.hid rfl⟩
    case round =>
      obtain ⟨k', M, hk', rfl, hownM, hbm, HMe⟩ := hrel
      have hMl : M.length ≤ 6 := by
        rw [HMe.out]
        exact Nat.le_trans (List.length_filter_le _ _) (by rw [List.length_take]; omega)
      obtain ⟨Am, cm, rfl, _⟩ := id hownM.slOf
      have hbm2 := below_trans hbr hbm
      have hwm := below_trans hw2 hbm2
      have hzm := hbm.size
      have HM := Lib.hid hownM
      by_cases hlt : k' < C.length
      case pos =>
        obtain ⟨x, hx⟩ := get_of_lt hlt
        obtain ⟨_, _, ex, _, _, hcc⟩ := HC.out.cells
        cases ex
        obtain ⟨bo, o, rfl, _, hcb⟩ := hcc k' hlt
        obtain ⟨y0, y1⟩ := hcb wr hwm k' x hx
        have hA := Has_ok _ S x.a wr (Hi.out.below hbm2)
        have hB := Has_ok _ S x.b wr (Hi.out.below hbm2)
        have Hsn := Lib.hid (prtC_snoc (S := S) hx)
        have hk1 : (k' : Int) < (C.length : Int) := by omega
        have hk0 : (0 : Int) ≤ (k' : Int) := by omega
        rw [hasB_dec] at hA
        rw [hasB_dec] at hB
        obtain ⟨T, hT⟩ : ∃ T, decide (x.a ∈ S) = T := ⟨_, rfl⟩
        obtain ⟨U, hU⟩ : ∃ T, decide (x.b ∈ S) = T := ⟨_, rfl⟩
        rw [hT] at hA Hsn
        rw [hU] at hB Hsn
        have HA := Lib.hid hA; have HBb := Lib.hid hB
        clear hx hT hU hA hB hcc hcb
        cases T
        · have HN : Hid (prtC S (C.take (k' + 1)) = M) := Lib.hid (by rw [Hsn.out, ← HMe.out]; simp)
          clear hownM
          go_wp2_with fail
          refine HA.out.mono ?_
          rintro e w9 ⟨rfl, rfl⟩
          go_wp2_with fail
          refine ⟨?rel, ?measure⟩
          case rel => exact ⟨k' + 1, M, by omega, by go_num, HM.out, hbm, Lib.hid HN.out.symm⟩
          case measure => first | (simp [intOf]; done) | (simp [intOf]; omega)
        cases U
        · have HN : Hid (prtC S (C.take (k' + 1)) = M) := Lib.hid (by rw [Hsn.out, ← HMe.out]; simp)
          clear hownM
          go_wp2_with fail
          refine HA.out.mono ?_
          rintro e w9 ⟨rfl, rfl⟩
          go_wp2_with fail
          refine HBb.out.mono ?_
          rintro e w9 ⟨rfl, rfl⟩
          go_wp2_with fail
          refine ⟨?rel, ?measure⟩
          case rel => exact ⟨k' + 1, M, by omega, by go_num, HM.out, hbm, Lib.hid HN.out.symm⟩
          case measure => first | (simp [intOf]; done) | (simp [intOf]; omega)
        · have HN : Hid (prtC S (C.take (k' + 1)) = M ++ [x]) := Lib.hid (by rw [Hsn.out, ← HMe.out]; simp)
          go_wp2_with fail
          refine HA.out.mono ?_
          rintro e w9 ⟨rfl, rfl⟩
          go_wp2_with fail
          refine HBb.out.mono ?_
          rintro e w9 ⟨rfl, rfl⟩
          go_wp2_with (at_builtin; refine wpList_append1 (enc := encP) (size := 2) (B := wp.heap.size) rfl (.tmp 112) (.tmp 117) _ rfl 34 iQ _ 16 Tryz.underlying23 hiQ hzQ hkQ hbQ rfl (by decide) rfl hownM (x : Pair) _ rfl lenP oneP _ rfl rfl (by omega) (by omega) hzm ?_; intro v' w7 hown' hgrow hat; obtain ⟨Av, cv9, rfl, _⟩ := id hown'.slOf; obtain ⟨Rn, hRn⟩ : ∃ z, M ++ [(x : Pair)] = z := ⟨_, rfl⟩; rw [hRn] at hown' hat ⊢; have HRn := Lib.hid hRn; have HO7 := Lib.hid hown'; have Hb7 := Lib.hid (hbm.grown hgrow hzm (fun j e => (HM.out.lt j e).1)); clear hRn hown' hgrow hat)
          refine ⟨?rel, ?measure⟩
          case rel => exact ⟨k' + 1, Rn, by omega, by go_num, HO7.out, Hb7.out, Lib.hid (by rw [HN.out]; exact HRn.out.symm)⟩
          case measure => first | (simp [intOf]; done) | (simp [intOf]; omega)
      have HMa : Hid (M = prtC (whyIds L) C) := Lib.hid (by have := HMe.out; rw [List.take_of_length_le (by omega), HPC.out] at this; exact this)
      have HW1 := Lib.hid (Why_ok (some ⟨bl, ol, none⟩) c l _ C sa.id sb.id wr (Hh.out.below hwm) (show Pairs wr _ C from HC.out.below hwm))
      clear hownM
      go_wp2_with fail
      refine HW1.out.mono ?_
      rintro e w5 ⟨u5, E5, L5, rfl, hu5, hR5, hb5⟩
      obtain ⟨rfl, rfl⟩ := hR5.uniq HR.out
      have hw5 := below_trans hwm hb5
      have Hu5 := Lib.hid (show Links w5 u5 L5 from hu5.slOf)
      have hsR : Specs w5 (.slice Ao R.length co) R := (HO.out.below (below_trans hbm hb5)).slOf
      have hsM : Pairs w5 (.slice Am M.length cm) M := (HM.out.below hb5).slOf
      have HW2 := Lib.hid (Why_ok Ao co R _ M sa.id sb.id w5 hsR hsM)
      obtain ⟨A5, c5, rfl, _⟩ := id hu5.slOf
      clear hu5 hR5 HW1 hsR hsM
      go_wp2_with fail
      refine HW2.out.mono ?_
      rintro e w6 ⟨u6, E6, L6, rfl, hu6, hR6, hb6⟩
      rw [HRa.out, HMa.out] at hR6
      obtain ⟨rfl, rfl⟩ := why_part HR.out hR6
      have hw6 := below_trans hw5 hb6
      have HB6 := Lib.hid (baseProofs_ok _ _ _ _ w6 (show Links w6 u6 L6 from hu6.slOf) (Hu5.out.below hb6))
      have hleq : ((R.length : Int) == (S.length : Int)) = true := by
        have := Hlen.out
        rw [← HRa.out] at this
        rw [this]; simp
      obtain ⟨A6, c6, rfl, _⟩ := id hu6.slOf
      clear hu6 hR6 HW2
      go_wp2_with fail
      refine HB6.out.mono ?_
      rintro e w7 ⟨rfl, hb7⟩
      go_wp2_with fail
      go_ret
      exact ⟨rfl, below_trans hw6 hb7⟩

theorem whoT_door (os : Os) (args : Array Value) : laidMetH Tryz.prog Rows.wholeProofsRow.laid ((World.doorLaid Tryz.prog 400 os).forCall (fun _ _ => 0) ⟨#[], args, []⟩).memory :=
  laidMetH_of_parts3 (fuel := 8) (laidMet_of_run' 8 (by kernel_rfl) (by kernel_rfl)) (by kernel_rfl) (by kernel_rfl)
set_option maxRecDepth 100000 in
theorem whoT_lifted (os : Os) (started : os.Started) (H : Type) (enc : TypeId × Value → H) :
    ReturnsInHanded {} Tryz.checked os 3 .any (fun w args => (Rows.wholeProofsSpec.pre enc Tryz.prog Tryz.f3 Rows.wholeProofsRow.domain false w args ∧ laidMetH Tryz.prog Rows.wholeProofsRow.laid w) ∧ sizedMet enc Tryz.prog Tryz.f3 (OpenSpec.ofChange Rows.wholeProofsSpec) false w args) (Rows.wholeProofsSpec.post enc Tryz.prog Tryz.f3 false true false false) := by
  refine returnsInHanded_of_change_and (C := Tryz.checked) (X := fun w _ => laidMetH Tryz.prog Rows.wholeProofsRow.laid w) (fun _ _ _ hh h => h.of_heap hh) (by kernel_rfl) started (by kernel_rfl) Tryz.func3
    (ChangeSpec.witness_shaped (enc := enc) (C := Tryz.checked) (os := os) (X := fun w _ => laidMetH Tryz.prog Rows.wholeProofsRow.laid w) false (World.doorLaid Tryz.prog 400 os) #[.slice none 0 0, .slice none 0 0, .agg #[.int .u8 0, .int .u8 0]] 8 rfl (World.shaped_of_RefB (by kernel_rfl) (by kernel_rfl)) (by kernel_rfl) (by kernel_rfl) (by kernel_rfl) (whoT_door os _)) ?_
  intro W base args ds gs before hval0 hW _ _ _ _
  have hval : ∀ (j : Nat) t v, Tryz.f3.params[j]? = some t → args[j]? = some v → Value.okWide Tryz.prog W .any base t v := hval0
  have hW' := hW
  obtain ⟨p, q, hA0, hV, rfl, hfz, hnd⟩ := hW
  have hA : DataW.TrodAll enc Tryz.prog W 0 (fun _ => true) true Tryz.f3.params.toList args.toList ds p := hA0
  rw [Tryz.params3] at hA hval
  obtain ⟨v0, v1, v2, d0, d1, d2, p0, p1, p2, rfl, rfl, rfl, h0, h1, h2⟩ := trodAll_three hA
  obtain ⟨rfl, rfl⟩ := trodVars_none hV
  have k0 := h0
  have lt0 : ∀ x ∈ p0, x.block < W.heap.size := by obtain ⟨m, hm⟩ := k0; exact DataW.trod_lt m _ _ _ hm
  obtain ⟨x0, hx0⟩ := opens_specs (hval 0 22 v0 rfl rfl) h0
  have k1 := h1
  have lt1 : ∀ x ∈ p1, x.block < W.heap.size := by obtain ⟨m, hm⟩ := k1; exact DataW.trod_lt m _ _ _ hm
  obtain ⟨x1, hx1, _⟩ := opens_pairs_wf (hval 1 23 v1 rfl rfl) h1
  have k2 := h2
  have lt2 : ∀ x ∈ p2, x.block < W.heap.size := by obtain ⟨m, hm⟩ := k2; exact DataW.trod_lt m _ _ _ hm
  obtain ⟨x2, y2, rfl, wa2, wb2⟩ := opens_uu (hval 2 24 v2 rfl rfl) h2
  clear hA0 hval0
  refine (who_walk v0 x0 v1 x1 x2 y2 W hx0 hx1 wa2 wb2).mono fun e W' ⟨he, bel⟩ => ?_
  subst he
  exact ⟨_, rfl, _, _, _, [], _, [], hW', trodAll_mk1 (shut_bool Tryz.underlying4 _), trodAll_mk3 (Below.trod Try.laidOut (by kernel_rfl) (of_decide_eq_true (by kernel_rfl)) k0 bel lt0) (Below.trod Try.laidOut (by kernel_rfl) (of_decide_eq_true (by kernel_rfl)) k1 bel lt1) (Below.trod Try.laidOut (by kernel_rfl) (of_decide_eq_true (by kernel_rfl)) k2 bel lt2), rfl, bel.frame _, fun h => by cases h⟩
theorem whoT_holds : Rows.WholeProofsSaid :=
  OpenClaim.holds_of_wide 3 Tryz.f3 rfl rfl rfl rfl rfl rfl rfl ⟨rfl, rfl, rfl, rfl, rfl⟩ rfl rfl rfl rfl rfl (by kernel_rfl) Tryz.func3 (by kernel_rfl)
    (of_decide_eq_true (by kernel_rfl)) (by unfold Func.isWrapper; first | (rw [if_pos (by decide +kernel)]; kernel_rfl) | (rw [if_neg (by decide +kernel)]; exact ⟨rfl, rfl⟩))
    (fun os started H enc _ => whoT_lifted os started H enc)
theorem whoT_card : Rows.WholeProofsCardSaid :=
  Claim7.holds_tied_plain_at .later [] Rows.wholeProofsCard.laidKinds true Rows.wholeProofsCard.stood.harness Rows.wholeProofsCard.stood.looks
    whoT_holds (fun _ h => by cases h) (by kernel_rfl) (fun _ h => by cases h) wholeProofs_row_tie rfl ⟨rfl, rfl⟩ (by kernel_rfl) rfl
    (fun f fn hf hfn => by
      obtain rfl : f = 3 := Option.some.inj ((show Tryz.prog.funcNamed "coinage/coinagetop.WholeProofs" = some 3 by kernel_rfl).symm.trans hf) |>.symm
      obtain rfl : fn = Tryz.f3 := (Option.some.inj (Tryz.func3.symm.trans hfn)).symm
      exact ⟨by kernel_rfl, fun j t ht => by
        rw [Tryz.params3] at ht
        have hm : t ∈ [22, 23, 24] := by simpa using Array.mem_of_getElem? ht
        have hall : ([22, 23, 24].all fun u => !Tryz.prog.wantsStandIn u) = true := by kernel_rfl
        exact (show Tryz.prog.wantsStandIn t = false by simpa using List.all_eq_true.1 hall t hm)⟩)
    (by kernel_rfl)
end Go.Proofs.YtikfffojeakjoaaGreatDoor
