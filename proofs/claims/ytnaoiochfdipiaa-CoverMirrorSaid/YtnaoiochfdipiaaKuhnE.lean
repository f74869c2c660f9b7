/- The matching as a list, the reference's single pass, plain. No program in sight, no condition. -/
import Derived.Test.YtnaoiochfdipiaaKuhnD
namespace Go.Proofs.Ytnaoiochfdipiaa
open Go.RowKit

def pairM (p : Int × Int) : Pair := ⟨p.1, p.2⟩
/-- The pairs of a map, in the order of pairs. -/
structure ListOf (m : List (Int × Int)) (ys : List Pair) : Prop where
  perm : ys.Perm (m.map pairM)
  asc : ys.Pairwise ltP
theorem listOf_byPair {m : List (Int × Int)} (hn : (m.map Prod.fst).Nodup) {zs ys : List Pair} (h1 : zs.Perm (m.map pairM)) (h : ByPair zs ys) : ListOf m ys := by
  refine ⟨h.1.trans h1, ?_⟩
  have hnd : ys.Nodup := by
    refine (h.1.trans h1).nodup_iff.2 ?_
    refine nodup_map _ (List.Pairwise.of_map Prod.fst (fun a b h e => h (by rw [e])) hn) fun p hp q hq e => ?_
    simp only [pairM, Pair.mk.injEq] at e
    exact Prod.ext e.1 e.2
  refine (h.2.and hnd).imp fun {a b} hab => ?_
  obtain ⟨h2, h3⟩ := hab
  unfold ltP at *
  by_cases e1 : a.a = b.a
  · by_cases e2 : a.b = b.b
    · exact absurd (by cases a; cases b; simp_all) h3
    · omega
  · omega
theorem ListOf.unique {m : List (Int × Int)} {ys zs : List Pair} (h : ListOf m ys) (k : ListOf m zs) : ys = zs :=
  ord_unique ltP_asym h.asc k.asc fun n => by rw [h.perm.mem_iff, k.perm.mem_iff]
theorem ListOf.len {m : List (Int × Int)} {ys : List Pair} (h : ListOf m ys) : ys.length = m.length := by rw [h.perm.length_eq, List.length_map]
theorem ListOf.mem {m : List (Int × Int)} {ys : List Pair} (h : ListOf m ys) (hn : (m.map Prod.fst).Nodup) {p : Pair} : p ∈ ys ↔ lookM m p.a = some p.b := by
  rw [h.perm.mem_iff, List.mem_map, lookM_mem hn]
  constructor
  · rintro ⟨q, hq, rfl⟩; exact hq
  · intro hq; exact ⟨_, hq, rfl⟩
theorem ListOf.isMat {g : Graph} (hg : graphB g = true) {s : St} (hG : Good g s) {ys : List Pair} (h : ListOf s.obv ys) : IsMat g ys := by
  refine ⟨fun p hp => ?_, ?_, ?_⟩
  · have h1 := (h.mem hG.nodO).1 hp
    exact (nbr_mem hg).1 (hG.mate.link _ _ (hG.mate.fwd _ _ h1))
  · rw [List.pairwise_map]
    refine h.asc.imp_of_mem fun {a b} ha hb hab => ?_
    rcases hab with hab | ⟨e1, e2⟩
    · exact hab
    · have h1 := (h.mem hG.nodO).1 ha
      have h2 := (h.mem hG.nodO).1 hb
      rw [e1, h2] at h1
      have := Option.some.inj h1
      omega
  · refine nodup_map _ ?_ fun p hp q hq e => ?_
    · exact h.asc.imp fun hab e => by subst e; exact ltP_asym hab hab
    · have h1 := hG.mate.fwd _ _ ((h.mem hG.nodO).1 hp)
      have h2 := hG.mate.fwd _ _ ((h.mem hG.nodO).1 hq)
      rw [e, h2] at h1
      cases p; cases q
      simp_all
theorem Great.opt {g : Graph} (hg : graphB g = true) {s : St} (h : Great g s) {ys : List Pair} (hy : ListOf s.obv ys) : Opt g s.rev.length := by
  obtain ⟨F, h1, h2⟩ := h.cut
  exact ⟨ys, coverL g s.obv F, hy.isMat hg h.good, coverL_cov hg h.good.mate h1 h2, by rw [hy.len, h.good.len], coverL_len hg h.good.mate h.good.nodR h1⟩
/-- The pairs, sorted. -/
def sortM (m : List (Int × Int)) : List Pair := (m.map pairM).mergeSort fun x y => decide (¬ ltP y x)
theorem sortM_of {m : List (Int × Int)} (hn : (m.map Prod.fst).Nodup) : ListOf m (sortM m) := by
  refine listOf_byPair hn (List.Perm.refl _) ⟨List.mergeSort_perm _ _, ?_⟩
  refine (List.pairwise_mergeSort (le := fun x y : Pair => decide (¬ ltP y x)) (fun a b c h1 h2 => ?_) (fun a b => ?_) _).imp fun h => by simpa using h
  · simp only [decide_eq_true_eq] at *
    unfold ltP at *
    omega
  · simp only [Bool.or_eq_true, decide_eq_true_eq]
    unfold ltP
    omega

/-! ### The reference: each obverse once -/
def passF (N : Int → List Int) (n : Nat) : List Int → St → Nat → Nat × St
  | [], s, k => (k, s)
  | o :: os, s, k => match augF N n o ⟨s.obv, s.rev, []⟩ with
    | (true, s') => passF N n os s' (k + 1)
    | (false, s') => passF N n os s' k
theorem passF_great {g : Graph} (hg : graphB g = true) {n : Nat} (hn : g.rev.length < n) : ∀ (os : List Int) (s : St) (k : Nat) (dn : List Int) (F : Int → Bool), dn ++ os = g.obv → Good g s → (∀ a, (lookM s.obv a).isSome = true → a ∈ dn) →
    Closed (nbr g) s.rev (fun r => F r = true) → (∀ o ∈ dn, lookM s.obv o = none → ∀ r ∈ nbr g o, F r = true) → k = s.rev.length →
    Great g (passF (nbr g) n os s k).2 ∧ (passF (nbr g) n os s k).1 = (passF (nbr g) n os s k).2.rev.length
  | [], s, k, dn, F, hd, hG, hm, hC, hF, hk => by
    rw [List.append_nil] at hd
    subst hd
    exact ⟨⟨hG, F, hC, hF⟩, hk⟩
  | o :: os, s, k, dn, F, hd, hG, hm, hC, hF, hk => by
    have hd' : (dn ++ [o]) ++ os = g.obv := by simpa using hd
    have hok := (graphB_iff g).1 hg
    have hnd : g.obv.Nodup := (ascB_asc hok.ao).imp fun h e => by omega
    have hno : o ∉ dn := fun h => by
      rw [← hd, List.nodup_append] at hnd
      exact hnd.2.2 o h o (by simp) rfl
    have hf : lookM s.obv o = none := by
      cases hl : lookM s.obv o with
      | none => rfl
      | some x => exact absurd (hm o (by rw [hl]; rfl)) hno
    rw [passF]
    cases hq : augF (nbr g) n o ⟨s.obv, s.rev, []⟩ with
    | mk b s2 =>
      cases b
      · simp only
        have hFl := augF_fail (nbr_rev hg) n o _ _ hq
        have k1' : s2.rev = s.rev := hFl.rev
        have k2' : s2.obv = s.obv := hFl.obv
        have hG2 : Good g s2 := by
          have := hG.seen s2.seen
          rw [← k1', ← k2'] at this
          exact this
        obtain ⟨A, B⟩ := hFl.all (Nat.lt_of_le_of_lt (List.length_filter_le _ _) hn)
        refine passF_great hg hn os s2 k (dn ++ [o]) (fun r => F r || decide (r ∈ s2.seen)) hd' hG2 (fun a ha => ?_) (fun r hr => ?_) (fun a ha hf' r hr => ?_) (by rw [k1']; exact hk)
        · rw [k2'] at ha
          exact List.mem_append_left _ (hm a ha)
        · rw [k1']
          simp only [Bool.or_eq_true, decide_eq_true_eq] at hr ⊢
          rcases hr with hr | hr
          · obtain ⟨o', e1, e2⟩ := hC r hr
            exact ⟨o', e1, fun x hx => .inl (e2 x hx)⟩
          · rcases B r hr with hr' | ⟨o', e1, e2⟩
            · cases hr'
            · exact ⟨o', e1, fun x hx => .inr (e2 x hx)⟩
        · rw [k2'] at hf'
          simp only [Bool.or_eq_true, decide_eq_true_eq]
          rcases List.mem_append.1 ha with ha | ha
          · exact .inl (hF a ha hf' r hr)
          · simp at ha
            subst ha
            exact .inr (A r hr)
      · simp only
        obtain ⟨hG', hD⟩ := aug_good hg hG hf hq
        have hkeep := (augF_closed (N := nbr g) (F := fun r => F r = true) n o ⟨s.obv, s.rev, []⟩ hC).2 s2 hq
        refine passF_great hg hn os s2 (k + 1) (dn ++ [o]) F hd' hG' (fun a ha => ?_) (fun r hr => ?_) (fun a ha hf' r hr => ?_) (by rw [hD.len, hk])
        · by_cases e : a = o
          · rw [e]; simp
          · rw [hD.dom a e] at ha
            exact List.mem_append_left _ (hm a ha)
        · obtain ⟨o', e1, e2⟩ := hC r hr
          exact ⟨o', by rw [hkeep r hr]; exact e1, e2⟩
        · have hne : a ≠ o := fun e => by
            obtain ⟨r', _, h2, _⟩ := hD.new
            rw [e, h2] at hf'
            cases hf'
          rcases List.mem_append.1 ha with ha | ha
          · have h3 := hD.dom a hne
            rw [hf'] at h3
            have h4 : lookM s.obv a = none := by
              cases hl : lookM s.obv a with
              | none => rfl
              | some x => rw [show (⟨s.obv, s.rev, []⟩ : St).obv = s.obv from rfl, hl] at h3; cases h3
            exact hF a ha h4 r hr
          · simp at ha
            exact absurd ha hne
theorem pass_opt {g : Graph} (hg : graphB g = true) {n : Nat} (hn : g.rev.length < n) : Opt g (passF (nbr g) n g.obv ⟨[], [], []⟩ 0).1 := by
  obtain ⟨h1, h2⟩ := passF_great hg hn g.obv ⟨[], [], []⟩ 0 [] (fun _ => false) rfl (good_empty g) (fun a h => by simp [lookM] at h) (fun r h => by simp at h) (by simp) rfl
  rw [h2]
  exact h1.opt hg (sortM_of h1.good.nodO)
end Go.Proofs.Ytnaoiochfdipiaa
