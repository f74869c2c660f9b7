/- What JoiningFull adds, plain. No program in sight, no condition. -/
import Derived.Test.YtcpobcfncmcakaaStepP
import Derived.Test.YtcpobcfncmcakaaAwkT
namespace Go.Proofs.Ytcpobcfncmcakaa
open Go.RowKit Go.Maps

theorem add_of {l : List Spec} {s : Spec} (h : ofE (l ++ [s]) = 0) : addE l s = 0 := by
  obtain ⟨_, h2, h3⟩ := checkE_zero (ofE_zero h).1
  refine addE_0 ?_ ?_ h
  · exact List.all_eq_true.1 h2 s (by simp)
  · rw [List.map_append, List.nodup_append] at h3
    exact fun hm => h3.2.2 _ hm s.id (by simp) rfl
/-- The coins that are added. -/
def coinF (same : Bool) (i : Int) : Spec := coinS i (if same then 1 else i) 1
def coinsF (same : Bool) (k : Nat) : List Spec := (List.range k).map fun (i : Nat) => coinF same ((i : Int) + 1)
def mostF (same : Bool) : Nat := if same then 64 else 32
theorem coinsF_snoc (same : Bool) (k : Nat) : coinsF same (k + 1) = coinsF same k ++ [coinF same ((k : Int) + 1)] := by
  rw [coinsF, List.range_succ, List.map_append]; rfl
theorem coinsF_len (same : Bool) (k : Nat) : (coinsF same k).length = k := by rw [coinsF, List.length_map, List.length_range]
theorem coinsF_take (same : Bool) {j k : Nat} (h : j ≤ k) : (coinsF same k).take j = coinsF same j := by
  rw [coinsF, ← List.map_take, List.take_range, Nat.min_eq_left h]; rfl
theorem coinsF_get (same : Bool) {j k : Nat} (h : j < k) : (coinsF same k)[j]? = some (coinF same ((j : Int) + 1)) := by
  rw [coinsF, List.getElem?_map, List.getElem?_range h]; rfl
set_option maxRecDepth 100000 in
theorem coinsF_of (same : Bool) : ofE (coinsF same (mostF same)) = 0 := by
  cases same <;> decide +kernel
theorem coinsF_ofK (same : Bool) {k : Nat} (h : k ≤ mostF same) : ofE (coinsF same k) = 0 := by
  rw [← coinsF_take same h]
  exact of_take (coinsF_of same) k
theorem addF_E (same : Bool) {k : Nat} (h : k < mostF same) : addE (coinsF same k) (coinF same ((k : Int) + 1)) = 0 := by
  refine add_of ?_
  rw [← coinsF_snoc]
  exact coinsF_ofK same h
set_option maxRecDepth 100000 in
theorem pickF_no (same : Bool) : ∀ k, k < mostF same → (apartG (coinF same ((k : Int) + 1)) (growL (coinsF same k)) && thereG (coinF same ((k : Int) + 1)) (growL (coinsF same k))) = false := by
  cases same <;> decide +kernel
theorem addF_B (same : Bool) {k : Nat} (h : k < mostF same) : addB (coinsF same k) (coinF same ((k : Int) + 1)) = false := by
  rw [addB, pickF_no same k h, Bool.and_false]
theorem addF_L (same : Bool) {k : Nat} (h : k < mostF same) : addL (coinsF same k) (coinF same ((k : Int) + 1)) = coinsF same (k + 1) := by
  rw [addL, if_pos (addF_E same h), coinsF_snoc]
set_option maxRecDepth 100000 in
theorem countF (same : Bool) : (growL (coinsF same (mostF same))).count = 1 := by
  cases same <;> decide +kernel
set_option maxRecDepth 100000 in
theorem countF' (same : Bool) : (growL (coinsF same (mostF same - 1))).count = 1 := by
  cases same <;> decide +kernel
theorem specF (n : Nat) (h : n < 256) : specB (coinS 1000 (100 + (n : Int)) 1) = true := by
  have h1 : (1 : Int) ≤ 100 + (n : Int) := by omega
  have h2 : 100 + (n : Int) ≤ 999 := by omega
  simp [specB, inB, coinS, h1, h2]
theorem idsF (same : Bool) (k : Nat) : (coinsF same k).map Spec.id = (List.range k).map fun (i : Nat) => (i : Int) + 1 := by
  rw [coinsF, List.map_map]; rfl
theorem fresh_id (same : Bool) {k : Nat} (h : k ≤ 64) : (1000 : Int) ∉ (coinsF same k).map Spec.id := by
  rw [idsF]
  intro hm
  obtain ⟨i, hi, e⟩ := List.mem_map.1 hm
  have := List.mem_range.1 hi
  omega
theorem mostF_le (same : Bool) : mostF same ≤ 64 ∧ 1 ≤ mostF same := by cases same <;> decide
/-- Full: no other one. -/
theorem fullF (same : Bool) (n : Nat) (h : n < 256) : addE (coinsF same (mostF same)) (coinS 1000 (100 + (n : Int)) 1) = 6 := by
  refine addE_6 (specF n h) (fresh_id same (mostF_le same).1) fun h0 => ?_
  obtain ⟨h1, h2⟩ := ofE_zero h0
  cases same
  · have g2 : ¬ 32 < (withs (((coinsF false 32 ++ [coinS 1000 (100 + (n : Int)) 1]).map linkOf).map Link.obv)).length := by
      unfold full madeG at h2
      rw [Bool.or_eq_false_iff, decide_eq_false_iff_not, decide_eq_false_iff_not] at h2
      exact h2.1
    have e : ((coinsF false 32 ++ [coinS 1000 (100 + (n : Int)) 1]).map linkOf).map Link.obv = ((List.range 32).map fun (i : Nat) => (i : Int) + 1) ++ [100 + (n : Int)] := by
      rw [List.map_append, List.map_append, coinsF, List.map_map, List.map_map]; rfl
    rw [e] at g2
    have hd : (((List.range 32).map fun (i : Nat) => (i : Int) + 1) ++ [100 + (n : Int)]).Nodup := by
      rw [List.nodup_append]
      refine ⟨by decide, by simp, fun a ha b hb e => ?_⟩
      obtain ⟨i, hi, rfl⟩ := List.mem_map.1 ha
      have := List.mem_range.1 hi
      rw [List.mem_singleton] at hb
      omega
    have := nodup_len hd (fun x hx => (withs_mem _ x).2 hx)
    simp at this
    omega
  · have := (checkE_zero h1).1
    rw [List.length_append, coinsF_len] at this
    simp [mostF] at this
theorem dupF (same : Bool) : addE (coinsF same (mostF same)) (coinS 1 1 1) = 8 := by
  refine addE_8 (by decide) ?_
  rw [idsF]
  have := (mostF_le same).2
  exact List.mem_map.2 ⟨0, List.mem_range.2 (by omega), rfl⟩
theorem withs_le {l k : List Int} (h : ∀ x ∈ l, x ∈ k) : (withs l).length ≤ k.length := nodup_len ((withs_asc l).imp fun h e => by omega) fun x hx => h x ((withs_mem l x).1 hx)
/-- One back: one more goes in. -/
theorem lastF (same : Bool) (n : Nat) (h : n < 256) : addE (coinsF same (mostF same - 1)) (coinS 1000 (100 + (n : Int)) 1) = 0 := by
  have hm := mostF_le same
  have hk : mostF same - 1 ≤ mostF same := by omega
  obtain ⟨h1, h2, h3⟩ := checkE_zero (ofE_zero (coinsF_ofK same hk)).1
  refine addE_0 (specF n h) (fresh_id same (by omega)) ?_
  have hc : checkE (coinsF same (mostF same - 1) ++ [coinS 1000 (100 + (n : Int)) 1]) = 0 := by
    refine checkE_ok (by rw [List.length_append, coinsF_len]; simp; omega) ?_ ?_
    · rw [List.all_append, h2, Bool.true_and]
      simp [specF n h]
    · rw [List.map_append, List.nodup_append]
      refine ⟨h3, by simp, fun a ha b hb e => ?_⟩
      simp only [List.map_cons, List.map_nil, List.mem_singleton] at hb
      subst hb
      exact fresh_id same (by omega) (e ▸ ha)
  rw [ofE, if_pos hc, if_neg]
  unfold full madeG
  rw [Bool.or_eq_true, decide_eq_true_eq, decide_eq_true_eq]
  have r1 : (withs (((coinsF same (mostF same - 1) ++ [coinS 1000 (100 + (n : Int)) 1]).map linkOf).map Link.rev)).length ≤ [(1 : Int)].length := withs_le fun x hx => by
    obtain ⟨y, hy, rfl⟩ := List.mem_map.1 hx
    obtain ⟨s, hs, rfl⟩ := List.mem_map.1 hy
    rcases List.mem_append.1 hs with hs | hs
    · obtain ⟨i, _, rfl⟩ := List.mem_map.1 hs
      exact List.mem_singleton.2 rfl
    · rw [List.mem_singleton] at hs; subst hs
      exact List.mem_singleton.2 rfl
  have r2 : (withs (((coinsF same (mostF same - 1) ++ [coinS 1000 (100 + (n : Int)) 1]).map linkOf).map Link.obv)).length ≤ 32 := by
    cases same
    · refine Nat.le_trans (withs_le (k := ((coinsF false (mostF false - 1) ++ [coinS 1000 (100 + (n : Int)) 1]).map linkOf).map Link.obv) fun x hx => hx) ?_
      simp only [List.length_map, List.length_append, coinsF_len, List.length_singleton]
      simp [mostF]
    · refine Nat.le_trans (withs_le (k := [1, 100 + (n : Int)]) fun x hx => ?_) (by simp)
      obtain ⟨y, hy, rfl⟩ := List.mem_map.1 hx
      obtain ⟨s, hs, rfl⟩ := List.mem_map.1 hy
      rcases List.mem_append.1 hs with hs | hs
      · obtain ⟨i, _, rfl⟩ := List.mem_map.1 hs
        simp [coinF, linkOf, coinS]
      · rw [List.mem_singleton] at hs; subst hs
        simp [linkOf, coinS]
  exact fun hh => hh.elim (fun h => absurd (Nat.lt_of_lt_of_le h r2) (by omega)) (fun h => absurd (Nat.lt_of_lt_of_le h r1) (by simp))
theorem lastF_count (same : Bool) (n : Nat) : (growL (coinsF same (mostF same - 1) ++ [coinS 1000 (100 + (n : Int)) 1])).count = 1 := by
  obtain ⟨l, hl⟩ : ∃ l, coinsF same (mostF same - 1) = l := ⟨_, rfl⟩
  have hc := countF' same
  have hm : 1 ≤ mostF same - 1 := by cases same <;> decide
  have hmem : ∀ x ∈ l, x.obv ≠ 100 + (n : Int) ∧ x.rev = 1 := fun x hx => by
    rw [← hl] at hx
    obtain ⟨i, hi, rfl⟩ := List.mem_map.1 hx
    have hi := List.mem_range.1 hi
    have := mostF_le same
    refine ⟨?_, rfl⟩
    cases same <;> simp [coinF, coinS] <;> omega
  have h0 : ∃ x, x ∈ l := ⟨_, by rw [← hl]; exact List.mem_of_getElem? (coinsF_get same hm)⟩
  rw [hl] at hc ⊢
  have hI := ninv_list l
  have hA : (lookM (growL l).m (dA (coinS 1000 (100 + (n : Int)) 1))).isSome = false := by
    rw [Bool.eq_false_iff]
    intro h
    obtain ⟨e, he, h⟩ := (hI.keys _).1 h
    obtain ⟨x, hx, rfl⟩ := List.mem_map.1 he
    rcases h with h | h
    · exact (hmem x hx).1 (congrArg Die.num h)
    · exact dA_ne _ _ h.symm
  obtain ⟨x, hx⟩ := h0
  have hB : (lookM (growL l).m (dB (coinS 1000 (100 + (n : Int)) 1))).isSome = true := by
    refine (hI.keys _).2 ⟨_, List.mem_map.2 ⟨x, hx, rfl⟩, .inr ?_⟩
    simp [dB, (hmem x hx).2, coinS]
  have hB2 : (lookM (knowG (dA (coinS 1000 (100 + (n : Int)) 1)) (growL l)).m (dB (coinS 1000 (100 + (n : Int)) 1))).isSome = true := by
    rw [knowG, if_neg (by rw [hA]; simp)]
    simp only
    rw [lookM_putM, if_neg (dA_ne _ _)]
    exact hB
  have hap : apartG (coinS 1000 (100 + (n : Int)) 1) (growL l) = true := by
    refine ((hI.enter _).2.1).2 fun hj => ?_
    have := (hI.keys _).2 hj.1
    rw [hA] at this
    cases this
  have := (apart_yes hI _ hap).1
  rw [growL_snoc]
  rw [hA, hB2] at this
  simp at this
  omega
end Go.Proofs.Ytcpobcfncmcakaa
