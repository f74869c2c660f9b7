/- How the number of components changes with a specimen, plain. No program in sight, no condition. -/
import Derived.Test.YtikfffojeakjoaaGreatDoorGroD
import Derived.Test.YtikfffojeakjoaaGreatDoorTraA
import Derived.Test.YtikfffojeakjoaaGreatDoorCompP
namespace Go.Proofs.YtikfffojeakjoaaGreatDoor
open Go.RowKit Go.Maps

theorem NInv.one {E : List (Die × Die)} {g : Gr} (h : NInv E g) {d : Die} (hd : EndE E d) : 1 ≤ g.count := by
  obtain ⟨n, hn⟩ := Option.isSome_iff_exists.1 ((h.keys d).2 hd)
  have hr := h.rng d n hn
  rw [h.cnt, dcount]
  have : 0 < (List.range g.named).countP fun (i : Nat) => decide ((i : Int) ∈ g.m.map Prod.snd) := by
    rw [List.countP_pos_iff]
    refine ⟨n.toNat, List.mem_range.2 (by omega), ?_⟩
    have e : (n.toNat : Int) = n := by omega
    rw [e]
    simp only [decide_eq_true_eq]
    exact List.mem_map.2 ⟨_, lookM_some hn, rfl⟩
  omega
theorem know_count (d : Die) (g : Gr) : (knowG d g).count = g.count + if (lookM g.m d).isSome = true then 0 else 1 := by
  unfold knowG
  split <;> rfl
theorem apart_no {E : List (Die × Die)} {g : Gr} (h : NInv E g) (s : Spec) (ha : apartG s g = false) : (enterG s g).count = g.count := by
  obtain ⟨_, h2, _⟩ := h.enter s
  have hJ : JoinE E (dA s) (dB s) := by
    refine Classical.byContradiction fun hn => ?_
    rw [h2.2 hn] at ha
    cases ha
  have hft : fromG s g = toG s g := by simpa [apartG] using ha
  have ka := (h.keys (dA s)).2 hJ.1
  have kb := (h.keys (dB s)).2 hJ.2.1
  have e1 : knowG (dA s) g = g := by rw [knowG, if_pos ka]
  rw [enterG, if_pos hft, bothG, e1, knowG, if_pos kb]
theorem apart_yes {E : List (Die × Die)} {g : Gr} (h : NInv E g) (s : Spec) (ha : apartG s g = true) :
    (enterG s g).count + 1 = g.count + (if (lookM g.m (dA s)).isSome = true then 0 else 1) + (if (lookM (knowG (dA s) g).m (dB s)).isSome = true then 0 else 1) ∧ thereG s g = ((lookM g.m (dA s)).isSome && (lookM (knowG (dA s) g).m (dB s)).isSome) := by
  have hft : fromG s g ≠ toG s g := by simpa [apartG] using ha
  have hp := h.pos s hft
  have e1 : (bothG s g).count = g.count + (if (lookM g.m (dA s)).isSome = true then 0 else 1) + (if (lookM (knowG (dA s) g).m (dB s)).isSome = true then 0 else 1) := by
    rw [bothG, know_count, know_count]
  refine ⟨?_, ?_⟩
  · rw [enterG, if_neg hft]
    simp only
    omega
  · have : (fromG s g == toG s g) = false := by simpa using hft
    rw [thereG, this, Bool.false_or]
theorem step_diff {E : List (Die × Die)} {g : Gr} (h : NInv E g) (s : Spec) :
    -1 ≤ ((enterG s g).count : Int) - g.count ∧ ((enterG s g).count : Int) - g.count ≤ 1 ∧ (((enterG s g).count : Int) - g.count = -1 ↔ pickJ (apartG s g) (thereG s g) = true) ∧ 1 ≤ (enterG s g).count := by
  have h1 := (h.enter s).1.one (d := dA s) (endE_snoc.2 (.inr (.inl rfl)))
  cases ha : apartG s g
  · have := apart_no h s ha
    refine ⟨by omega, by omega, ⟨fun hh => by omega, fun hh => by simp [pickJ] at hh⟩, h1⟩
  · obtain ⟨h2, h3⟩ := apart_yes h s ha
    rw [h3]
    cases hA : (lookM g.m (dA s)).isSome <;> cases hB : (lookM (knowG (dA s) g).m (dB s)).isSome <;> rw [hA, hB] at h2 <;> simp [pickJ] at h2 ⊢ <;> omega
/-- The numbers of components, by their number of specimens. -/
def cntL (l : List Spec) (k : Nat) : Int := ((growL (l.take k)).count : Int)
theorem cntL_zero (l : List Spec) : cntL l 0 = 0 := rfl
theorem step_list {l : List Spec} {k : Nat} {s : Spec} (hs : l[k]? = some s) :
    -1 ≤ cntL l (k + 1) - cntL l k ∧ cntL l (k + 1) - cntL l k ≤ 1 ∧ (cntL l (k + 1) - cntL l k = -1 ↔ pickJ (apartG s (growL (l.take k))) (thereG s (growL (l.take k))) = true) ∧ 1 ≤ cntL l (k + 1) := by
  have h := step_diff (ninv_list (l.take k)) s
  rw [← growL_snoc, ← take_snoc' hs] at h
  unfold cntL
  exact ⟨h.1, h.2.1, h.2.2.1, by have := h.2.2.2; omega⟩
theorem histT_get (l : List Spec) {k n : Nat} (h : k < n) : (histT l n)[k]? = some (cntL l (k + 1)) := by
  rw [histT, List.getElem?_map, List.getElem?_range h]; rfl
theorem histT_len (l : List Spec) (n : Nat) : (histT l n).length = n := by rw [histT, List.length_map, List.length_range]
theorem choT_pre (pick : Bool → Bool → Bool) (l : List Spec) : ∀ (n k : Nat), k ≤ n → choT pick l k <+: choT pick l n
  | 0, k, h => by rw [show k = 0 by omega]; exact List.prefix_refl _
  | n + 1, k, h => by
    by_cases e : k = n + 1
    · rw [e]; exact List.prefix_refl _
    · refine (choT_pre pick l n k (by omega)).trans ?_
      rw [choT, choT, List.range_succ, List.flatMap_append]
      exact List.prefix_append _ _
theorem choT_get (pick : Bool → Bool → Bool) {l : List Spec} {k n : Nat} {s : Spec} (hs : l[k]? = some s) (hn : k < n) (hp : pick (apartG s (growL (l.take k))) (thereG s (growL (l.take k))) = true) :
    (choT pick l n)[(choT pick l k).length]? = some s.id := by
  have h1 := choT_pre pick l n (k + 1) hn
  rw [choT_snoc pick hs, if_pos hp] at h1
  obtain ⟨r, hr⟩ := h1
  rw [← hr, List.append_assoc, List.getElem?_append_right (Nat.le_refl _)]
  simp
end Go.Proofs.YtikfffojeakjoaaGreatDoor
/- A tracker that is offered specimens, plain. No program in sight, no condition. -/
namespace Go.Proofs.YtikfffojeakjoaaGreatDoor
open Go.RowKit Go.Maps

/-- What a tracker has after it was offered the first specimens. -/
def trkL (l : List Spec) (k : Nat) : List Spec := (l.take k).foldl addL []
theorem trkL_snoc {l : List Spec} {k : Nat} {s : Spec} (hs : l[k]? = some s) : trkL l (k + 1) = addL (trkL l k) s := by
  rw [trkL, take_snoc' hs, List.foldl_append]; rfl
theorem addL_pre (t : List Spec) (s : Spec) : t <+: addL t s := by
  rw [addL]
  split
  · exact List.prefix_append _ _
  · exact List.prefix_refl _
theorem trkL_pre (l : List Spec) : ∀ (n k : Nat), k ≤ n → trkL l k <+: trkL l n
  | 0, k, h => by rw [show k = 0 by omega]; exact List.prefix_refl _
  | n + 1, k, h => by
    by_cases e : k = n + 1
    · rw [e]; exact List.prefix_refl _
    · refine (trkL_pre l n k (by omega)).trans ?_
      cases hs : l[n]? with
      | none =>
        have h1 : l.length ≤ n := List.getElem?_eq_none_iff.1 hs
        rw [trkL, trkL, List.take_of_length_le h1, List.take_of_length_le (by omega)]
        exact List.prefix_refl _
      | some s => rw [trkL_snoc hs]; exact addL_pre _ _
theorem trkL_more {l : List Spec} {n k : Nat} (h : k ≤ n) : ∃ x, trkL l n = trkL l k ++ x := by
  obtain ⟨x, hx⟩ := trkL_pre l n k h
  exact ⟨x, hx.symm⟩
theorem add_len (t : List Spec) (s : Spec) : (addE t s = 0 ∧ (addL t s).length = t.length + 1) ∨ (addE t s ≠ 0 ∧ addL t s = t) := by
  by_cases h : addE t s = 0
  · refine .inl ⟨h, ?_⟩
    rw [addL, if_pos h]; simp
  · exact .inr ⟨h, (add_no h).2⟩
theorem below_touch1 {w a b : World} {q : Nat} (h : Below w.heap.size w a) (ht : Touch a b [q]) (hq : w.heap.size ≤ q) : Below w.heap.size w b := ((touch_below h [q]).trans ht).below (by simpa using hq) (Nat.le_refl _)
end Go.Proofs.YtikfffojeakjoaaGreatDoor
/- The forest of a list has as many specimens as dies less components; the latest specimen of a path: plain. No program in sight, no condition. -/
namespace Go.Proofs.YtikfffojeakjoaaGreatDoor
open Go.RowKit

theorem know_len (d : Die) (g : Gr) : (knowG d g).m.length = g.m.length + if (lookM g.m d).isSome = true then 0 else 1 := by
  unfold knowG
  cases hl : lookM g.m d with
  | some y => simp
  | none => simp [putM_new hl]
theorem forest_count (l : List Spec) : (forL l).length + (growL l).count = (growL l).m.length := by
  have : ∀ k, k ≤ l.length → (forL (l.take k)).length + (growL (l.take k)).count = (growL (l.take k)).m.length := by
    intro k
    induction k with
    | zero => intro _; rfl
    | succ k ih =>
      intro hk
      obtain ⟨s, hs⟩ := get_of_lt (show k < l.length by omega)
      have h0 := ih (by omega)
      have hI := ninv_list (l.take k)
      have h2 := (hI.enter s).2.1
      rw [take_snoc' hs, forL_snoc, growL_snoc]
      cases ha : apartG s (growL (l.take k))
      · have hJ : joinB (edgesS (l.take k)) (dA s) (dB s) = true := joinB_iff.2 (Classical.byContradiction fun hn => by rw [h2.2 hn] at ha; cases ha)
        have hj := joinB_iff.1 hJ
        have ka := (hI.keys (dA s)).2 hj.1
        have kb := (hI.keys (dB s)).2 hj.2.1
        have hft : fromG s (growL (l.take k)) = toG s (growL (l.take k)) := by simpa [apartG] using ha
        have e1 : knowG (dA s) (growL (l.take k)) = growL (l.take k) := by rw [knowG, if_pos ka]
        have e2 : enterG s (growL (l.take k)) = growL (l.take k) := by rw [enterG, if_pos hft, bothG, e1, knowG, if_pos kb]
        rw [if_pos hJ, List.append_nil, e2]
        exact h0
      · have hJ : joinB (edgesS (l.take k)) (dA s) (dB s) = false := joinB_no.2 (h2.1 ha)
        have hft : fromG s (growL (l.take k)) ≠ toG s (growL (l.take k)) := by simpa [apartG] using ha
        have e1 := (apart_yes hI s ha).1
        have e2 : (enterG s (growL (l.take k))).m.length = (growL (l.take k)).m.length + (if (lookM (growL (l.take k)).m (dA s)).isSome = true then 0 else 1) + (if (lookM (knowG (dA s) (growL (l.take k))).m (dB s)).isSome = true then 0 else 1) := by
          rw [enterG, if_neg hft]
          simp only [turnM, List.length_map]
          rw [bothG, know_len, know_len]
        rw [if_neg (by simp [hJ]), List.length_append, e2, List.length_singleton]
        omega
  have := this l.length (Nat.le_refl _)
  rwa [List.take_length] at this
theorem mem_dies {l : List Spec} (h : ofE l = 0) (d : Die) : d ∈ diesG (ofG l) ↔ EndE (edgesS l) d := by
  rw [dies_end (of_valid h)]
  constructor
  · rintro ⟨e, he, h1⟩; exact ⟨e, (edges_of h e).1 he, h1⟩
  · rintro ⟨e, he, h1⟩; exact ⟨e, (edges_of h e).2 he, h1⟩
theorem dies_count {l : List Spec} (h : ofE l = 0) : (growL l).m.length = (diesG (ofG l)).length := by
  have hI := ninv_list l
  have hk : ∀ d, d ∈ (growL l).m.map Prod.fst ↔ d ∈ diesG (ofG l) := fun d => by
    rw [mem_dies h, ← hI.keys]
    cases hl : lookM (growL l).m d with
    | none => exact ⟨fun hm => absurd hm (lookM_none.1 hl), fun hh => by simp at hh⟩
    | some y => exact ⟨fun _ => rfl, fun _ => List.mem_map.2 ⟨_, lookM_some hl, rfl⟩⟩
  have h1 := nodup_len hI.nod (fun x hx => (hk x).1 hx)
  have h2 := nodup_len (dies_nodup (of_valid h)) (fun x hx => (hk x).2 hx)
  rw [List.length_map] at h1 h2
  omega
theorem forL_twice (l : List Spec) : forL (forL l) = forL l := by
  have : ∀ k, k ≤ l.length → forL (forL (l.take k)) = forL (l.take k) := by
    intro k
    induction k with
    | zero => intro _; rfl
    | succ k ih =>
      intro hk
      obtain ⟨s, hs⟩ := get_of_lt (show k < l.length by omega)
      have h0 := ih (by omega)
      rw [take_snoc' hs, forL_snoc]
      by_cases hJ : joinB (edgesS (l.take k)) (dA s) (dB s) = true
      · rw [if_pos hJ, List.append_nil]; exact h0
      · rw [if_neg hJ, forL_snoc, h0, if_neg]
        intro h
        exact hJ (con_join.2 (((forL_facts (l.take k)).2.1 _ _).1 (con_join.1 h)))
  have := this l.length (Nat.le_refl _)
  rwa [List.take_length] at this
theorem end_forest (l : List Spec) (d : Die) : EndE (edgesS (forL l)) d ↔ EndE (edgesS l) d := by
  have hf := forL_facts l
  constructor
  · rintro ⟨e, he, h⟩
    obtain ⟨s, hs, rfl⟩ := List.mem_map.1 he
    exact ⟨_, List.mem_map.2 ⟨s, hf.1.subset hs, rfl⟩, h⟩
  · rintro ⟨e, he, h⟩
    obtain ⟨s, hs, rfl⟩ := List.mem_map.1 he
    have hc := (hf.2.1 _ _).2 (con_edge he)
    have := con_end hc (dA_ne s s)
    rcases h with rfl | rfl
    · exact this.1
    · exact this.2
theorem join_forest (l : List Spec) (a b : Die) : joinB (edgesS (forL l)) a b = joinB (edgesS l) a b := by
  rw [Bool.eq_iff_iff, joinB_iff, joinB_iff]
  unfold JoinE
  rw [end_forest, end_forest, (forL_facts l).2.1]
theorem dies_len {g : Graph} (hg : graphB g = true) : (diesG g).length = g.obv.length + g.rev.length := by simp [diesG, hg]
theorem comps_reps {l : List Spec} (h : ofE l = 0) : (repsA (joinB (edgesG (ofG l))) (diesG (ofG l))).length = (growL l).count := by
  rw [count_comp h, compN, firstsA_reps (rel_join fun d hd => (dies_end (of_valid h) d).1 hd)]
theorem forest_ofE {l : List Spec} (h : ofE l = 0) : ofE (forL l) = 0 := of_sub h (forL_facts l).1
/-- The forest has no loops, and as many specimens as dies less components. -/
theorem forest_facts {l : List Spec} (h : ofE l = 0) :
    (forL l).length + (repsA (joinB (edgesG (ofG l))) (diesG (ofG l))).length = (ofG l).obv.length + (ofG l).rev.length ∧
    (ofG (forL l)).links.length + (repsA (joinB (edgesG (ofG (forL l)))) (diesG (ofG (forL l)))).length = (ofG (forL l)).obv.length + (ofG (forL l)).rev.length := by
  have h2 := forest_ofE h
  rw [comps_reps h, comps_reps h2, ← dies_len (of_valid h), ← dies_len (of_valid h2), ← dies_count h, ← dies_count h2, forest_count, of_len h2]
  refine ⟨rfl, ?_⟩
  have := forest_count (forL l)
  rwa [forL_twice] at this

/-! ### The latest specimen of a path -/
/-- The last place of a kind. -/
def lastP (p : Spec → Bool) (l : List Spec) : Nat → Int
  | 0 => -1
  | k + 1 => match l[k]? with
    | some s => if p s then (k : Int) else lastP p l k
    | none => lastP p l k
theorem lastP_succ {p : Spec → Bool} {l : List Spec} {k : Nat} {s : Spec} (h : l[k]? = some s) : lastP p l (k + 1) = if p s then (k : Int) else lastP p l k := by
  rw [lastP, h]
theorem lastP_at {p : Spec → Bool} {l : List Spec} {k : Nat} {s : Spec} (h : l[k]? = some s) (hp : p s = true) (hn : ∀ j t, k < j → l[j]? = some t → p t = false) : ∀ n, k < n → n ≤ l.length → lastP p l n = k
  | 0, h0, _ => absurd h0 (by omega)
  | n + 1, h0, h1 => by
    obtain ⟨t, ht⟩ := get_of_lt (show n < l.length by omega)
    rw [lastP_succ ht]
    by_cases e : k = n
    · subst e
      rw [h] at ht
      cases ht
      rw [if_pos hp]
    · rw [hn n t (by omega) ht, if_neg (by simp)]
      exact lastP_at h hp hn n (by omega) (by omega)
theorem lastP_range (p : Spec → Bool) (l : List Spec) : ∀ n : Nat, -1 ≤ lastP p l n ∧ lastP p l n < n
  | 0 => by simp [lastP]
  | n + 1 => by
    have := lastP_range p l n
    unfold lastP
    split
    · split <;> omega
    · omega
theorem forL_take_pre (l : List Spec) : ∀ n k, k ≤ n → forL (l.take k) <+: forL (l.take n)
  | 0, k, h => by rw [show k = 0 by omega]; exact List.prefix_refl _
  | n + 1, k, h => by
    by_cases e : k = n + 1
    · rw [e]; exact List.prefix_refl _
    · refine (forL_take_pre l n k (by omega)).trans ?_
      cases hs : l[n]? with
      | none =>
        have h1 : l.length ≤ n := List.getElem?_eq_none_iff.1 hs
        rw [List.take_of_length_le h1, List.take_of_length_le (by omega)]
        exact List.prefix_refl _
      | some s => rw [take_snoc' hs, forL_snoc]; exact List.prefix_append _ _
theorem forL_take_sub (l : List Spec) (k : Nat) (h : k ≤ l.length) : ∀ s ∈ forL (l.take k), s ∈ forL l := fun s hs => by
  have := forL_take_pre l l.length k h
  rw [List.take_length] at this
  exact this.subset hs
theorem join_nil (a b : Die) : joinB (edgesS []) a b = false := joinB_no.2 fun h => by
  obtain ⟨e, he, _⟩ := h.1
  cases he
/-- What First and Bottleneck say belongs together. -/
theorem latest {l : List Spec} {a b : Die} {p : List Spec} (hE : ofE l = 0) {k : Nat} (hk : firstK l a b = some k) (hp : Walk (forL l) a p b) :
    k < l.length ∧ joinB (edgesS (l.take k)) a b = false ∧ joinB (edgesS (l.take (k + 1))) a b = true ∧ (a = b → p = []) ∧ (a ≠ b → ∃ s, l[k]? = some s ∧ s ∈ p ∧ ∀ t ∈ p, ∃ j, j ≤ k ∧ l[j]? = some t) := by
  have hnd := (checkE_zero (ofE_zero hE).1).2.2
  rw [firstK, List.find?_range_eq_some] at hk
  obtain ⟨h1, h2, h3⟩ := hk
  have hkl := List.mem_range.1 h2
  have hbefore : joinB (edgesS (l.take k)) a b = false := by
    cases k with
    | zero => rw [List.take_zero]; exact join_nil a b
    | succ k => simpa using h3 k (by omega)
  have hU := (forL_facts l).2.2 hnd
  refine ⟨hkl, hbefore, h1, fun e => ?_, fun hne => ?_⟩
  · subst e; exact hU.uni hp (.nil _)
  · obtain ⟨s, hs⟩ := get_of_lt hkl
    have hc := (joinB_iff.1 h1).2.2
    have hnd2 : ((l.take (k + 1)).map Spec.id).Nodup := hnd.sublist ((List.take_sublist _ _).map Spec.id)
    obtain ⟨q, hq⟩ := forest_walk hnd2 hc
    have hq' : Walk (forL l) a q b := hq.mono fun e he => forL_take_sub l (k + 1) (by omega) e (hq.mem e he)
    have hpq := hU.uni hp hq'
    subst hpq
    have hall : ∀ t ∈ p, t ∈ l.take (k + 1) := fun t ht => (forL_facts (l.take (k + 1))).1.subset (hq.mem t ht)
    refine ⟨s, hs, ?_, fun t ht => ?_⟩
    · refine Classical.byContradiction fun hn => ?_
      have hw : Walk (forL (l.take k)) a p b := hq.mono fun e he => by
        have h4 := hq.mem e he
        rw [take_snoc' hs, forL_snoc] at h4
        rcases List.mem_append.1 h4 with h4 | h4
        · exact h4
        · split at h4
          · cases h4
          · rw [List.mem_singleton] at h4; subst h4; exact absurd he hn
      have hc2 := ((forL_facts (l.take k)).2.1 a b).1 hw.con
      have := con_end hc2 hne
      rw [joinB_no] at hbefore
      exact hbefore ⟨this.1, this.2, hc2⟩
    · obtain ⟨j, hj⟩ := List.mem_iff_getElem?.1 (hall t ht)
      rw [List.getElem?_take] at hj
      split at hj
      · exact ⟨j, by omega, hj⟩
      · cases hj
end Go.Proofs.YtikfffojeakjoaaGreatDoor
/- The first of the shortest paths in the die graph of a list is a walk: plain. No program in sight, no condition. -/
namespace Go.Proofs.YtikfffojeakjoaaGreatDoor
open Go.RowKit Go.Shelf

/-- A link that leads from a die to one that is k links away. -/
def toK (f : Die → Int) (k : Int) (a : Die) (x : Link) : Bool := match acrO x a with
  | some y => f y == k
  | none => false
def pathW (g : Graph) (f : Die → Int) : Nat → Die → List Int
  | 0, _ => []
  | k + 1, a => match g.links.find? (toK f k a) with
    | some x => x.id :: pathW g f k (acrD x a)
    | none => pathW g f k a
theorem link_spec {l : List Spec} (h : ofE l = 0) {x : Link} (hx : x ∈ (ofG l).links) : ∃ s ∈ l, x = linkOf s := by
  have hd := links_nodup (checkE_zero (ofE_zero h).1).2.2
  rw [of_made h, madeG] at hx
  obtain ⟨s, hs, rfl⟩ := List.mem_map.1 ((inss_mem hd x).1 hx)
  exact ⟨s, hs, rfl⟩
theorem acr_spec {s : Spec} {a y : Die} (h : acrO (linkOf s) a = some y) : EndS s a ∧ y = otherS s a := by
  have e1 : lA (linkOf s) = dA s := rfl
  have e2 : lB (linkOf s) = dB s := rfl
  unfold acrO at h
  rw [e1, e2] at h
  unfold EndS otherS
  by_cases ha : a = dA s
  · rw [if_pos ha] at h
    cases h
    exact ⟨.inl ha.symm, by rw [if_pos ha.symm]⟩
  · rw [if_neg ha] at h
    split at h
    · rename_i hb
      cases h
      exact ⟨.inr hb.symm, by rw [if_neg (fun e => ha e.symm)]⟩
    · cases h
theorem path_walk {l : List Spec} (hE : ofE l = 0) {b : Die} {f : Die → Int} (h : FarAt (ofG l) b f) : ∀ (n : Nat) (a : Die), f a = n →
    ∃ p : List Spec, Walk l a p b ∧ pathW (ofG l) f n a = p.map Spec.id ∧ ∀ s', p.head? = some s' → f (otherS s' a) = (n : Int) - 1
  | 0, a, ha => by
    have := h.only a (by omega)
    subst this
    exact ⟨[], .nil _, rfl, fun s' h' => by simp at h'⟩
  | n + 1, a, ha => by
    have hnd := (checkE_zero (ofE_zero hE).1).2.2
    obtain ⟨e, h1, h2⟩ := h.pred a (by omega)
    obtain ⟨x0, hx0, hx1⟩ := acr_nbr.1 h1
    have hsome : ((ofG l).links.find? (toK f n a)).isSome = true := by
      rw [List.find?_isSome]
      exact ⟨x0, hx0, by rw [toK, hx1]; simp; omega⟩
    obtain ⟨x, hx⟩ := Option.isSome_iff_exists.1 hsome
    have hk := List.find?_some hx
    obtain ⟨s, hs, rfl⟩ := link_spec hE (List.mem_of_find?_eq_some hx)
    cases hy : acrO (linkOf s) a with
    | none => rw [toK, hy] at hk; cases hk
    | some y =>
      rw [toK, hy] at hk
      have hfy : f y = n := by simpa using hk
      obtain ⟨hend, hyo⟩ := acr_spec hy
      obtain ⟨p, hp1, hp2, hp3⟩ := path_walk hE h n y hfy
      refine ⟨s :: p, .cons hs hend (by rw [← hyo]; exact hp1) fun s' hs' e => ?_, ?_, fun s' hs' => ?_⟩
      · have hmem := hp1.mem s' (List.mem_of_mem_head? hs')
        have : s' = s := by
          obtain ⟨i, hi, hi2⟩ := List.getElem_of_mem hmem
          obtain ⟨j, hj, hj2⟩ := List.getElem_of_mem hs
          have hij : i = j := by
            refine (List.getElem_inj (xs := l.map Spec.id) (h₀ := by simpa using hi) (h₁ := by simpa using hj) hnd).1 ?_
            simp [hi2, hj2, e]
          subst hij
          rw [← hi2, hj2]
        subst this
        have h4 := hp3 s' hs'
        rw [hyo, other_other hend] at h4
        omega
      · rw [pathW, hx]
        simp only [List.map_cons]
        rw [show acrD (linkOf s) a = y by rw [acrD, hy]; rfl, hp2]
        rfl
      · simp only [List.head?_cons, Option.some.injEq] at hs'
        subst hs'
        rw [← hyo]; omega
end Go.Proofs.YtikfffojeakjoaaGreatDoor
