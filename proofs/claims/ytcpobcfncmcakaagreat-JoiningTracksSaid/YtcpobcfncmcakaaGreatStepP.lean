/- How the number of components changes with a specimen, plain. No program in sight, no condition. -/
import Derived.Test.YtcpobcfncmcakaaGreatGroG
import Derived.Test.YtcpobcfncmcakaaGreatTraA
namespace Go.Proofs.YtcpobcfncmcakaaGreat
open Go.RowKit Go.Maps

theorem NInv.one {E : List (Die × Die)} {g : Gr} (h : NInv E g) {d : Die} (hd : EndE E d) : 1 ≤ g.count := by
  obtain ⟨n, hn⟩ := Option.isSome_iff_exists.1 ((h.keys d).2 hd)
  have hr := h.rng d n hn
  rw [h.cnt, dcount]
  have : 0 < (List.range g.named).countP fun (i : Nat) => decide ((i : Int) ∈ g.m.map Prod.snd) := by
    rw [List.countP_pos_iff]
    refine ⟨n.toNat, List.mem_range.2 (by omega), ?_⟩
    have e : (n.toNat : Int) = n := by omega
    rw [e]
    simp only [decide_eq_true_eq]
    exact List.mem_map.2 ⟨_, lookM_some hn, rfl⟩
  omega
theorem know_count (d : Die) (g : Gr) : (knowG d g).count = g.count + if (lookM g.m d).isSome = true then 0 else 1 := by
  unfold knowG
  split <;> rfl
theorem apart_no {E : List (Die × Die)} {g : Gr} (h : NInv E g) (s : Spec) (ha : apartG s g = false) : (enterG s g).count = g.count := by
  obtain ⟨_, h2, _⟩ := h.enter s
  have hJ : JoinE E (dA s) (dB s) := by
    refine Classical.byContradiction fun hn => ?_
    rw [h2.2 hn] at ha
    cases ha
  have hft : fromG s g = toG s g := by simpa [apartG] using ha
  have ka := (h.keys (dA s)).2 hJ.1
  have kb := (h.keys (dB s)).2 hJ.2.1
  have e1 : knowG (dA s) g = g := by rw [knowG, if_pos ka]
  rw [enterG, if_pos hft, bothG, e1, knowG, if_pos kb]
theorem apart_yes {E : List (Die × Die)} {g : Gr} (h : NInv E g) (s : Spec) (ha : apartG s g = true) :
    (enterG s g).count + 1 = g.count + (if (lookM g.m (dA s)).isSome = true then 0 else 1) + (if (lookM (knowG (dA s) g).m (dB s)).isSome = true then 0 else 1) ∧ thereG s g = ((lookM g.m (dA s)).isSome && (lookM (knowG (dA s) g).m (dB s)).isSome) := by
  have hft : fromG s g ≠ toG s g := by simpa [apartG] using ha
  have hp := h.pos s hft
  have e1 : (bothG s g).count = g.count + (if (lookM g.m (dA s)).isSome = true then 0 else 1) + (if (lookM (knowG (dA s) g).m (dB s)).isSome = true then 0 else 1) := by
    rw [bothG, know_count, know_count]
  refine ⟨?_, ?_⟩
  · rw [enterG, if_neg hft]
    simp only
    omega
  · have : (fromG s g == toG s g) = false := by simpa using hft
    rw [thereG, this, Bool.false_or]
theorem step_diff {E : List (Die × Die)} {g : Gr} (h : NInv E g) (s : Spec) :
    -1 ≤ ((enterG s g).count : Int) - g.count ∧ ((enterG s g).count : Int) - g.count ≤ 1 ∧ (((enterG s g).count : Int) - g.count = -1 ↔ pickJ (apartG s g) (thereG s g) = true) ∧ 1 ≤ (enterG s g).count := by
  have h1 := (h.enter s).1.one (d := dA s) (endE_snoc.2 (.inr (.inl rfl)))
  cases ha : apartG s g
  · have := apart_no h s ha
    refine ⟨by omega, by omega, ⟨fun hh => by omega, fun hh => by simp [pickJ] at hh⟩, h1⟩
  · obtain ⟨h2, h3⟩ := apart_yes h s ha
    rw [h3]
    cases hA : (lookM g.m (dA s)).isSome <;> cases hB : (lookM (knowG (dA s) g).m (dB s)).isSome <;> rw [hA, hB] at h2 <;> simp [pickJ] at h2 ⊢ <;> omega
/-- The numbers of components, by their number of specimens. -/
def cntL (l : List Spec) (k : Nat) : Int := ((growL (l.take k)).count : Int)
theorem cntL_zero (l : List Spec) : cntL l 0 = 0 := rfl
theorem step_list {l : List Spec} {k : Nat} {s : Spec} (hs : l[k]? = some s) :
    -1 ≤ cntL l (k + 1) - cntL l k ∧ cntL l (k + 1) - cntL l k ≤ 1 ∧ (cntL l (k + 1) - cntL l k = -1 ↔ pickJ (apartG s (growL (l.take k))) (thereG s (growL (l.take k))) = true) ∧ 1 ≤ cntL l (k + 1) := by
  have h := step_diff (ninv_list (l.take k)) s
  rw [← growL_snoc, ← take_snoc' hs] at h
  unfold cntL
  exact ⟨h.1, h.2.1, h.2.2.1, by have := h.2.2.2; omega⟩
theorem histT_get (l : List Spec) {k n : Nat} (h : k < n) : (histT l n)[k]? = some (cntL l (k + 1)) := by
  rw [histT, List.getElem?_map, List.getElem?_range h]; rfl
theorem histT_len (l : List Spec) (n : Nat) : (histT l n).length = n := by rw [histT, List.length_map, List.length_range]
theorem choT_pre (pick : Bool → Bool → Bool) (l : List Spec) : ∀ (n k : Nat), k ≤ n → choT pick l k <+: choT pick l n
  | 0, k, h => by rw [show k = 0 by omega]; exact List.prefix_refl _
  | n + 1, k, h => by
    by_cases e : k = n + 1
    · rw [e]; exact List.prefix_refl _
    · refine (choT_pre pick l n k (by omega)).trans ?_
      rw [choT, choT, List.range_succ, List.flatMap_append]
      exact List.prefix_append _ _
theorem choT_get (pick : Bool → Bool → Bool) {l : List Spec} {k n : Nat} {s : Spec} (hs : l[k]? = some s) (hn : k < n) (hp : pick (apartG s (growL (l.take k))) (thereG s (growL (l.take k))) = true) :
    (choT pick l n)[(choT pick l k).length]? = some s.id := by
  have h1 := choT_pre pick l n (k + 1) hn
  rw [choT_snoc pick hs, if_pos hp] at h1
  obtain ⟨r, hr⟩ := h1
  rw [← hr, List.append_assoc, List.getElem?_append_right (Nat.le_refl _)]
  simp
end Go.Proofs.YtcpobcfncmcakaaGreat
/- A tracker that is offered specimens, plain. No program in sight, no condition. -/
namespace Go.Proofs.YtcpobcfncmcakaaGreat
open Go.RowKit Go.Maps

/-- What a tracker has after it was offered the first specimens. -/
def trkL (l : List Spec) (k : Nat) : List Spec := (l.take k).foldl addL []
theorem trkL_snoc {l : List Spec} {k : Nat} {s : Spec} (hs : l[k]? = some s) : trkL l (k + 1) = addL (trkL l k) s := by
  rw [trkL, take_snoc' hs, List.foldl_append]; rfl
theorem addL_pre (t : List Spec) (s : Spec) : t <+: addL t s := by
  rw [addL]
  split
  · exact List.prefix_append _ _
  · exact List.prefix_refl _
theorem trkL_pre (l : List Spec) : ∀ (n k : Nat), k ≤ n → trkL l k <+: trkL l n
  | 0, k, h => by rw [show k = 0 by omega]; exact List.prefix_refl _
  | n + 1, k, h => by
    by_cases e : k = n + 1
    · rw [e]; exact List.prefix_refl _
    · refine (trkL_pre l n k (by omega)).trans ?_
      cases hs : l[n]? with
      | none =>
        have h1 : l.length ≤ n := List.getElem?_eq_none_iff.1 hs
        rw [trkL, trkL, List.take_of_length_le h1, List.take_of_length_le (by omega)]
        exact List.prefix_refl _
      | some s => rw [trkL_snoc hs]; exact addL_pre _ _
theorem trkL_more {l : List Spec} {n k : Nat} (h : k ≤ n) : ∃ x, trkL l n = trkL l k ++ x := by
  obtain ⟨x, hx⟩ := trkL_pre l n k h
  exact ⟨x, hx.symm⟩
theorem add_len (t : List Spec) (s : Spec) : (addE t s = 0 ∧ (addL t s).length = t.length + 1) ∨ (addE t s ≠ 0 ∧ addL t s = t) := by
  by_cases h : addE t s = 0
  · refine .inl ⟨h, ?_⟩
    rw [addL, if_pos h]; simp
  · exact .inr ⟨h, (add_no h).2⟩
theorem below_touch1 {w a b : World} {q : Nat} (h : Below w.heap.size w a) (ht : Touch a b [q]) (hq : w.heap.size ≤ q) : Below w.heap.size w b := ((touch_below h [q]).trans ht).below (by simpa using hq) (Nat.le_refl _)
end Go.Proofs.YtcpobcfncmcakaaGreat
