/- A region that draws its order, with one operation s behind which a condition S need not hold: what s waits for is taken first under S; what yields in whatever world is taken first anywhere. No program, no condition. -/
import Derived.Test.YthnckicnnhkkaaaGreatTail
import Derived.Test.YthnckicnnhkkaaaGreatCovT
import Derived.Test.YthnckicnnhkkaaaGreatSpecA
import Derived.Test.YthnckicnnhkkaaaGreatRefA
import Derived.Deep.DeepCutAuto
import Derived.BigRegion
namespace Go.Proofs.YthnckicnnhkkaaaGreat
open Go

section
variable {P : Program} {ops : Array Oper} {Q : Exit → Act → World → Prop} {md : Region.Mode} {S : World → Prop} {s : Nat}

/-- Whatever order is picked: S holds behind each operation until s has come. -/
def wpAnyF (P : Program) (md : Region.Mode) (ops : Array Oper) (Q : Exit → Act → World → Prop) (S : World → Prop) (s : Nat) : Nat → Array Bool → Act → World → Prop
  | 0, listed, a, w => Region.ready md ops listed = [] ∧ Q .normal a w
  | f + 1, listed, a, w =>
    Region.ready md ops listed ≠ [] ∧ ∀ i ∈ Region.ready md ops listed, wpOp P ops Q i (fun a' w' => ((listed.setIfInBounds i true).getD s false = true ∨ S w') ∧ wpAnyF P md ops Q S s f (listed.setIfInBounds i true) a' w') a w
theorem wpAny_of_F : ∀ (f : Nat) (listed : Array Bool) (a : Act) (w : World), wpAnyF P md ops Q S s f listed a w → wpAny P md ops Q f listed a w
  | 0, _, _, _, h => wpAny_done h.1 h.2 _
  | f + 1, _, _, _, h => ⟨fun h0 => absurd h0 h.1, fun i hi => wpOp_mono (fun a' w' h' => wpAny_of_F f _ a' w' h'.2) (h.2 i hi)⟩
/-- s waits for the operation. -/
theorem wpAnyF_first {i : Nat} {oi os : Oper} {v : Value} (hi : ops[i]? = some oi) (hos : ops[s]? = some os) (his : i ≠ s) (hsel : ∀ (j : Nat) (o : Oper) cs b, ops[j]? = some o → o.op ≠ .select cs b)
    (hQ : ∀ c a w, Q (.panic c) (a.put oi.dst v) w → Q (.panic c) a w) (hdep : ∃ e ∈ os.after, Region.binds md e = true ∧ e.on = i) :
    ∀ (f : Nat) (listed : Array Bool) (a : Act) (w : World), HeadInv md ops ops.size listed →
      (∀ j oj, ops[j]? = some oj → j ≠ i → listed.getD j true = false → (∀ e ∈ oj.after, Region.binds md e = true → e.on ≠ i) → oi.apart ops oj = true) →
      i ∈ Region.ready md ops listed → YieldsIf P ops S oi v a → S w →
      wpAnyF P md ops Q S s f (listed.setIfInBounds i true) (a.put oi.dst v) w → wpAnyF P md ops Q S s (f + 1) listed a w := by
  intro f
  induction f with
  | zero =>
    intro listed a w inv _ hr hy hS H
    refine ⟨fun h => (by rw [h] at hr; cases hr), fun j hj => ?_⟩
    by_cases hji : j = i
    · subst hji; exact hy.wpOp hi hS ⟨.inr hS, H⟩
    · have := ready_mono hj hji
      rw [H.1] at this
      cases this
  | succ f ih =>
    intro listed a w inv hfree hr hy hS H
    have hun := (mem_ready.1 hr).1
    refine ⟨fun h => (by rw [h] at hr; cases hr), fun j hj => ?_⟩
    by_cases hji : j = i
    · subst hji; exact hy.wpOp hi hS ⟨.inr hS, H⟩
    · have h1 := H.2 j (ready_mono hj hji)
      obtain ⟨hjun, oj, hoj, hall⟩ := mem_ready.1 hj
      have hjn : j < ops.size := (Array.getElem?_eq_some_iff.1 hoj).1
      have hnot : ∀ e ∈ oj.after, Region.binds md e = true → e.on ≠ i := fun e he hb heq => by
        have h1 := hall e he hb
        rw [heq, getD_both hun] at h1
        cases h1
      have h2 := wpOp_putIf hoj (hfree j oj hoj hji hjun hnot) (fun cs b => hsel i oi cs b hi) (fun cs b => hsel j oj cs b hoj) hQ hy h1
      have hfree' : ∀ k ok, ops[k]? = some ok → k ≠ i → (listed.setIfInBounds j true).getD k true = false →
          (∀ e ∈ ok.after, Region.binds md e = true → e.on ≠ i) → oi.apart ops ok = true := fun k ok hk hki hun hno => by
        refine hfree k ok hk hki ?_ hno
        by_cases hjk : j = k
        · subst hjk; exact hjun
        · rw [getD_set_ne true hjk] at hun; exact hun
      refine wpOp_mono (fun a' w' h3 => ?_) h2
      have hS' : S w' := by
        rcases h3.2.1 with hs | hs
        · exfalso
          obtain ⟨e, he, hb, heq⟩ := hdep
          have hsj : s ≠ j := fun e' => by
            subst e'
            rw [hos] at hoj
            cases hoj
            exact hnot e he hb heq
          rw [getD_set_ne false (Ne.symm hsj), getD_set_ne false his] at hs
          have := inv.closed s os hos hs e he hb
          rw [heq, getD_both hun] at this
          cases this
        · exact hs
      refine ⟨.inr hS', ih (listed.setIfInBounds j true) a' w' (inv.set hj hjn) hfree' (ready_mono hr (Ne.symm hji)) h3.1 hS' ?_⟩
      rw [Array.setIfInBounds_comm _ _ hji]
      exact h3.2.2
/-- The operation yields in whatever world. -/
theorem wpAnyF_pure {i : Nat} {oi : Oper} {v : Value} (hi : ops[i]? = some oi) (his : i ≠ s) (hsel : ∀ (j : Nat) (o : Oper) cs b, ops[j]? = some o → o.op ≠ .select cs b)
    (hQ : ∀ c a w, Q (.panic c) (a.put oi.dst v) w → Q (.panic c) a w) :
    ∀ (f : Nat) (listed : Array Bool) (a : Act) (w : World), HeadInv md ops ops.size listed →
      (∀ j oj, ops[j]? = some oj → j ≠ i → listed.getD j true = false → (∀ e ∈ oj.after, Region.binds md e = true → e.on ≠ i) → oi.apart ops oj = true) →
      i ∈ Region.ready md ops listed → YieldsIf P ops (fun _ => True) oi v a → (listed.getD s false = true ∨ S w) →
      wpAnyF P md ops Q S s f (listed.setIfInBounds i true) (a.put oi.dst v) w → wpAnyF P md ops Q S s (f + 1) listed a w := by
  intro f
  induction f with
  | zero =>
    intro listed a w inv _ hr hy hS H
    refine ⟨fun h => (by rw [h] at hr; cases hr), fun j hj => ?_⟩
    by_cases hji : j = i
    · subst hji; exact hy.wpOp hi trivial ⟨by rw [getD_set_ne false his]; exact hS, H⟩
    · have := ready_mono hj hji
      rw [H.1] at this
      cases this
  | succ f ih =>
    intro listed a w inv hfree hr hy hS H
    have hun := (mem_ready.1 hr).1
    refine ⟨fun h => (by rw [h] at hr; cases hr), fun j hj => ?_⟩
    by_cases hji : j = i
    · subst hji; exact hy.wpOp hi trivial ⟨by rw [getD_set_ne false his]; exact hS, H⟩
    · have h1 := H.2 j (ready_mono hj hji)
      obtain ⟨hjun, oj, hoj, hall⟩ := mem_ready.1 hj
      have hjn : j < ops.size := (Array.getElem?_eq_some_iff.1 hoj).1
      have hnot : ∀ e ∈ oj.after, Region.binds md e = true → e.on ≠ i := fun e he hb heq => by
        have h1 := hall e he hb
        rw [heq, getD_both hun] at h1
        cases h1
      have h2 := wpOp_putIf hoj (hfree j oj hoj hji hjun hnot) (fun cs b => hsel i oi cs b hi) (fun cs b => hsel j oj cs b hoj) hQ hy h1
      have hfree' : ∀ k ok, ops[k]? = some ok → k ≠ i → (listed.setIfInBounds j true).getD k true = false →
          (∀ e ∈ ok.after, Region.binds md e = true → e.on ≠ i) → oi.apart ops ok = true := fun k ok hk hki hun hno => by
        refine hfree k ok hk hki ?_ hno
        by_cases hjk : j = k
        · subst hjk; exact hjun
        · rw [getD_set_ne true hjk] at hun; exact hun
      refine wpOp_mono (fun a' w' h3 => ?_) h2
      have hS' : (listed.setIfInBounds j true).getD s false = true ∨ S w' := by
        have := h3.2.1
        rw [Array.setIfInBounds_comm _ _ (Ne.symm hji), getD_set_ne false his] at this
        exact this
      refine ⟨hS', ih (listed.setIfInBounds j true) a' w' (inv.set hj hjn) hfree' (ready_mono hr (Ne.symm hji)) h3.1 hS' ?_⟩
      rw [Array.setIfInBounds_comm _ _ hji]
      exact h3.2.2
def takeF (md : Region.Mode) (ops : Array Oper) (s : Nat) (listed : Array Bool) (i : Nat) : Bool :=
  Region.noSelect ops && Region.free md ops listed i && (Region.ready md ops listed).contains i && headInvB md ops ops.size listed && decide (i ≠ s)
def waitsB (md : Region.Mode) (ops : Array Oper) (s i : Nat) : Bool := match ops[s]? with
  | some os => os.after.any fun e => Region.binds md e && decide (e.on = i)
  | none => false
/-- s waits for it. -/
theorem wpAnyF_take (i : Nat) (d : Option Tmp) {oi : Oper} (v : Value) {f : Nat} {listed : Array Bool} {a : Act} {w : World} (hi : ops[i]? = some oi) (hd : oi.dst = d) (hB : takeF md ops s listed i = true) (hW : waitsB md ops s i = true)
    (hQ : ∀ c a w, Q (.panic c) (a.put oi.dst v) w → Q (.panic c) a w) (hg : oi.guard = none) (hy : ∀ w, S w → (execOp a.eval oi).run P w = .ok (.value v) w) (hS : S w)
    (h : wpAnyF P md ops Q S s f (listed.setIfInBounds i true) (a.put d v) w) : wpAnyF P md ops Q S s (f + 1) listed a w := by
  subst hd
  simp only [takeF, Bool.and_eq_true, decide_eq_true_eq] at hB
  obtain ⟨⟨⟨⟨hsel, hfree⟩, hr⟩, hinv⟩, his⟩ := hB
  unfold waitsB at hW
  split at hW
  · rename_i os hos
    rw [Array.any_eq_true] at hW
    obtain ⟨k, hk, hb⟩ := hW
    simp only [Bool.and_eq_true, decide_eq_true_eq] at hb
    exact wpAnyF_first hi hos his (Region.noSelect_spec hsel) hQ ⟨_, Array.getElem_mem hk, hb.1, hb.2⟩ f listed a w (headInv_of hinv) (Region.free_spec hi hfree) (by simpa using hr)
      (.inl ⟨by simp [Region.wanted, hg], hy⟩) hS h
  · cases hW
theorem wpAnyF_takeP (i : Nat) (d : Option Tmp) {oi : Oper} (v : Value) {f : Nat} {listed : Array Bool} {a : Act} {w : World} (hi : ops[i]? = some oi) (hd : oi.dst = d) (hB : takeF md ops s listed i = true)
    (hQ : ∀ c a w, Q (.panic c) (a.put oi.dst v) w → Q (.panic c) a w) (hg : oi.guard = none) (hy : ∀ w, (execOp a.eval oi).run P w = .ok (.value v) w) (hS : listed.getD s false = true ∨ S w)
    (h : wpAnyF P md ops Q S s f (listed.setIfInBounds i true) (a.put d v) w) : wpAnyF P md ops Q S s (f + 1) listed a w := by
  subst hd
  simp only [takeF, Bool.and_eq_true, decide_eq_true_eq] at hB
  obtain ⟨⟨⟨⟨hsel, hfree⟩, hr⟩, hinv⟩, his⟩ := hB
  exact wpAnyF_pure hi his (Region.noSelect_spec hsel) hQ f listed a w (headInv_of hinv) (Region.free_spec hi hfree) (by simpa using hr)
      (.inl ⟨by simp [Region.wanted, hg], fun w _ => hy w⟩) hS h
theorem wpAnyF_one (i : Nat) {o : Oper} {f : Nat} {listed : Array Bool} {a : Act} {w : World} (hr : Region.ready md ops listed = [i]) (hi : ops[i]? = some o)
    (h : ∀ K : Act → World → Prop, (∀ a' w', ((listed.setIfInBounds i true).getD s false = true ∨ S w') → wpAnyF P md ops Q S s f (listed.setIfInBounds i true) a' w' → K a' w') → if Region.wanted o (yielded ops a.tmps) = true then Oper.wp P o a w K Q else K (a.put o.dst undef) w) :
    wpAnyF P md ops Q S s (f + 1) listed a w := by
  refine ⟨by rw [hr]; simp, fun j hj => ?_⟩
  rw [hr, List.mem_singleton] at hj
  subst hj
  exact wpOp_want hi (h _ fun a' w' h1 h2 => ⟨h1, h2⟩)
theorem wpAnyF_two (i j : Nat) {o o' : Oper} {f : Nat} {listed : Array Bool} {a : Act} {w : World} (hr : Region.ready md ops listed = [i, j]) (hi : ops[i]? = some o) (hj : ops[j]? = some o')
    (h : ∀ K : Act → World → Prop, (∀ a' w', ((listed.setIfInBounds i true).getD s false = true ∨ S w') → wpAnyF P md ops Q S s f (listed.setIfInBounds i true) a' w' → K a' w') → if Region.wanted o (yielded ops a.tmps) = true then Oper.wp P o a w K Q else K (a.put o.dst undef) w)
    (h' : ∀ K : Act → World → Prop, (∀ a' w', ((listed.setIfInBounds j true).getD s false = true ∨ S w') → wpAnyF P md ops Q S s f (listed.setIfInBounds j true) a' w' → K a' w') → if Region.wanted o' (yielded ops a.tmps) = true then Oper.wp P o' a w K Q else K (a.put o'.dst undef) w) :
    wpAnyF P md ops Q S s (f + 1) listed a w := by
  refine ⟨by rw [hr]; simp, fun k hk => ?_⟩
  rw [hr] at hk
  simp only [List.mem_cons, List.not_mem_nil, or_false] at hk
  rcases hk with rfl | rfl
  · exact wpOp_want hi (h _ fun a' w' h1 h2 => ⟨h1, h2⟩)
  · exact wpOp_want hj (h' _ fun a' w' h1 h2 => ⟨h1, h2⟩)
theorem wp_region_F {id : Nat} {a : Act} {w : World} (s n : Nat) (S : World → Prop) (hn : ops.size = n) (hm : P.follows .mixedOrders = true)
    (h : wpAnyF P .any ops Q S s n (Array.replicate n false) a w.drew) : (Code.region id ops true).wp P Q a w := by
  subst hn
  refine wp_region_any hm ?_
  exact wpAny_of_F ops.size _ a w.drew h
end
end Go.Proofs.YthnckicnnhkkaaaGreat
/- Reference 9: Sort, to a slice of its own. Condition: the list is one without error. -/
namespace Go.Proofs.YthnckicnnhkkaaaGreat
open Go.RowKit Go.Maps Go.Shelf

/-- Specimens by place, of which the first ones are in order. -/
structure SrtO (l : List Spec) (n i : Nat) (G : Nat → Spec) : Prop where
  mem : ∀ s, s ∈ l ↔ ∃ j, j < n ∧ G j = s
  inj : ∀ p q, p < n → q < n → p ≠ q → (G p).id ≠ (G q).id
  srt : ∀ p q, p < q → q < i → q < n → (G p).id < (G q).id
structure SrtI (l : List Spec) (n i k : Nat) (G : Nat → Spec) : Prop where
  mem : ∀ s, s ∈ l ↔ ∃ j, j < n ∧ G j = s
  inj : ∀ p q, p < n → q < n → p ≠ q → (G p).id ≠ (G q).id
  srt : ∀ p q, p < q → q ≤ i → q ≠ k → (G p).id < (G q).id
def swpF (G : Nat → Spec) (k : Nat) : Nat → Spec := fun j => if j = k + 1 then G k else if j = k then G (k + 1) else G j
section
variable {l : List Spec} {n i k : Nat} {G : Nat → Spec}
theorem SrtO.inner (h : SrtO l n i G) (hi : i < n) : SrtI l n i i G := ⟨h.mem, h.inj, fun p q h1 h2 h3 => h.srt p q h1 (by omega) (by omega)⟩
theorem SrtI.swap (h : SrtI l n i (k + 1) G) (hki : k + 1 ≤ i) (hi : i < n) (hlt : (G (k + 1)).id < (G k).id) : SrtI l n i k (swpF G k) := by
  refine ⟨fun s => ?_, fun p q hp hq hne => ?_, fun p q h1 h2 h3 => ?_⟩
  · rw [h.mem]
    constructor
    · rintro ⟨j, hj, rfl⟩
      by_cases e1 : j = k + 1
      · exact ⟨k, by omega, by subst e1; simp [swpF]⟩
      · by_cases e2 : j = k
        · exact ⟨k + 1, by omega, by subst e2; simp [swpF]⟩
        · exact ⟨j, hj, by simp [swpF, e1, e2]⟩
    · rintro ⟨j, hj, rfl⟩
      unfold swpF
      split
      · exact ⟨k, by omega, rfl⟩
      · split
        · exact ⟨k + 1, by omega, rfl⟩
        · exact ⟨j, hj, rfl⟩
  · unfold swpF
    split <;> split <;> (try split) <;> (try split) <;> first | omega | (apply h.inj <;> omega)
  · have hs := fun p q a b c => h.srt p q a b c
    unfold swpF
    by_cases q1 : q = k + 1
    · subst q1
      rw [if_pos rfl]
      by_cases p1 : p = k
      · subst p1; rw [if_neg (by omega), if_pos rfl]; exact hlt
      · rw [if_neg (by omega), if_neg p1]; exact hs p k (by omega) (by omega) (by omega)
    · rw [if_neg q1, if_neg h3]
      by_cases p1 : p = k + 1
      · rw [if_pos p1]; exact hs k q (by omega) h2 (by omega)
      · rw [if_neg p1]
        by_cases p2 : p = k
        · rw [if_pos p2]; exact hs (k + 1) q (by omega) h2 (by omega)
        · rw [if_neg p2]; exact hs p q h1 h2 (by omega)
theorem SrtI.stop (h : SrtI l n i k G) (hki : k ≤ i) (hs : ∀ m, k = m + 1 → ¬ (G (m + 1)).id < (G m).id) : SrtO l n (i + 1) G := by
  refine ⟨h.mem, h.inj, fun p q h1 h2 h3 => ?_⟩
  by_cases e : q = k
  · subst e
    obtain ⟨m, rfl⟩ : ∃ m, q = m + 1 := ⟨q - 1, by omega⟩
    have h4 := hs m rfl
    have h5 := h.inj m (m + 1) (by omega) (by omega) (by omega)
    by_cases e : p = m
    · subst e; omega
    · have := h.srt p m (by omega) (by omega) (by omega)
      omega
  · exact h.srt p q h1 (by omega) e
theorem range_get (G : Nat → Spec) (h : k < n) : ((List.range n).map G)[k]? = some (G k) := by rw [List.getElem?_map, List.getElem?_range h]; rfl
theorem swap_rows (G : Nat → Spec) (h : k + 1 < n) : (((List.range n).map G).set (k + 1) (G k)).set k (G (k + 1)) = (List.range n).map (swpF G k) := by
  refine List.ext_getElem? fun j => ?_
  rw [List.getElem?_set, List.getElem?_set, List.getElem?_map]
  simp only [List.length_set, List.length_map, List.length_range]
  by_cases hj : j < n
  · rw [List.getElem?_map, List.getElem?_range hj]
    by_cases e1 : k = j
    · subst e1; rw [if_pos rfl, if_pos hj]; simp [swpF]
    · rw [if_neg e1]
      by_cases e2 : k + 1 = j
      · subst e2; rw [if_pos rfl, if_pos hj]; simp [swpF]
      · have e1' : ¬ j = k := fun e => e1 e.symm
        have e2' : ¬ j = k + 1 := fun e => e2 e.symm
        rw [if_neg e2]; simp [swpF, e1', e2']
  · rw [List.getElem?_map, List.getElem?_eq_none (by simpa using hj)]
    rw [if_neg (by omega), if_neg (by omega)]; rfl
def SortedOf (l S : List Spec) : Prop := (∀ s, s ∈ S ↔ s ∈ l) ∧ (S.map Spec.id).Pairwise (· < ·) ∧ S.length = l.length
theorem sorted_end (h : SrtO l n i G) (hi : n ≤ i) (hn : n = l.length) : SortedOf l ((List.range n).map G) := by
  refine ⟨fun s => ?_, ?_, by simp [hn]⟩
  · rw [h.mem, List.mem_map]
    exact ⟨fun ⟨j, h1, h2⟩ => ⟨j, List.mem_range.1 h1, h2⟩, fun ⟨j, h1, h2⟩ => ⟨j, List.mem_range.2 h1, h2⟩⟩
  · rw [List.map_map, List.pairwise_map]
    exact List.Pairwise.imp_of_mem (fun {p q} hp hq hlt => h.srt p q hlt (by have := List.mem_range.1 hq; omega) (List.mem_range.1 hq)) List.pairwise_lt_range
theorem sorted_start (l : List Spec) (hd : (l.map Spec.id).Nodup) : SrtO l l.length 1 (fun j => (l[j]?).getD ⟨0, 0, 0, 0, 0, 0, 0⟩) := by
  refine ⟨fun s => ?_, fun p q hp hq hne => ?_, fun p q h1 h2 h3 => by omega⟩
  · constructor
    · intro hs
      obtain ⟨j, hj⟩ := List.getElem?_of_mem hs
      exact ⟨j, lt_of_get hj, by rw [hj]; rfl⟩
    · rintro ⟨j, hj, rfl⟩
      rw [List.getElem?_eq_getElem hj]
      exact List.getElem_mem hj
  · rw [List.getElem?_eq_getElem hp, List.getElem?_eq_getElem hq]
    intro e
    exact hne ((List.getElem_inj (xs := l.map Spec.id) (h₀ := by simpa using hp) (h₁ := by simpa using hq) hd).1 (by simpa using e))
theorem range_list (l : List Spec) : (List.range l.length).map (fun j => (l[j]?).getD ⟨0, 0, 0, 0, 0, 0, 0⟩) = l := by
  refine List.ext_getElem? fun j => ?_
  rw [List.getElem?_map]
  by_cases hj : j < l.length
  · rw [List.getElem?_range hj, List.getElem?_eq_getElem hj]; simp [hj]
  · rw [List.getElem?_eq_none (by simpa using hj), List.getElem?_eq_none (by simpa using hj)]; rfl
end
theorem Check09_ok (v : Value) (l : List Spec) (w : World) (h : Specs w v l) : Calls Tryz.prog 145 #[v] w fun e w' => e = .returned (.int .i64 (checkE l)) ∧ Below w.heap.size w w' := by
  obtain ⟨A, c, rfl, _⟩ := id h
  have HC := Lib.hid (Check_ok _ l w h)
  generalize checkE l = E at HC ⊢
  clear h
  go_enter Tryz.func145, Tryz.ntmps145
  go_wp2_with fail
  refine HC.out.mono ?_
  rintro e w1 ⟨rfl, hb1⟩
  go_wp2_with fail
  go_ret
  exact ⟨rfl, hb1⟩
set_option maxHeartbeats 8000000 in
set_option maxRecDepth 100000 in
theorem SortO09_ok (v : Value) (l : List Spec) (w : World) (h : Specs w v l) (hE : checkE l = 0) :
    Calls Tryz.prog 103 #[v] w fun e w' => ∃ u S, e = .returned (.tuple #[u, .int .i64 0]) ∧ OwnS w.heap.size w' u S ∧ SortedOf l S ∧ Below w.heap.size w w' := by
  obtain ⟨A, c, rfl, hlc, hcm, _⟩ := h.cells
  have hll : l.length ≤ 64 := (checkE_zero hE).1
  have hnd := (checkE_zero hE).2.2
  have HC := Lib.hid (Check09_ok _ l w h)
  rw [hE] at HC
  have Hh := Lib.hid h
  obtain ⟨iS, hiS, hzS, hkS, hbS⟩ := info_parts infoS
  have HS0 := Lib.hid (sorted_start l hnd)
  clear h hE hnd
  go_enter Tryz.func103, Tryz.ntmps103
  go_wp2_with fail
  refine HC.out.mono ?_
  rintro e w1 ⟨rfl, hb1⟩
  obtain ⟨W1, hW1⟩ : ∃ z, w1.alloc (.cells #[] 31) = z := ⟨_, rfl⟩
  have hbW1 : Below w1.heap.size w1 W1 := by rw [← hW1]; exact (Below.refl _ _).alloc (Nat.le_refl _) _
  have hown0 : OwnS w1.heap.size W1 (.slice (some ⟨w1.heap.size, 0, none⟩) 0 0) [] := own_empty (by rw [← hW1]; exact heap_alloc_new _ _) (Nat.le_refl _)
  have hw2 := below_trans hb1 hbW1
  have hsl := SlOf.sl (Hh.out.below hw2)
  go_wp2_with (at_builtin; refine wpList_append_sl rfl (.tmp 13) (.tmp 14) 51 rfl iS _ 56 Tryz.underlying51 hiS hzS hkS hbS rfl (by decide) oneS rfl hown0 A c l.length l rfl rfl hsl (by simp; omega) (by simp; omega) hbW1.size ?_; intro v' w3 hown3 hgrow3 _)
  have hb3 : Below w1.heap.size w1 w3 := hbW1.grown hgrow3 hbW1.size (fun j e => (hown0.lt j e).1)
  rw [List.nil_append] at hown3
  obtain ⟨Av, cv, rfl, _⟩ := id hown3.slOf
  have hB1 := hb1.size
  have hw3 := below_trans hb1 hb3
  have hown := hown3.base hB1
  obtain ⟨n, hn⟩ : ∃ n, l.length = n := ⟨_, rfl⟩
  have Hn := Lib.hid hn
  have hown : OwnS w.heap.size w3 (.slice Av n cv) ((List.range n).map (fun j => (l[j]?).getD ⟨0, 0, 0, 0, 0, 0, 0⟩)) := by rw [← hn, range_list]; exact hown
  have HO := Lib.hid hown
  rw [hn] at HS0 hll ⊢
  clear hown0 hown3 hown hgrow3 hsl hW1 hn hlc hbW1 hw2
  go_wp2_with fail
  go_loopw [6] (fun iv wr => ∃ (i : Nat) (G : Nat → Spec), i ≤ n + 1 ∧ iv = .int .i64 i ∧ OwnS w.heap.size wr (.slice Av n cv) ((List.range n).map G) ∧ Hid (SrtO l n i G) ∧ Below w.heap.size w wr) (fun iv _ => n + 1 - (intOf iv).toNat)
  case atStart => exact ⟨1, _, by omega, rfl, HO.out, HS0, hw3⟩
  case round =>
    clear HO HS0 hw3
    obtain ⟨i, G, hi, rfl, hown, HG, hb⟩ := hrel
    by_cases hlt : i < n
    case neg =>
      have hS := sorted_end HG.out (by omega) Hn.out.symm
      have HSE := Lib.hid hS
      have HO := Lib.hid hown
      clear hown hS
      go_wp2_with fail
      exact bodyPost_ret (v := .tuple #[.slice Av n cv, .int .i64 0]) (by simp [results, Tryz.results103, go_sem]) rfl ⟨_, _, rfl, HO.out, HSE.out, hb⟩
    have hlt1 : (i : Int) < (n : Int) := by omega
    have HI := Lib.hid (HG.out.inner hlt)
    have HO := Lib.hid hown
    clear hown
    go_wp2_with fail
    go_loopw [7] (fun kv wr => ∃ (k : Nat) (G : Nat → Spec), k ≤ i ∧ kv = .int .i64 k ∧ OwnS w.heap.size wr (.slice Av n cv) ((List.range n).map G) ∧ Hid (SrtI l n i k G) ∧ Below w.heap.size w wr) (fun kv _ => (intOf kv).toNat)
    case atStart => exact ⟨i, G, Nat.le_refl _, rfl, HO.out, HI, hb⟩
    case round =>
      clear HO HI hb HG
      obtain ⟨k, G, hk, rfl, hown, HG, hb⟩ := hrel
      cases k with
      | zero =>
        have HG2 := Lib.hid (HG.out.stop hk (fun m e => by omega))
        have HO := Lib.hid hown
        clear hown
        go_wp2_with fail
        refine wp_region_later (by kernel_rfl) (by kernel_rfl) ?_
        repeat (go_big_quiet_step (first | fail))
        refine wpQuiet_nil ?_
        intro _ hw'
        obtain ⟨xq, hw''⟩ := hw'
        subst hw''
        have hbq := xq.h
        generalize xq.to = wq at hbq ⊢
        have hob := HO.out.below hbq
        have hbb := below_trans hb hbq
        go_wp2_with fail
        refine ⟨?rel, ?measure⟩
        case rel => exact ⟨i + 1, G, by omega, by go_num, hob, HG2, hbb⟩
        case measure => first | (simp [intOf]; done) | (simp [intOf]; omega)
      | succ m =>
        have hm1 : m + 1 < n := by omega
        rcases hown.cases with ⟨_, h2⟩ | ⟨g, cap, hv, hBg, hgl, _, _⟩
        · exfalso
          have := congrArg List.length h2
          simp at this
          omega
        obtain ⟨rfl, hnn, rfl⟩ : Av = some ⟨g, 0, none⟩ ∧ n = ((List.range n).map G).length ∧ cv = cap := by simpa using hv
        clear hv hnn
        have X := fun (j : Nat) (u : Value) (hu : (encS (G (m + 1)))[j]? = some u) => hown.cellsAt lenS (by simp) (range_get G hm1) hu
        have Y := fun (j : Nat) (u : Value) (hu : (encS (G m))[j]? = some u) => hown.cellsAt lenS (by simp) (range_get (n := n) G (by omega : m < n)) hu
        have x0 := Later.cell_all (X 0 _ rfl).1; have y0 := Later.cell_all (Y 0 _ rfl).1
        simp only [Nat.add_zero] at x0 y0
        obtain ⟨T, hT⟩ : ∃ T, decide ((G (m + 1)).id < (G m).id) = T := ⟨_, rfl⟩
        have HX := Lib.hid X; have HY := Lib.hid Y
        have hk1 : ((m : Int) + 1) < (n : Int) := by omega
        have hk2 : (m : Int) < (n : Int) := by omega
        have hk3 : (0 : Int) ≤ (m : Int) + 1 := by omega
        have hk4 : (0 : Int) ≤ (m : Int) := by omega
        have hk5 : (0 : Int) < (m : Int) + 1 := by omega
        have hmm : (m : Int) ≤ 64 := by omega
        have HO := Lib.hid hown
        have HT := Lib.hid hT
        clear X Y hown
        cases T
        · have HG2 := Lib.hid (HG.out.stop hk (fun m' e => by cases e; exact of_decide_eq_false HT.out))
          go_wp2_with fail
          refine wp_region_later (by kernel_rfl) (by kernel_rfl) ?_
          repeat (go_big_quiet_step (first | fail))
          refine wpQuiet_nil ?_
          intro _ hw'
          obtain ⟨xq, hw''⟩ := hw'
          subst hw''
          have hbq := xq.h
          generalize xq.to = wq at hbq ⊢
          clear x0 y0
          have hob := HO.out.below hbq
          have hbb := below_trans hb hbq
          go_wp2_with fail
          refine ⟨?rel, ?measure⟩
          case rel => exact ⟨i + 1, G, by omega, by go_num, hob, HG2, hbb⟩
          case measure => first | (simp [intOf]; done) | (simp [intOf]; omega)
        · have HG2 := Lib.hid (HG.out.swap hk hlt (of_decide_eq_true HT.out))
          go_wp2_with fail
          refine wp_region_later (by kernel_rfl) (by kernel_rfl) ?_
          repeat (go_big_quiet_step (first | fail))
          refine wpQuiet_nil ?_
          intro _ hw'
          obtain ⟨xq, hw''⟩ := hw'
          subst hw''
          have hbq := xq.h
          generalize xq.to = wq at hbq ⊢
          clear x0 y0
          have hob := HO.out.below hbq
          have hbb := below_trans hb hbq
          go_wp2_with fail
          have hba : Below wq.heap.size wq wq.drew := (Below.refl _ _).drew
          obtain ⟨wa, hwa⟩ : ∃ W, wq.drew = W := ⟨_, rfl⟩
          rw [hwa] at hba
          have hown2 := hob.below hba
          have hbA := below_trans hbb hba
          obtain ⟨x0, f0⟩ := hown2.cellsAt lenS (by simp) (range_get G hm1) (show (encS (G (m + 1)))[0]? = some _ from rfl); obtain ⟨y0, e0⟩ := hown2.cellsAt lenS (by simp) (range_get (n := n) G (by omega : m < n)) (show (encS (G m))[0]? = some _ from rfl)
          obtain ⟨x1, f1⟩ := hown2.cellsAt lenS (by simp) (range_get G hm1) (show (encS (G (m + 1)))[1]? = some _ from rfl); obtain ⟨y1, e1⟩ := hown2.cellsAt lenS (by simp) (range_get (n := n) G (by omega : m < n)) (show (encS (G m))[1]? = some _ from rfl)
          obtain ⟨x2, f2⟩ := hown2.cellsAt lenS (by simp) (range_get G hm1) (show (encS (G (m + 1)))[2]? = some _ from rfl); obtain ⟨y2, e2⟩ := hown2.cellsAt lenS (by simp) (range_get (n := n) G (by omega : m < n)) (show (encS (G m))[2]? = some _ from rfl)
          obtain ⟨x3, f3⟩ := hown2.cellsAt lenS (by simp) (range_get G hm1) (show (encS (G (m + 1)))[3]? = some _ from rfl); obtain ⟨y3, e3⟩ := hown2.cellsAt lenS (by simp) (range_get (n := n) G (by omega : m < n)) (show (encS (G m))[3]? = some _ from rfl)
          obtain ⟨x4, f4⟩ := hown2.cellsAt lenS (by simp) (range_get G hm1) (show (encS (G (m + 1)))[4]? = some _ from rfl); obtain ⟨y4, e4⟩ := hown2.cellsAt lenS (by simp) (range_get (n := n) G (by omega : m < n)) (show (encS (G m))[4]? = some _ from rfl)
          obtain ⟨x5, f5⟩ := hown2.cellsAt lenS (by simp) (range_get G hm1) (show (encS (G (m + 1)))[5]? = some _ from rfl); obtain ⟨y5, e5⟩ := hown2.cellsAt lenS (by simp) (range_get (n := n) G (by omega : m < n)) (show (encS (G m))[5]? = some _ from rfl)
          obtain ⟨x6, f6⟩ := hown2.cellsAt lenS (by simp) (range_get G hm1) (show (encS (G (m + 1)))[6]? = some _ from rfl); obtain ⟨y6, e6⟩ := hown2.cellsAt lenS (by simp) (range_get (n := n) G (by omega : m < n)) (show (encS (G m))[6]? = some _ from rfl)
          simp only [Nat.add_zero] at x0 y0 f0 e0
          have HO2 := Lib.hid hown2
          clear hown2 hob
          have hput := (HO2.out.put lenS (by omega) (by simp) hm1 (G m)).put lenS (by omega) (by simp) (by omega : m < n) (G (m + 1))
          rw [swap_rows G hm1] at hput
          have HP := Lib.hid hput
          have hb1' := hbA.grown (setCells_grown g (encS (G m)) wa ((m + 1) * 7)) hbA.size (fun j e => by cases e; exact hBg)
          have HBF := Lib.hid (hb1'.grown (setCells_grown g (encS (G (m + 1))) _ (m * 7)) hb1'.size (fun j e => by cases e; exact hBg))
          clear hput hb1'
          go_region
          clear x0 x1 x2 x3 x4 x5 x6 y0 y1 y2 y3 y4 y5 y6 f0 f1 f2 f3 f4 f5 f6 e0 e1 e2 e3 e4 e5 e6
          go_wp2_with fail
          refine ⟨?rel, ?measure⟩
          case rel => exact ⟨m, swpF G m, by omega, by go_num, HP.out, HG2, HBF.out⟩
          case measure => simp [intOf]
end Go.Proofs.YthnckicnnhkkaaaGreat
