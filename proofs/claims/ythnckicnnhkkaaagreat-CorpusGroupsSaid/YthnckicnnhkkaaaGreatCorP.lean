/- A corpus's list, plain: specimens by Id; what may be entered and removed. No program in sight, no condition. -/
import Derived.Test.YthnckicnnhkkaaaGreatLedM
import Derived.Test.YthnckicnnhkkaaaGreatBase
import Derived.Test.YthnckicnnhkkaaaGreatSpecA
import Derived.Test.YthnckicnnhkkaaaGreatPairA
namespace Go.Proofs.YthnckicnnhkkaaaGreat
open Go.RowKit

def SrtS (l : List Spec) : Prop := l.Pairwise fun x y => x.id < y.id
def posI (l : List Spec) (i : Int) : Nat := l.countP fun s => decide (s.id < i)
def insS (l : List Spec) (s : Spec) : List Spec := l.take (posI l s.id) ++ s :: l.drop (posI l s.id)
def enterE (l : List Spec) (s : Spec) : Int := if specB s = true then (if s.id ∈ l.map Spec.id then 8 else if 64 ≤ l.length then 6 else 0) else 1
def enterL (l : List Spec) (s : Spec) : List Spec := if enterE l s = 0 then insS l s else l
def removeE (l : List Spec) (i : Int) : Int := if i ∈ l.map Spec.id then 0 else 7
def removeL (l : List Spec) (i : Int) : List Spec := l.filter fun s => decide (s.id ≠ i)
section
variable {l S : List Spec} {s : Spec} {i : Int} {k : Nat}
theorem pos_le (l : List Spec) (i : Int) : posI l i ≤ l.length := List.countP_le_length
theorem pos_zero : ∀ {l : List Spec}, (∀ x ∈ l, ¬ x.id < i) → posI l i = 0 := fun h => List.countP_eq_zero.2 fun x hx => by simpa using h x hx
theorem pos_lt : ∀ {l : List Spec} {k : Nat}, SrtS l → l[k]? = some s → (s.id < i ↔ k < posI l i)
  | [], _, _, h => by simp at h
  | x :: xs, k, hs, h => by
    obtain ⟨h1, h2⟩ := List.pairwise_cons.1 hs
    by_cases hx : x.id < i
    · have e : posI (x :: xs) i = posI xs i + 1 := List.countP_cons_of_pos (by simpa using hx)
      cases k with
      | zero =>
        simp at h
        subst h
        rw [e]
        exact ⟨fun _ => by omega, fun _ => hx⟩
      | succ k =>
        have := pos_lt h2 (by simpa using h : xs[k]? = some s)
        rw [e]
        exact ⟨fun h => by have := this.1 h; omega, fun h => this.2 (by omega)⟩
    · have e : posI (x :: xs) i = 0 := pos_zero fun y hy => by
        rcases List.mem_cons.1 hy with rfl | hy
        · exact hx
        · have := h1 y hy; omega
      rw [e]
      refine ⟨fun hlt => ?_, fun h => by omega⟩
      exfalso
      rcases List.mem_cons.1 (List.mem_of_getElem? h) with rfl | hm
      · exact hx hlt
      · have := h1 s hm; omega
theorem pos_hit (hs : SrtS l) (hk : l[k]? = some s) : posI l s.id = k := by
  have h1 : ¬ k < posI l s.id := fun h => by have := (pos_lt (i := s.id) hs hk).2 h; omega
  rcases Nat.lt_or_ge (posI l s.id) k with h | h
  · exfalso
    have hlk := (List.getElem?_eq_some_iff.1 hk).1
    have h2 : l[posI l s.id]? = some l[posI l s.id] := List.getElem?_eq_getElem (by omega)
    have h3 : ¬ (l[posI l s.id]).id < s.id := fun h' => by have := (pos_lt hs h2).1 h'; omega
    have h4 : (l[posI l s.id]).id < (l[k]).id := List.pairwise_iff_getElem.1 hs _ _ (by omega) hlk h
    have h5 : l[k] = s := by rw [List.getElem?_eq_getElem hlk] at hk; exact Option.some.inj hk
    rw [h5] at h4
    exact h3 h4
  · omega
theorem pos_there (hs : SrtS l) (h : i ∈ l.map Spec.id) : ∃ s, l[posI l i]? = some s ∧ s.id = i := by
  obtain ⟨s, h1, rfl⟩ := List.mem_map.1 h
  obtain ⟨k, hk⟩ := List.getElem?_of_mem h1
  rw [pos_hit hs hk]
  exact ⟨s, hk, rfl⟩
theorem pos_next (hs : SrtS l) (h : i ∉ l.map Spec.id) (hk : l[posI l i]? = some s) : i < s.id := by
  have h1 : ¬ s.id < i := fun h => by have := (pos_lt hs hk).1 h; omega
  have h2 : s.id ≠ i := fun e => h (List.mem_map.2 ⟨s, List.mem_of_getElem? hk, e⟩)
  omega
/-- What a search says. -/
theorem pos_is (hs : SrtS l) (h1 : ∀ t s, t < k → l[t]? = some s → s.id < i) (h2 : ∀ t s, k ≤ t → l[t]? = some s → ¬ s.id < i) (hk : k ≤ l.length) : posI l i = k := by
  have hp := pos_le l i
  rcases Nat.lt_trichotomy (posI l i) k with h | h | h
  · have e : l[posI l i]? = some l[posI l i] := List.getElem?_eq_getElem (by omega)
    have := (pos_lt hs e).1 (h1 _ _ h e)
    omega
  · exact h
  · have e : l[k]? = some l[k] := List.getElem?_eq_getElem (by omega)
    exact absurd ((pos_lt hs e).2 h) (h2 _ _ (Nat.le_refl _) e)
theorem take_pos (hs : SrtS l) : ∀ x ∈ l.take (posI l i), x.id < i := fun x hx => by
  obtain ⟨k, hk⟩ := List.getElem?_of_mem hx
  rw [List.getElem?_take] at hk
  split at hk
  · rename_i h; exact (pos_lt hs hk).2 h
  · cases hk
theorem drop_pos (hs : SrtS l) : ∀ x ∈ l.drop (posI l i), ¬ x.id < i := fun x hx h => by
  obtain ⟨k, hk⟩ := List.getElem?_of_mem hx
  rw [List.getElem?_drop] at hk
  have := (pos_lt hs hk).1 h
  omega
theorem insS_srt (hs : SrtS l) (hn : s.id ∉ l.map Spec.id) : SrtS (insS l s) := by
  unfold insS SrtS
  rw [List.pairwise_append, List.pairwise_cons]
  have hlt : ∀ x ∈ l.drop (posI l s.id), s.id < x.id := fun x hx => by
    have h1 := drop_pos hs x hx
    have h2 : x.id ≠ s.id := fun e => hn (List.mem_map.2 ⟨x, List.mem_of_mem_drop hx, e⟩)
    omega
  refine ⟨hs.sublist (List.take_sublist _ _), ⟨hlt, hs.sublist (List.drop_sublist _ _)⟩, fun x hx y hy => ?_⟩
  have h1 := take_pos hs x hx
  rcases List.mem_cons.1 hy with rfl | hy
  · exact h1
  · have := hlt y hy; omega
theorem insS_mem (x : Spec) : x ∈ insS l s ↔ x ∈ l ∨ x = s := by
  unfold insS
  rw [List.mem_append, List.mem_cons]
  have := List.mem_append (a := x) (s := l.take (posI l s.id)) (t := l.drop (posI l s.id))
  rw [List.take_append_drop] at this
  rw [this]
  grind
theorem insS_len : (insS l s).length = l.length + 1 := by
  unfold insS
  have := pos_le l s.id
  simp
  omega
theorem srtS_nodup (hs : SrtS l) : (l.map Spec.id).Nodup := by
  rw [List.nodup_iff_pairwise_ne, List.pairwise_map]
  exact hs.imp fun {a b} h => by omega
theorem srtS_uniq : ∀ {xs ys : List Spec}, SrtS xs → SrtS ys → (∀ n, n ∈ xs ↔ n ∈ ys) → xs = ys
  | [], [], _, _, _ => rfl
  | [], y :: ys, _, _, h => absurd ((h y).2 (by simp)) (by simp)
  | x :: xs, [], _, _, h => absurd ((h x).1 (by simp)) (by simp)
  | x :: xs, y :: ys, hx, hy, h => by
    obtain ⟨h1, h2⟩ := List.pairwise_cons.1 hx
    obtain ⟨k1, k2⟩ := List.pairwise_cons.1 hy
    have e : x = y := by
      rcases List.mem_cons.1 ((h x).1 (by simp)) with e | e
      · exact e
      · rcases List.mem_cons.1 ((h y).2 (by simp)) with e' | e'
        · exact e'.symm
        · have := h1 y e'; have := k1 x e; omega
    subst e
    congr 1
    refine srtS_uniq h2 k2 fun n => ?_
    constructor
    · intro hn
      rcases List.mem_cons.1 ((h n).1 (List.mem_cons_of_mem _ hn)) with e | e
      · subst e; have := h1 n hn; omega
      · exact e
    · intro hn
      rcases List.mem_cons.1 ((h n).2 (List.mem_cons_of_mem _ hn)) with e | e
      · subst e; have := k1 n hn; omega
      · exact e
theorem removeL_srt (hs : SrtS l) (i : Int) : SrtS (removeL l i) := hs.filter _
theorem removeL_no (h : i ∉ l.map Spec.id) : removeL l i = l := List.filter_eq_self.2 fun x hx => by simpa using fun e => h (List.mem_map.2 ⟨x, hx, e⟩)
/-- Without the element at its place. -/
theorem removeL_cut (hs : SrtS l) (h : i ∈ l.map Spec.id) : l.take (posI l i) ++ l.drop (posI l i + 1) = removeL l i := by
  obtain ⟨s, h1, rfl⟩ := pos_there hs h
  have hl := (List.getElem?_eq_some_iff.1 h1).1
  have e : l = l.take (posI l s.id) ++ s :: l.drop (posI l s.id + 1) := by
    have := List.drop_eq_getElem_cons hl
    have h3 : l[posI l s.id] = s := (List.getElem?_eq_some_iff.1 h1).2
    rw [h3] at this
    rw [← this, List.take_append_drop]
  have k1 := take_pos (i := s.id) hs
  have k2 : ∀ x ∈ l.drop (posI l s.id + 1), s.id < x.id := fun x hx => by
    obtain ⟨k, hk⟩ := List.getElem?_of_mem hx
    rw [List.getElem?_drop] at hk
    have hk2 := (List.getElem?_eq_some_iff.1 hk)
    have := List.pairwise_iff_getElem.1 hs (posI l s.id) (posI l s.id + 1 + k) hl hk2.1 (by omega)
    rw [hk2.2, (List.getElem?_eq_some_iff.1 h1).2] at this
    exact this
  have e2 := congrArg (fun z => removeL z s.id) e
  have e1 : (l.take (posI l s.id)).filter (fun x => decide (x.id ≠ s.id)) = l.take (posI l s.id) := List.filter_eq_self.2 fun x hx => by have := k1 x hx; simp; omega
  have e3 : (l.drop (posI l s.id + 1)).filter (fun x => decide (x.id ≠ s.id)) = l.drop (posI l s.id + 1) := List.filter_eq_self.2 fun x hx => by have := k2 x hx; simp; omega
  rw [e2]
  unfold removeL
  rw [List.filter_append, List.filter_cons, e1, e3]
  simp
theorem enterL_no (h : enterE l s ≠ 0) : enterL l s = l := if_neg h
theorem removeE_no (h : removeE l i ≠ 0) : removeL l i = l := by
  unfold removeE at h
  split at h
  · exact absurd rfl h
  · rename_i h'; exact removeL_no h'
/-- What a list of a corpus is. -/
structure LisW (l : List Spec) : Prop where
  srt : SrtS l
  ok : ∀ s ∈ l, specB s = true
  len : l.length ≤ 64
theorem LisW.nil : LisW [] := ⟨List.Pairwise.nil, by simp, by simp⟩
theorem enterE_zero (h : enterE l s = 0) : specB s = true ∧ s.id ∉ l.map Spec.id ∧ l.length < 64 := by
  unfold enterE at h
  split at h
  · split at h
    · cases h
    · split at h
      · cases h
      · exact ⟨by assumption, by assumption, by omega⟩
  · cases h
theorem LisW.enter (h : LisW l) (s : Spec) : LisW (enterL l s) := by
  unfold enterL
  split
  · rename_i he
    obtain ⟨h1, h2, h3⟩ := enterE_zero he
    refine ⟨insS_srt h.srt h2, fun x hx => ?_, by rw [insS_len]; omega⟩
    rcases (insS_mem x).1 hx with hx | rfl
    · exact h.ok x hx
    · exact h1
  · exact h
theorem LisW.remove (h : LisW l) (i : Int) : LisW (removeL l i) :=
  ⟨removeL_srt h.srt i, fun x hx => h.ok x (List.mem_filter.1 hx).1, Nat.le_trans (List.length_filter_le _ _) h.len⟩
theorem LisW.check (h : LisW l) : checkE l = 0 := by
  have h1 := h.len
  simp only [checkE, if_neg (show ¬ 64 < l.length by omega), if_pos (List.all_eq_true.2 h.ok), if_pos (srtS_nodup h.srt)]
theorem LisW.check_snoc (h : LisW l) (he : enterE l s = 0) : checkE (l ++ [s]) = 0 := by
  obtain ⟨h1, h2, h3⟩ := enterE_zero he
  have k1 : ¬ 64 < (l ++ [s]).length := by simp; omega
  have k2 : (l ++ [s]).all specB = true := List.all_eq_true.2 fun x hx => by
    rcases List.mem_append.1 hx with hx | hx
    · exact h.ok x hx
    · simp at hx; rw [hx]; exact h1
  have k3 : ((l ++ [s]).map Spec.id).Nodup := by
    rw [List.map_append, List.nodup_append]
    refine ⟨srtS_nodup h.srt, by simp, fun a ha b hb e => ?_⟩
    simp at hb
    subst hb; subst e
    exact h2 ha
  simp only [checkE, if_neg k1, if_pos k2, if_pos k3]
end
end Go.Proofs.YthnckicnnhkkaaaGreat
/- Names of numbers that decisions make the same, records, the effective list and the claims, plain. No program in sight, no condition. -/
namespace Go.Proofs.YthnckicnnhkkaaaGreat
open Go.RowKit Go.Maps

/-! ### The least of the numbers that are the same -/
def joinN (r : Int → Int) (e : Int × Int) : Int → Int := fun x => if r x = max (r e.1) (r e.2) then min (r e.1) (r e.2) else r x
def nameF (E : List (Int × Int)) : Int → Int := E.foldl joinN id
theorem nameF_snoc (E : List (Int × Int)) (e : Int × Int) : nameF (E ++ [e]) = joinN (nameF E) e := by simp [nameF, List.foldl_append]
theorem nameF_rec {p : List (Int × Int) → Prop} (h0 : p []) (h1 : ∀ E e, p E → p (E ++ [e])) (E : List (Int × Int)) : p E := by
  have : ∀ (n : Nat) (E : List (Int × Int)), E.length = n → p E := by
    intro n
    induction n with
    | zero => intro E h; rw [List.eq_nil_of_length_eq_zero h]; exact h0
    | succ n ih =>
      intro E h
      rcases List.eq_nil_or_concat E with rfl | ⟨E', e, rfl⟩
      · exact h0
      · rw [List.concat_eq_append]; exact h1 E' e (ih E' (by simpa using h))
  exact this _ E rfl
theorem nameF_le (E : List (Int × Int)) : ∀ x, nameF E x ≤ x := by
  induction E using nameF_rec with
  | h0 => intro x; exact Int.le_refl _
  | h1 E e ih =>
    intro x
    rw [nameF_snoc]
    unfold joinN
    have := ih x
    split <;> omega
theorem nameF_idem (E : List (Int × Int)) : ∀ x, nameF E (nameF E x) = nameF E x := by
  induction E using nameF_rec with
  | h0 => intro x; rfl
  | h1 E e ih =>
    intro x
    rw [nameF_snoc]
    have h1 := ih e.1; have h2 := ih e.2; have h3 := ih x
    unfold joinN
    generalize hr : nameF E = r at *
    by_cases c : r x = max (r e.1) (r e.2)
    · rw [if_pos c]
      rcases Int.le_total (r e.1) (r e.2) with h | h
      · rw [Int.min_eq_left h, Int.max_eq_right h, h1]; split <;> omega
      · rw [Int.min_eq_right h, Int.max_eq_left h, h2]; split <;> omega
    · rw [if_neg c, h3, if_neg c]
theorem nameF_edge {E : List (Int × Int)} {e : Int × Int} (h : e ∈ E) : nameF E e.1 = nameF E e.2 := by
  induction E using nameF_rec with
  | h0 => simp at h
  | h1 E d ih =>
    rw [nameF_snoc]
    unfold joinN
    rcases List.mem_append.1 h with h | h
    · rw [ih h]
    · simp at h
      subst h
      split <;> split <;> omega
/-- A set that holds with one end of an edge the other one holds with a number all that have its name. -/
theorem nameF_closed (p : Int → Prop) (E : List (Int × Int)) : (∀ e ∈ E, p e.1 ↔ p e.2) → ∀ x y, nameF E x = nameF E y → (p x ↔ p y) := by
  induction E using nameF_rec with
  | h0 => intro _ x y h; have h' : x = y := h; rw [h']
  | h1 E e ih =>
    intro hp x y h
    have ih' := ih fun d hd => hp d (List.mem_append_left _ hd)
    have he := hp e (by simp)
    rw [nameF_snoc] at h
    unfold joinN at h
    by_cases h0 : nameF E x = nameF E y
    · exact ih' x y h0
    · have h1 := ih' x e.1; have h2 := ih' x e.2; have h3 := ih' y e.1; have h4 := ih' y e.2
      generalize hr : nameF E = r at *
      rcases Int.le_total (r e.1) (r e.2) with hle | hle
      · rw [Int.min_eq_left hle, Int.max_eq_right hle] at h
        split at h <;> split at h
        · omega
        · rw [h2 (by assumption), h3 h.symm, he]
        · rw [h1 h, h4 (by assumption), he]
        · exact absurd h h0
      · rw [Int.min_eq_right hle, Int.max_eq_left hle] at h
        split at h <;> split at h
        · omega
        · rw [h1 (by assumption), h4 h.symm, he]
        · rw [h2 h, h3 (by assumption), he]
        · exact absurd h h0
theorem nameF_pos (E : List (Int × Int)) (h : ∀ e ∈ E, 1 ≤ e.1 ∧ 1 ≤ e.2) : ∀ x, 1 ≤ x → 1 ≤ nameF E x := by
  induction E using nameF_rec with
  | h0 => intro x hx; exact hx
  | h1 E e ih =>
    intro x hx
    rw [nameF_snoc]
    have ih' := ih fun d hd => h d (List.mem_append_left _ hd)
    obtain ⟨h1, h2⟩ := h e (by simp)
    have := ih' _ h1; have := ih' _ h2; have := ih' x hx
    unfold joinN
    split <;> omega
/-- Edges: the numbers of the decisions of a kind. -/
def edgK (L : List Dec) (k : Int) : List (Int × Int) := (L.filter fun d => decide (d.ki = k)).map fun d => (d.a, d.b)
theorem edgK_snoc (L : List Dec) (d : Dec) (k : Int) : edgK (L ++ [d]) k = edgK L k ++ (if d.ki = k then [(d.a, d.b)] else []) := by
  unfold edgK
  rw [List.filter_append, List.map_append]
  by_cases h : d.ki = k <;> simp [h]
theorem edgK_mem {L : List Dec} {k : Int} {e : Int × Int} : e ∈ edgK L k ↔ ∃ d ∈ L, d.ki = k ∧ (d.a, d.b) = e := by
  unfold edgK
  simp only [List.mem_map, List.mem_filter, decide_eq_true_eq, and_assoc]
/-- The name of a number by decisions of a kind. -/
def nameK (L : List Dec) (k : Int) : Int → Int := nameF (edgK L k)
/-- What a map of names says. -/
structure NamI (m : List (Int × Int)) (r : Int → Int) : Prop where
  some : ∀ k n, lookM m k = some n → 1 ≤ n ∧ n < k ∧ r k = r n
  none : ∀ k, lookM m k = none → r k = k
theorem NamI.nil : NamI [] id := ⟨fun _ _ h => by simp [lookM] at h, fun _ _ => rfl⟩

/-! ### Records -/
def recI (c : Int → Int) (l : List Spec) (x : Int) : Int := match l.find? (fun t => decide (c t.id = c x)) with
  | some t => t.id
  | none => 0
def renS (L : List Dec) (s : Spec) : Spec := { s with obv := nameK L 1 s.obv, rev := nameK L 2 s.rev }
def recL (c : Int → Int) (l : List Spec) : List Spec := l.filter fun s => decide (recI c l s.id = s.id)
def effL (L : List Dec) (l : List Spec) : List Spec := (recL (nameK L 4) l).map (renS L)
section
variable {c : Int → Int} {l : List Spec} {s t : Spec} {x : Int} {k : Nat}
theorem recI_congr {x y : Int} (h : c x = c y) : recI c l x = recI c l y := by unfold recI; rw [h]
theorem inj_id (hs : SrtS l) (h1 : s ∈ l) (h2 : t ∈ l) (e : s.id = t.id) : s = t := by
  obtain ⟨i, hi⟩ := List.getElem?_of_mem h1
  obtain ⟨j, hj⟩ := List.getElem?_of_mem h2
  have := pos_hit hs hi; have h3 := pos_hit hs hj
  rw [← e, this] at h3
  subst h3
  rw [hi] at hj
  exact Option.some.inj hj
theorem find_take (hk : l[k]? = some s) (h : (l.take k).find? (fun t => decide (c t.id = c s.id)) = none) : recI c l s.id = s.id := by
  unfold recI
  have e : l = l.take k ++ s :: l.drop (k + 1) := by
    have hl := (List.getElem?_eq_some_iff.1 hk)
    have := List.drop_eq_getElem_cons hl.1
    rw [hl.2] at this
    rw [← this, List.take_append_drop]
  rw [e, List.find?_append, h]
  simp
theorem find_take' (hs : SrtS l) (hk : l[k]? = some s) {t : Spec} (h : (l.take k).find? (fun t => decide (c t.id = c s.id)) = some t) : recI c l s.id ≠ s.id := by
  unfold recI
  have e := List.take_append_drop k l
  have h1 : l.find? (fun t => decide (c t.id = c s.id)) = some t := by rw [← e, List.find?_append, h]; rfl
  rw [h1]
  intro he
  have he' : t.id = s.id := he
  have hm := List.mem_of_find?_eq_some h
  obtain ⟨j, hj⟩ := List.getElem?_of_mem hm
  rw [List.getElem?_take] at hj
  split at hj
  · have h3 := pos_hit hs hj
    have h4 := pos_hit hs hk
    rw [he', h4] at h3
    omega
  · cases hj
theorem recL_take_snoc (hk : l[k]? = some s) : (l.take (k + 1)).filter (fun s => decide (recI c l s.id = s.id)) = (l.take k).filter (fun s => decide (recI c l s.id = s.id)) ++ (if recI c l s.id = s.id then [s] else []) := by
  have e : l.take (k + 1) = l.take k ++ [s] := by rw [List.take_add_one, hk]; rfl
  rw [e, List.filter_append]
  by_cases h : recI c l s.id = s.id <;> simp [h]
end

/-! ### Claims -/
/-- The pairs of records of the decisions that one coin is earlier. -/
def rawC (L : List Dec) (l : List Spec) : List Pair :=
  ((L.filter fun d => decide (d.ki = 3)).map fun d => ⟨recI (nameK L 4) l d.a, recI (nameK L 4) l d.b⟩).filter fun p => decide (p.a ≠ 0) && decide (p.b ≠ 0) && decide (p.a ≠ p.b)
/-- The same pairs, each once, in order. -/
def ClaL (raw out : List Pair) : Prop := out.Pairwise ltP ∧ ∀ p, p ∈ out ↔ p ∈ raw
theorem ClaL.uniq {raw out out' : List Pair} (h : ClaL raw out) (h' : ClaL raw out') : out = out' :=
  ord_unique (fun h k => ltP_asym h k) h.1 h'.1 fun p => (h.2 p).trans (h'.2 p).symm
theorem ClaL.same {raw raw' out out' : List Pair} (hr : ∀ p, p ∈ raw ↔ p ∈ raw') (h : ClaL raw out) (h' : ClaL raw' out') : out = out' :=
  ord_unique (fun h k => ltP_asym h k) h.1 h'.1 fun p => (h.2 p).trans ((hr p).trans (h'.2 p).symm)
theorem claL_compact {raw zs : List Pair} (h : ByPair raw zs) : ClaL raw (Lib.compact zs) := by
  obtain ⟨h1, h2⟩ := compact_asc (fun a b : Pair => ¬ ltP b a) (fun h1 h2 h3 => by unfold ltP at *; omega) (fun {a b} h1 h2 => by
    unfold ltP at *
    have e1 : a.a = b.a := by omega
    have e2 : a.b = b.b := by omega
    cases a; cases b; simp_all) zs h.2
  refine ⟨h1.imp fun {a b} h => ?_, fun p => by rw [h2, h.1.mem_iff]⟩
  obtain ⟨h1, h2⟩ := h
  unfold ltP at *
  by_cases e1 : a.a = b.a
  · by_cases e2 : a.b = b.b
    · exact absurd (by cases a; cases b; simp_all) h2
    · omega
  · omega

/-! ### The class of a number, as it is found round by round -/
structure ClassOf (E : List (Int × Int)) (n : Int) (out : List Int) : Prop where
  mem : ∀ y, y ∈ out ↔ nameF E y = nameF E n
theorem classOf_of {E : List (Int × Int)} {n : Int} {out : List Int} (h0 : n ∈ out) (h1 : ∀ y ∈ out, nameF E y = nameF E n) (h2 : ∀ e ∈ E, e.1 ∈ out ↔ e.2 ∈ out) : ClassOf E n out :=
  ⟨fun y => ⟨h1 y, fun h => (nameF_closed (· ∈ out) E h2 y n h).2 h0⟩⟩
end Go.Proofs.YthnckicnnhkkaaaGreat
