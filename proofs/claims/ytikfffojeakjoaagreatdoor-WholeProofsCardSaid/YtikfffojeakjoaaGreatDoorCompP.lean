/- Components of a list under a relation, plain: the first of each, the number of each element's. No program in sight, no condition. -/
import Derived.Test.YtikfffojeakjoaaGreatDoorJoinP
import Derived.Test.YtikfffojeakjoaaGreatDoorLib2
namespace Go.Proofs.YtikfffojeakjoaaGreatDoor
open Go.RowKit

section
variable {α : Type} (R : α → α → Bool)
def repsStep (rs : List α) (d : α) : List α := if rs.any (fun r => R r d) then rs else rs ++ [d]
/-- The first element of each component. -/
def repsA (ds : List α) : List α := ds.foldl (repsStep R) []
def partI (rs : List α) (d : α) : Nat := rs.findIdx fun r => R r d
def partsA (ds : List α) : List Int := ds.map fun d => ((partI R (repsA R ds) d : Nat) : Int)
def chainsA (ds : List α) : List (List α) := (List.range (repsA R ds).length).map fun k => ds.filter fun d => decide (partI R (repsA R ds) d = k)
/-- What is asked of the relation. -/
structure Rel (ds : List α) : Prop where
  refl : ∀ d ∈ ds, R d d = true
  symm : ∀ a b, R a b = true → R b a = true
  trans : ∀ a b c, R a b = true → R b c = true → R a c = true
end
section
variable {α : Type} {R : α → α → Bool} {ds : List α}
theorem repsA_snoc (ds : List α) (d : α) : repsA R (ds ++ [d]) = repsStep R (repsA R ds) d := by rw [repsA, List.foldl_append]; rfl
theorem repsA_old {d : α} (h : (repsA R ds).any (fun r => R r d) = true) : repsA R (ds ++ [d]) = repsA R ds := by rw [repsA_snoc, repsStep, if_pos h]
theorem repsA_new {d : α} (h : (repsA R ds).any (fun r => R r d) = false) : repsA R (ds ++ [d]) = repsA R ds ++ [d] := by rw [repsA_snoc, repsStep, if_neg (by simp [h])]
theorem repsA_pre (ds es : List α) : repsA R ds <+: repsA R (ds ++ es) := by
  induction es generalizing ds with
  | nil => rw [List.append_nil]; exact List.prefix_refl _
  | cons e es ih =>
    rw [show ds ++ e :: es = (ds ++ [e]) ++ es by simp]
    refine List.IsPrefix.trans ?_ (ih (ds ++ [e]))
    rw [repsA_snoc, repsStep]
    split
    · exact List.prefix_refl _
    · exact List.prefix_append _ _
theorem repsA_take (ds : List α) (k : Nat) : repsA R (ds.take k) <+: repsA R ds := by
  have := repsA_pre (R := R) (ds.take k) (ds.drop k)
  rwa [List.take_append_drop] at this
theorem repsA_sub (ds : List α) : (repsA R ds).Sublist ds := by
  have : ∀ k, k ≤ ds.length → (repsA R (ds.take k)).Sublist (ds.take k) := by
    intro k
    induction k with
    | zero => intro _; exact List.Sublist.refl _
    | succ k ih =>
      intro hk
      obtain ⟨d, hd⟩ := get_of_lt (show k < ds.length by omega)
      rw [take_snoc' hd, repsA_snoc, repsStep]
      split
      · exact (ih (by omega)).trans (List.sublist_append_left _ _)
      · exact (ih (by omega)).append (List.Sublist.refl _)
  have := this ds.length (Nat.le_refl _)
  rwa [List.take_length] at this
theorem repsA_len (ds : List α) : (repsA R ds).length ≤ ds.length := (repsA_sub ds).length_le
theorem findIdx_pre {p : α → Bool} {rs ts : List α} (h : rs <+: ts) (ha : rs.any p = true) : ts.findIdx p = rs.findIdx p := by
  obtain ⟨us, rfl⟩ := h
  rw [List.findIdx_append, if_pos]
  rw [List.findIdx_lt_length]
  exact List.any_eq_true.1 ha
theorem findIdx_new {p : α → Bool} {rs : List α} {d : α} (ha : rs.any p = false) (hd : p d = true) : (rs ++ [d]).findIdx p = rs.length := by
  have : rs.findIdx p = rs.length := by
    rw [List.findIdx_eq_length]
    intro x hx
    rw [← Bool.not_eq_true]
    intro h
    rw [← Bool.not_eq_true] at ha
    exact ha (List.any_eq_true.2 ⟨x, hx, h⟩)
  rw [List.findIdx_append, this, if_neg (by omega), List.findIdx_cons, hd]
  simp
/-- Each element has its first one. -/
theorem reps_any (hr : Rel R ds) : ∀ d ∈ ds, (repsA R ds).any (fun r => R r d) = true := by
  have : ∀ k, k ≤ ds.length → ∀ d ∈ ds.take k, (repsA R (ds.take k)).any (fun r => R r d) = true := by
    intro k
    induction k with
    | zero => intro _ d hd; cases hd
    | succ k ih =>
      intro hk d hd
      obtain ⟨e, he⟩ := get_of_lt (show k < ds.length by omega)
      rw [take_snoc' he] at hd ⊢
      rcases List.mem_append.1 hd with hd | hd
      · obtain ⟨r, h1, h2⟩ := List.any_eq_true.1 (ih (by omega) d hd)
        exact List.any_eq_true.2 ⟨r, (repsA_pre _ _).subset h1, h2⟩
      · rw [List.mem_singleton] at hd
        subst hd
        cases ha : (repsA R (ds.take k)).any (fun r => R r d)
        · rw [repsA_new ha]
          exact List.any_eq_true.2 ⟨d, by simp, hr.refl d (List.mem_of_getElem? he)⟩
        · rw [repsA_old ha]; exact ha
  have := this ds.length (Nat.le_refl _)
  rwa [List.take_length] at this
theorem Rel.take (hr : Rel R ds) (k : Nat) : Rel R (ds.take k) := ⟨fun d hd => hr.refl d (List.mem_of_mem_take hd), hr.symm, hr.trans⟩
theorem any_reps (hr : Rel R ds) (d : α) : (repsA R ds).any (fun r => R r d) = ds.any (fun r => R r d) := by
  rw [Bool.eq_iff_iff, List.any_eq_true, List.any_eq_true]
  constructor
  · rintro ⟨r, h1, h2⟩; exact ⟨r, (repsA_sub ds).subset h1, h2⟩
  · rintro ⟨x, h1, h2⟩
    obtain ⟨r, h3, h4⟩ := List.any_eq_true.1 (reps_any hr x h1)
    exact ⟨r, h3, hr.trans _ _ _ h4 h2⟩
theorem firstsA_reps (hr : Rel R ds) : firstsA R [] ds = (repsA R ds).length := by
  have : ∀ k, k ≤ ds.length → firstsA R [] (ds.take k) = (repsA R (ds.take k)).length := by
    intro k
    induction k with
    | zero => intro _; rfl
    | succ k ih =>
      intro hk
      obtain ⟨d, hd⟩ := get_of_lt (show k < ds.length by omega)
      rw [take_snoc' hd, firstsA_snoc, ih (by omega), List.nil_append, ← any_reps (hr.take k) d]
      cases ha : (repsA R (ds.take k)).any (fun r => R r d)
      · rw [repsA_new ha]; simp
      · rw [repsA_old ha]; simp
  have := this ds.length (Nat.le_refl _)
  rwa [List.take_length] at this
/-- Two of the first ones are not related. -/
theorem reps_apart : (repsA R ds).Pairwise fun a b => R a b = false := by
  have : ∀ k, k ≤ ds.length → (repsA R (ds.take k)).Pairwise fun a b => R a b = false := by
    intro k
    induction k with
    | zero => intro _; exact List.Pairwise.nil
    | succ k ih =>
      intro hk
      obtain ⟨d, hd⟩ := get_of_lt (show k < ds.length by omega)
      rw [take_snoc' hd]
      cases ha : (repsA R (ds.take k)).any (fun r => R r d)
      · rw [repsA_new ha, List.pairwise_append]
        refine ⟨ih (by omega), by simp, fun a h b hb => ?_⟩
        rw [List.mem_singleton] at hb
        subst hb
        rw [← Bool.not_eq_true]
        intro h2
        rw [← Bool.not_eq_true] at ha
        exact ha (List.any_eq_true.2 ⟨a, h, h2⟩)
      · rw [repsA_old ha]; exact ih (by omega)
  have := this ds.length (Nat.le_refl _)
  rwa [List.take_length] at this
theorem part_lt {d : α} (h : (repsA R ds).any (fun r => R r d) = true) : partI R (repsA R ds) d < (repsA R ds).length := by
  rw [partI, List.findIdx_lt_length]; exact List.any_eq_true.1 h
/-- Two elements have the same number just when they are related. -/
theorem part_eq (hr : Rel R ds) {a b : α} (ha : a ∈ ds) (hb : b ∈ ds) : partI R (repsA R ds) a = partI R (repsA R ds) b ↔ R a b = true := by
  have h1 := reps_any hr a ha
  have h2 := reps_any hr b hb
  have l1 := part_lt h1
  have l2 := part_lt h2
  have q1 : R ((repsA R ds)[partI R (repsA R ds) a]) a = true := List.findIdx_getElem (w := l1)
  have q2 : R ((repsA R ds)[partI R (repsA R ds) b]) b = true := List.findIdx_getElem (w := l2)
  constructor
  · intro e
    have q3 : R ((repsA R ds)[partI R (repsA R ds) a]) b = true := by simpa only [e] using q2
    exact hr.trans _ _ _ (hr.symm _ _ q1) q3
  · intro h
    refine Classical.byContradiction fun hne => ?_
    have hp := List.pairwise_iff_getElem.1 (reps_apart (R := R) (ds := ds))
    have hrr := hr.trans _ _ _ (hr.trans _ _ _ q1 h) (hr.symm _ _ q2)
    rcases Nat.lt_or_ge (partI R (repsA R ds) a) (partI R (repsA R ds) b) with hlt | hge
    · rw [hp _ _ l1 l2 hlt] at hrr; cases hrr
    · have := hr.symm _ _ hrr
      rw [hp _ _ l2 l1 (by omega)] at this; cases this
theorem part_rep (hr : Rel R ds) {k : Nat} (hk : k < (repsA R ds).length) : partI R (repsA R ds) (repsA R ds)[k] = k := by
  have hm : (repsA R ds)[k] ∈ ds := (repsA_sub ds).subset (List.getElem_mem hk)
  have h1 := reps_any hr _ hm
  have l1 := part_lt h1
  have q1 : R ((repsA R ds)[partI R (repsA R ds) (repsA R ds)[k]]) (repsA R ds)[k] = true := List.findIdx_getElem (w := l1)
  refine Classical.byContradiction fun hne => ?_
  have hp := List.pairwise_iff_getElem.1 (reps_apart (R := R) (ds := ds))
  rcases Nat.lt_or_ge (partI R (repsA R ds) (repsA R ds)[k]) k with hlt | hge
  · rw [hp _ _ l1 hk hlt] at q1; cases q1
  · have := hr.symm _ _ q1
    rw [hp _ _ hk l1 (by omega)] at this; cases this
theorem repsA_congr {R' : α → α → Bool} (h : ∀ a ∈ ds, ∀ b ∈ ds, R a b = R' a b) : repsA R ds = repsA R' ds := by
  have : ∀ k, k ≤ ds.length → repsA R (ds.take k) = repsA R' (ds.take k) := by
    intro k
    induction k with
    | zero => intro _; rfl
    | succ k ih =>
      intro hk
      obtain ⟨d, hd⟩ := get_of_lt (show k < ds.length by omega)
      have e : (repsA R (ds.take k)).any (fun r => R r d) = (repsA R (ds.take k)).any (fun r => R' r d) := by
        rw [Bool.eq_iff_iff, List.any_eq_true, List.any_eq_true]
        have hs : ∀ r ∈ repsA R (ds.take k), R r d = R' r d := fun r hr => h r (List.mem_of_mem_take ((repsA_sub _).subset hr)) d (List.mem_of_getElem? hd)
        exact ⟨fun ⟨r, h1, h2⟩ => ⟨r, h1, by rw [← hs r h1]; exact h2⟩, fun ⟨r, h1, h2⟩ => ⟨r, h1, by rw [hs r h1]; exact h2⟩⟩
      rw [take_snoc' hd, repsA_snoc, repsA_snoc, repsStep, repsStep, ← ih (by omega), e]
  have := this ds.length (Nat.le_refl _)
  rwa [List.take_length] at this
theorem partI_congr {R' : α → α → Bool} {rs : List α} {d : α} (h : ∀ r ∈ rs, R r d = R' r d) : partI R rs d = partI R' rs d := by
  induction rs with
  | nil => rfl
  | cons r rs ih =>
    unfold partI at ih ⊢
    rw [List.findIdx_cons, List.findIdx_cons, h r (by simp), ih fun r hr => h r (by simp [hr])]
theorem partsA_congr {R' : α → α → Bool} (h : ∀ a ∈ ds, ∀ b ∈ ds, R a b = R' a b) : partsA R ds = partsA R' ds := by
  rw [partsA, partsA, ← repsA_congr h]
  refine List.map_congr_left fun d hd => ?_
  rw [partI_congr fun r hr => h r ((repsA_sub _).subset hr) d hd]
theorem chainsA_congr {R' : α → α → Bool} (h : ∀ a ∈ ds, ∀ b ∈ ds, R a b = R' a b) : chainsA R ds = chainsA R' ds := by
  rw [chainsA, chainsA, ← repsA_congr h]
  refine List.map_congr_left fun k _ => List.filter_congr fun d hd => ?_
  rw [partI_congr fun r hr => h r ((repsA_sub _).subset hr) d hd]
end
/-- The relation of joined dies. -/
theorem rel_join {E : List (Die × Die)} {ds : List Die} (h : ∀ d ∈ ds, EndE E d) : Rel (joinB E) ds where
  refl d hd := joinB_iff.2 ⟨h d hd, h d hd, .refl _⟩
  symm a b hab := by rw [joinB_iff] at hab ⊢; exact ⟨hab.2.1, hab.1, hab.2.2.symm⟩
  trans a b c hab hbc := by rw [joinB_iff] at hab hbc ⊢; exact ⟨hab.1, hbc.2.1, hab.2.2.trans hbc.2.2⟩
end Go.Proofs.YtikfffojeakjoaaGreatDoor
/- Dies reached from a die, step by step: plain. No program in sight, no condition. -/
namespace Go.Proofs.YtikfffojeakjoaaGreatDoor
open Go.RowKit

def lA (x : Link) : Die := ⟨0, x.obv⟩
def lB (x : Link) : Die := ⟨1, x.rev⟩
theorem lA_ne (x y : Link) : lA x ≠ lB y := fun h => by
  have := congrArg Die.side h
  simp [lA, lB] at this
/-- The other die of a link. -/
def acrO (x : Link) (d : Die) : Option Die := if d = lA x then some (lB x) else if d = lB x then some (lA x) else none
def acrD (x : Link) (d : Die) : Die := (acrO x d).getD ⟨0, 0⟩
def Nbr (E : List (Die × Die)) (a b : Die) : Prop := (a, b) ∈ E ∨ (b, a) ∈ E
theorem acr_nbr {g : Graph} {a b : Die} : Nbr (edgesG g) a b ↔ ∃ x ∈ g.links, acrO x a = some b := by
  unfold Nbr edgesG
  simp only [List.mem_map, Prod.mk.injEq]
  constructor
  · rintro (⟨x, hx, rfl, rfl⟩ | ⟨x, hx, rfl, rfl⟩)
    · exact ⟨x, hx, show acrO x (lA x) = some (lB x) by rw [acrO, if_pos rfl]⟩
    · exact ⟨x, hx, show acrO x (lB x) = some (lA x) by rw [acrO, if_neg (fun h => lA_ne x x h.symm), if_pos rfl]⟩
  · rintro ⟨x, hx, h⟩
    unfold acrO at h
    split at h
    · rename_i e; cases h; exact .inl ⟨x, hx, e.symm, rfl⟩
    · split at h
      · rename_i e; cases h; exact .inr ⟨x, hx, rfl, e.symm⟩
      · cases h
theorem Con.nbr {E : List (Die × Die)} {a b c : Die} (h : Con E a b) (k : Nbr E b c) : Con E a c := by
  rcases k with k | k
  · exact h.fwd k
  · exact h.bwd k
theorem Nbr.end {E : List (Die × Die)} {a b : Die} (h : Nbr E a b) : EndE E b := by
  rcases h with h | h
  · exact ⟨_, h, .inr rfl⟩
  · exact ⟨_, h, .inl rfl⟩
theorem con_closed {E : List (Die × Die)} {K : List Die} {a b : Die} (h : Con E a b) (ha : a ∈ K) (hc : ∀ d ∈ K, ∀ e, Nbr E d e → e ∈ K) : b ∈ K := by
  induction h with
  | refl => exact ha
  | fwd _ he ih => exact hc _ ih _ (.inl he)
  | bwd _ he ih => exact hc _ ih _ (.inr he)
/-- A search from a die: what is known, and what is still to be done. -/
structure Bfs (g : Graph) (s : Die) (m : List (Die × Int)) (Q : List Die) : Prop where
  nod : (m.map Prod.fst).Nodup
  con : ∀ d ∈ m.map Prod.fst, Con (edgesG g) s d
  start : s ∈ m.map Prod.fst
  que : ∀ d ∈ Q, d ∈ m.map Prod.fst
  sub : ∀ d ∈ m.map Prod.fst, d ∈ s :: (g.links.map lA ++ g.links.map lB)
  clo : ∀ d ∈ m.map Prod.fst, d ∉ Q → ∀ e, Nbr (edgesG g) d e → e ∈ m.map Prod.fst
  rng : ∀ p ∈ m, 0 ≤ p.2 ∧ p.2 < m.length
section
variable {g : Graph} {s d e : Die} {m : List (Die × Int)} {Q : List Die}
theorem bfs_start (g : Graph) (s : Die) : Bfs g s [(s, 0)] [s] where
  nod := by simp
  con d hd := by simp at hd; subst hd; exact .refl _
  start := by simp
  que d hd := by simpa using hd
  sub d hd := by simp at hd; subst hd; simp
  clo d hd hn := by simp at hd; subst hd; simp at hn
  rng p hp := by simp at hp; subst hp; simp
theorem Bfs.len (h : Bfs g s m Q) : m.length ≤ 1 + 2 * g.links.length := by
  have := nodup_len h.nod h.sub
  simp at this
  omega
theorem Bfs.add (h : Bfs g s m Q) (hd : d ∈ m.map Prod.fst) {x : Link} (hx : x ∈ g.links) (ha : acrO x d = some e) (hn : e ∉ m.map Prod.fst) {n : Int} (hr : 0 ≤ n ∧ n ≤ m.length) : Bfs g s (m ++ [(e, n)]) (Q ++ [e]) := by
  have hk : ((m ++ [(e, n)]).map Prod.fst) = m.map Prod.fst ++ [e] := by simp
  have hE : e ∈ s :: (g.links.map lA ++ g.links.map lB) := by
    rw [List.mem_cons, List.mem_append]
    unfold acrO at ha
    split at ha
    · cases ha; exact .inr (.inr (List.mem_map_of_mem (f := lB) hx))
    · split at ha
      · cases ha; exact .inr (.inl (List.mem_map_of_mem (f := lA) hx))
      · cases ha
  refine ⟨?_, ?_, ?_, ?_, ?_, ?_, ?_⟩
  · rw [hk, List.nodup_append]
    exact ⟨h.nod, by simp, fun a hm b hb e' => by rw [List.mem_singleton] at hb; rw [e', hb] at hm; exact hn hm⟩
  · rw [hk]
    intro y hy
    rcases List.mem_append.1 hy with hy | hy
    · exact h.con y hy
    · rw [List.mem_singleton] at hy; subst hy
      exact (h.con d hd).nbr (acr_nbr.2 ⟨x, hx, ha⟩)
  · rw [hk]; exact List.mem_append_left _ h.start
  · rw [hk]
    intro y hy
    rcases List.mem_append.1 hy with hy | hy
    · exact List.mem_append_left _ (h.que y hy)
    · exact List.mem_append_right _ hy
  · rw [hk]
    intro y hy
    rcases List.mem_append.1 hy with hy | hy
    · exact h.sub y hy
    · rw [List.mem_singleton] at hy; subst hy; exact hE
  · rw [hk]
    intro y hy hq z hz
    rw [List.mem_append, not_or] at hq
    rcases List.mem_append.1 hy with hy | hy
    · exact List.mem_append_left _ (h.clo y hy hq.1 z hz)
    · exact absurd hy hq.2
  · intro p hp
    rw [List.length_append, List.length_singleton]
    rcases List.mem_append.1 hp with hp | hp
    · have := h.rng p hp; omega
    · rw [List.mem_singleton] at hp; subst hp; simp only; omega
/-- The first of the queue is done. -/
theorem Bfs.pop (h : Bfs g s m (d :: Q)) (hd : ∀ x ∈ g.links, ∀ e, acrO x d = some e → e ∈ m.map Prod.fst) : Bfs g s m Q where
  nod := h.nod
  con := h.con
  start := h.start
  que y hy := h.que y (List.mem_cons_of_mem _ hy)
  sub := h.sub
  clo y hy hq z hz := by
    by_cases e : y = d
    · subst e
      obtain ⟨x, hx, ha⟩ := acr_nbr.1 hz
      exact hd x hx z ha
    · exact h.clo y hy (by rw [List.mem_cons, not_or]; exact ⟨e, hq⟩) z hz
  rng := h.rng
theorem Bfs.done (h : Bfs g s m []) (d : Die) : d ∈ m.map Prod.fst ↔ Con (edgesG g) s d :=
  ⟨h.con d, fun hc => con_closed hc h.start fun y hy z hz => h.clo y hy (by simp) z hz⟩
theorem look_mem {m : List (Die × Int)} {d : Die} : (lookM m d).isSome = true ↔ d ∈ m.map Prod.fst := by
  cases hl : lookM m d with
  | none => exact ⟨fun h => by simp at h, fun h => absurd h (lookM_none.1 hl)⟩
  | some y => exact ⟨fun _ => List.mem_map.2 ⟨_, lookM_some hl, rfl⟩, fun _ => rfl⟩
theorem putM_add {m : List (Die × Int)} {d : Die} {n : Int} (h : d ∉ m.map Prod.fst) : putM m d n = m ++ [(d, n)] := putM_new (lookM_none.2 h)
end
end Go.Proofs.YtikfffojeakjoaaGreatDoor
/- The numbers of links from a die, round by round: plain. No program in sight, no condition. -/
namespace Go.Proofs.YtikfffojeakjoaaGreatDoor
open Go.RowKit

def updF (f : Die → Int) (d : Die) (n : Int) : Die → Int := fun x => if x = d then n else f x
theorem updF_same (f : Die → Int) (d : Die) (n : Int) : updF f d n d = n := if_pos rfl
theorem updF_ne (f : Die → Int) {d x : Die} (n : Int) (h : x ≠ d) : updF f d n x = f x := if_neg h
def startF (s : Die) : Die → Int := fun d => if d = s then 0 else -1
/-- What a link does in round k. -/
def fwdF (k : Int) (f : Die → Int) (a b : Die) : Die → Int := if f a = k ∧ f b < 0 then updF f b (k + 1) else f
def stepF (k : Int) (f : Die → Int) (x : Link) : Die → Int := fwdF k (fwdF k f (lA x) (lB x)) (lB x) (lA x)
def roundF (ls : List Link) (k : Int) (f : Die → Int) : Die → Int := ls.foldl (stepF k) f
/-- In round k. -/
structure FarR (g : Graph) (s : Die) (k : Int) (f : Die → Int) : Prop where
  rng : ∀ d, f d = -1 ∨ (0 ≤ f d ∧ f d ≤ k + 1)
  zero : f s = 0
  only : ∀ d, f d = 0 → d = s
  pred : ∀ d, 0 < f d → ∃ e, Nbr (edgesG g) d e ∧ f e = f d - 1
  clo : ∀ d e, Nbr (edgesG g) d e → 0 ≤ f d → f d < k → 0 ≤ f e ∧ f e ≤ f d + 1
  end_ : ∀ d, 0 ≤ f d → d = s ∨ EndE (edgesG g) d
section
variable {g : Graph} {s a b : Die} {k : Int} {f : Die → Int}
theorem Nbr.symm {E : List (Die × Die)} {a b : Die} (h : Nbr E a b) : Nbr E b a := h.elim .inr .inl
theorem nbr_link {x : Link} (hx : x ∈ g.links) : Nbr (edgesG g) (lA x) (lB x) := .inl (List.mem_map.2 ⟨x, hx, rfl⟩)
theorem FarR.fwd (h : FarR g s k f) (hk : 0 ≤ k) (hn : Nbr (edgesG g) a b) : FarR g s k (fwdF k f a b) ∧ ((fwdF k f a b) a = k → 0 ≤ (fwdF k f a b) b) ∧ (∀ d, 0 ≤ f d → fwdF k f a b d = f d) ∧ (∀ d, fwdF k f a b d = k → f d = k) := by
  unfold fwdF
  by_cases hc : f a = k ∧ f b < 0
  · rw [if_pos hc]
    have hkeep : ∀ d, 0 ≤ f d → updF f b (k + 1) d = f d := fun d hd => updF_ne _ _ fun e => by subst e; omega
    have hcase : ∀ d, updF f b (k + 1) d = f d ∨ (d = b ∧ updF f b (k + 1) d = k + 1) := fun d => by
      by_cases e : d = b
      · subst e; exact .inr ⟨rfl, updF_same _ _ _⟩
      · exact .inl (updF_ne _ _ e)
    refine ⟨⟨fun d => ?_, ?_, fun d hd => ?_, fun d hd => ?_, fun d e hne h0 h1 => ?_, fun d hd => ?_⟩, fun _ => ?_, hkeep, fun d hd => ?_⟩
    · rcases hcase d with e | ⟨_, e⟩
      · rw [e]; exact h.rng d
      · rw [e]; exact .inr ⟨by omega, by omega⟩
    · rw [hkeep s (by rw [h.zero]; omega)]; exact h.zero
    · rcases hcase d with e | ⟨_, e⟩
      · rw [e] at hd; exact h.only d hd
      · rw [e] at hd; omega
    · rcases hcase d with e | ⟨rfl, e⟩
      · rw [e] at hd ⊢
        obtain ⟨y, h1, h2⟩ := h.pred d hd
        exact ⟨y, h1, by rw [hkeep y (by omega)]; exact h2⟩
      · rw [e]
        exact ⟨a, hn.symm, by rw [hkeep a (by omega)]; omega⟩
    · rcases hcase d with e1 | ⟨_, e1⟩
      · rw [e1] at h0 h1 ⊢
        have := h.clo d e hne h0 h1
        rw [hkeep e this.1]; exact this
      · rw [e1] at h1; omega
    · rcases hcase d with e1 | ⟨rfl, _⟩
      · rw [e1] at hd; exact h.end_ d hd
      · exact .inr hn.end
    · rw [updF_same]; omega
    · rcases hcase d with e1 | ⟨_, e1⟩
      · rw [e1] at hd; exact hd
      · rw [e1] at hd; omega
  · rw [if_neg hc]
    refine ⟨h, fun ha => ?_, fun _ _ => rfl, fun _ hd => hd⟩
    rcases h.rng b with hb | hb
    · exact absurd ⟨ha, by omega⟩ hc
    · exact hb.1
theorem FarR.step (h : FarR g s k f) (hk : 0 ≤ k) {x : Link} (hx : x ∈ g.links) : FarR g s k (stepF k f x) ∧ (stepF k f x (lA x) = k → 0 ≤ stepF k f x (lB x)) ∧ (stepF k f x (lB x) = k → 0 ≤ stepF k f x (lA x)) ∧ (∀ d, 0 ≤ f d → stepF k f x d = f d) ∧ (∀ d, stepF k f x d = k → f d = k) := by
  obtain ⟨h1, h2, h3, h4⟩ := h.fwd hk (nbr_link hx)
  obtain ⟨k1, k2, k3, k4⟩ := h1.fwd hk (nbr_link hx).symm
  refine ⟨k1, fun e => ?_, k2, fun d hd => ?_, fun d hd => h4 d (k4 d hd)⟩
  · have := h2 (k4 _ e)
    show 0 ≤ fwdF k (fwdF k f (lA x) (lB x)) (lB x) (lA x) (lB x)
    rw [k3 _ this]; exact this
  · show fwdF k (fwdF k f (lA x) (lB x)) (lB x) (lA x) d = f d
    rw [k3 d (by rw [h3 d hd]; exact hd), h3 d hd]
/-- After some links of round k. -/
theorem FarR.links (h : FarR g s k f) (hk : 0 ≤ k) : ∀ j, j ≤ g.links.length → FarR g s k (roundF (g.links.take j) k f) ∧ (∀ d, 0 ≤ f d → roundF (g.links.take j) k f d = f d) ∧
    (∀ x ∈ g.links.take j, (roundF (g.links.take j) k f (lA x) = k → 0 ≤ roundF (g.links.take j) k f (lB x)) ∧ (roundF (g.links.take j) k f (lB x) = k → 0 ≤ roundF (g.links.take j) k f (lA x))) := by
  intro j
  induction j with
  | zero => intro _; exact ⟨h, fun _ _ => rfl, fun x hx => by simp at hx⟩
  | succ j ih =>
    intro hj
    obtain ⟨x, hx⟩ := get_of_lt (show j < g.links.length by omega)
    obtain ⟨h1, h2, h3⟩ := ih (by omega)
    have e : roundF (g.links.take (j + 1)) k f = stepF k (roundF (g.links.take j) k f) x := by
      rw [roundF, take_snoc' hx, List.foldl_append]; rfl
    rw [e]
    obtain ⟨q1, q2, q3, q4, q5⟩ := h1.step hk (List.mem_of_getElem? hx)
    refine ⟨q1, fun d hd => by rw [q4 d (by rw [h2 d hd]; exact hd)]; exact h2 d hd, fun y hy => ?_⟩
    rw [take_snoc' hx] at hy
    rcases List.mem_append.1 hy with hy | hy
    · obtain ⟨p1, p2⟩ := h3 y hy
      exact ⟨fun ey => by have := p1 (q5 _ ey); rw [q4 _ this]; exact this, fun ey => by have := p2 (q5 _ ey); rw [q4 _ this]; exact this⟩
    · rw [List.mem_singleton] at hy; subst hy
      exact ⟨q2, q3⟩
/-- After round k. -/
theorem FarR.round (h : FarR g s k f) (hk : 0 ≤ k) : FarR g s (k + 1) (roundF g.links k f) := by
  obtain ⟨h1, h2, h3⟩ := h.links hk g.links.length (Nat.le_refl _)
  rw [List.take_length] at h1 h2 h3
  refine ⟨fun d => (h1.rng d).imp id fun ⟨x, y⟩ => ⟨x, by omega⟩, h1.zero, h1.only, h1.pred, fun d e hne h0 hlt => ?_, h1.end_⟩
  by_cases hd : roundF g.links k f d = k
  · have : 0 ≤ roundF g.links k f e := by
      obtain ⟨x, hx, ha⟩ := acr_nbr.1 hne
      unfold acrO at ha
      split at ha
      · rename_i e1; cases ha; subst e1; exact (h3 x hx).1 hd
      · split at ha
        · rename_i e1; cases ha; subst e1; exact (h3 x hx).2 hd
        · cases ha
    refine ⟨this, ?_⟩
    rcases h1.rng e with h4 | h4 <;> omega
  · exact h1.clo d e hne h0 (by omega)
theorem far_start (g : Graph) (s : Die) : FarR g s 0 (startF s) where
  rng d := by unfold startF; split <;> simp
  zero := if_pos rfl
  only d hd := by
    unfold startF at hd
    split at hd
    · assumption
    · omega
  pred d hd := by unfold startF at hd; split at hd <;> omega
  clo d e _ h0 h1 := by omega
  end_ d hd := by
    unfold startF at hd
    split at hd
    · rename_i e; exact .inl e
    · omega
def roundsF (g : Graph) (s : Die) : Nat → Die → Int
  | 0 => startF s
  | k + 1 => roundF g.links k (roundsF g s k)
theorem far_rounds (g : Graph) (s : Die) : ∀ k : Nat, FarR g s k (roundsF g s k)
  | 0 => far_start g s
  | k + 1 => (far_rounds g s k).round (by omega)
/-- The numbers of links. -/
structure FarAt (g : Graph) (s : Die) (f : Die → Int) : Prop where
  rng : ∀ d, -1 ≤ f d
  zero : f s = 0
  only : ∀ d, f d = 0 → d = s
  pred : ∀ d, 0 < f d → ∃ e, Nbr (edgesG g) d e ∧ f e = f d - 1
  clo : ∀ d e, Nbr (edgesG g) d e → 0 ≤ f d → 0 ≤ f e ∧ f e ≤ f d + 1
theorem FarR.chain (h : FarR g s k f) : ∀ (n : Nat) (d : Die), f d = n → ∃ c : List Die, c.length = n + 1 ∧ c.Nodup ∧ ∀ x ∈ c, 0 ≤ f x ∧ f x ≤ n
  | 0, d, hd => ⟨[d], rfl, by simp, fun x hx => by rw [List.mem_singleton] at hx; subst hx; omega⟩
  | n + 1, d, hd => by
    obtain ⟨e, _, he⟩ := h.pred d (by omega)
    obtain ⟨c, h1, h2, h3⟩ := h.chain n e (by omega)
    refine ⟨d :: c, by simp [h1], List.nodup_cons.2 ⟨fun hm => ?_, h2⟩, fun x hx => ?_⟩
    · have := (h3 d hm).2; omega
    · rcases List.mem_cons.1 hx with rfl | hx
      · omega
      · have := h3 x hx; omega
/-- After as many rounds as there are dies nothing is left. -/
theorem far_done {ds : List Die} (hs : s ∈ ds) (hE : ∀ d, EndE (edgesG g) d → d ∈ ds) : FarAt g s (roundsF g s ds.length) := by
  have h := far_rounds g s ds.length
  have hlt : ∀ d, roundsF g s ds.length d < ds.length := fun d => by
    rcases h.rng d with h1 | h1
    · omega
    · obtain ⟨n, hn⟩ : ∃ n : Nat, roundsF g s ds.length d = n := ⟨(roundsF g s ds.length d).toNat, by omega⟩
      obtain ⟨c, c1, c2, c3⟩ := h.chain n d hn
      have := nodup_len c2 (fun x hx => (h.end_ x (c3 x hx).1).elim (fun e => e ▸ hs) (hE x))
      omega
  exact ⟨fun d => by rcases h.rng d with h1 | h1 <;> omega, h.zero, h.only, h.pred, fun d e hn h0 => h.clo d e hn h0 (hlt d)⟩
theorem FarAt.con (h : FarAt g s f) (d : Die) : 0 ≤ f d ↔ Con (edgesG g) s d := by
  constructor
  · intro hd
    obtain ⟨n, hn⟩ : ∃ n : Nat, f d = n := ⟨(f d).toNat, by omega⟩
    clear hd
    induction n generalizing d with
    | zero => rw [h.only d (by omega)]; exact .refl _
    | succ n ih =>
      obtain ⟨e, h1, h2⟩ := h.pred d (by omega)
      exact (ih e (by omega)).nbr h1.symm
  · intro hc
    have : ∀ {d}, Con (edgesG g) s d → 0 ≤ f d := fun {d} hc => by
      induction hc with
      | refl => rw [h.zero]; omega
      | fwd _ he ih => exact (h.clo _ _ (.inl he) ih).1
      | bwd _ he ih => exact (h.clo _ _ (.inr he) ih).1
    exact this hc
/-- They are what they are. -/
theorem FarAt.le (h : FarAt g s f) {f' : Die → Int} (h' : FarAt g s f') : ∀ (n : Nat) (d : Die), f d = n → 0 ≤ f' d ∧ f' d ≤ n
  | 0, d, hd => by rw [h.only d (by omega), h'.zero]; omega
  | n + 1, d, hd => by
    obtain ⟨e, h1, h2⟩ := h.pred d (by omega)
    have := h.le h' n e (by omega)
    have := h'.clo e d h1.symm this.1
    omega
theorem FarAt.uniq (h : FarAt g s f) {f' : Die → Int} (h' : FarAt g s f') (d : Die) : f d = f' d := by
  by_cases h0 : f d < 0
  · by_cases h1 : f' d < 0
    · have := h.rng d; have := h'.rng d; omega
    · have := (h.con d).2 ((h'.con d).1 (by omega)); omega
  · have h0 : 0 ≤ f d := by omega
    have h1 := (h'.con d).2 ((h.con d).1 h0)
    have a1 := h.le h' (f d).toNat d (by omega)
    have a2 := h'.le h (f' d).toNat d (by omega)
    omega
end
end Go.Proofs.YtikfffojeakjoaaGreatDoor
