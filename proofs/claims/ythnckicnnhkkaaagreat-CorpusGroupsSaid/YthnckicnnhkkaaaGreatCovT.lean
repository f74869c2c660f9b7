/- What a call touches, as a list of blocks; a map behind a call that touches others. No program in sight, no condition. -/
import Derived.Test.YthnckicnnhkkaaaGreatMapK
import Derived.Test.YthnckicnnhkkaaaGreatBase
import Derived.Test.YthnckicnnhkkaaaGreatOwn
import Derived.Test.YthnckicnnhkkaaaGreatRefA
import Derived.Shelf.Spec.SlicesInsert
import Derived.Lib.AppendZerosOnto
namespace Go.Proofs.YthnckicnnhkkaaaGreat
open Go.RowKit Go.Maps

/-- Of what was there nothing has turned but the blocks S. -/
structure Touch (w w' : World) (S : List Nat) : Prop where
  os : w'.os = w.os
  tape : w'.tape = w.tape
  output : w'.output = w.output
  size : w.heap.size ≤ w'.heap.size
  block : ∀ k, k < w.heap.size → k ∉ S → w'.heap[k]? = w.heap[k]?
section
variable {w w' w'' : World} {S : List Nat}
theorem Touch.refl (w : World) (S : List Nat) : Touch w w S := ⟨rfl, rfl, rfl, Nat.le_refl _, fun _ _ _ => rfl⟩
theorem Touch.trans (h : Touch w w' S) (k : Touch w' w'' S) : Touch w w'' S :=
  ⟨k.os.trans h.os, k.tape.trans h.tape, k.output.trans h.output, Nat.le_trans h.size k.size, fun i hi hn => (k.block i (Nat.lt_of_lt_of_le hi h.size) hn).trans (h.block i hi hn)⟩
theorem touch_below (h : Below w.heap.size w w') (S : List Nat) : Touch w w' S := ⟨h.os, h.tape, h.output, h.size, fun i hi _ => h.block i hi⟩
theorem grown_touch {b : Nat} (h : w.grownBy w' (some b)) (hb : b ∈ S) : Touch w w' S := ⟨h.os, h.tape, h.output, h.size, fun i hi hn => h.block i hi fun e => hn (by cases e; exact hb)⟩
theorem Touch.below {B : Nat} (h : Touch w w' S) (hS : ∀ b ∈ S, B ≤ b) (hB : B ≤ w.heap.size) : Below B w w' := ⟨h.os, h.tape, h.output, h.size, fun i hi => h.block i (by omega) fun hm => by have := hS i hm; omega⟩
/-- A block that holds a map has no cells. -/
def NoCell (w : World) (S : List Nat) : Prop := ∀ b ∈ S, ∀ o p, w.cell? ⟨b, o, p⟩ = none
theorem cell_touch (h : Touch w w' S) (hn : NoCell w S) {a : Addr} {v : Value} (hc : w.cell? a = some v) : w'.cell? a = some v := by
  have hlt : a.block < w.heap.size := by
    unfold World.cell? at hc
    split at hc
    · exact (Array.getElem?_eq_some_iff.1 (by assumption)).1
    · cases hc
  rw [World.cell?_of_block (h.block a.block hlt fun hm => by
    have := hn a.block hm a.off a.spot
    rw [show (⟨a.block, a.off, a.spot⟩ : Addr) = a from rfl, hc] at this
    cases this)]
  exact hc
theorem MapII.nocell {b : Nat} {m : List (Int × Int)} (h : MapII w b m) : NoCell w [b] := by
  obtain ⟨⟨D, ⟨es, clock, hb, _⟩, _⟩, _, _⟩ := h
  intro c hc o p
  rw [List.mem_singleton] at hc
  subst hc
  simp [World.cell?, hb]
end
section
variable {κ β : Type} [DecidableEq κ] {P : Program} {k e t : TypeId} {KE : KeyEnc P k κ} {EE : ElEnc P e β} {w w' : World} {b : Nat} {m : List (κ × β)}
theorem MapAt.same (h : MapAt KE EE w b m) (he : w'.heap[b]? = w.heap[b]?) : MapAt KE EE w' b m := by
  obtain ⟨⟨D, ⟨es, clock, hb, hr⟩, h2⟩, h3, h4⟩ := h
  exact ⟨⟨D, ⟨es, clock, he.trans hb, hr⟩, h2⟩, h3, h4⟩
end
theorem Touch.fresh {w w' w'' : World} {S S' : List Nat} (h : Touch w w' S) (k : Touch w' w'' S') (hS : ∀ b ∈ S', b ∈ S ∨ w.heap.size ≤ b) : Touch w w'' S :=
  ⟨k.os.trans h.os, k.tape.trans h.tape, k.output.trans h.output, Nat.le_trans h.size k.size, fun i hi hn => (k.block i (Nat.lt_of_lt_of_le hi h.size) fun hm => by rcases hS i hm with h1 | h1; exact hn h1; omega).trans (h.block i hi hn)⟩
theorem Touch.trans_own {w w' w'' : World} {S : List Nat} {row : Option Nat} (h : Touch w w' S) (k : w'.grownBy w'' row) (hr : ∀ j, row = some j → w.heap.size ≤ j) : Touch w w'' S :=
  ⟨k.os.trans h.os, k.tape.trans h.tape, k.output.trans h.output, Nat.le_trans h.size k.size, fun i hi hn => (k.block i (Nat.lt_of_lt_of_le hi h.size) fun e => by have := hr i e.symm; omega).trans (h.block i hi hn)⟩
section
variable {w w' : World}
theorem touch_set {a : Addr} {x : Value} {S : List Nat} (ha : a.spot = none) (hS : a.block ∈ S) : Touch w (w.setCell a x) S := by
  obtain ⟨b, o, p⟩ := a
  simp only at ha hS
  subst ha
  exact grown_touch (setCells_grown b [x] w o) hS
theorem cell_off {S : List Nat} (h : Touch w w' S) {a : Addr} {v : Value} (ha : a.block ∉ S) (hc : w.cell? a = some v) : w'.cell? a = some v := by
  have hlt : a.block < w.heap.size := by
    unfold World.cell? at hc
    split at hc
    · exact (Array.getElem?_eq_some_iff.1 (by assumption)).1
    · cases hc
  rw [World.cell?_of_block (h.block a.block hlt ha)]
  exact hc
end
theorem slOf_off {α : Type} {enc : α → List Value} {k : Nat} {w w' : World} {v : Value} {xs : List α} {S : List Nat} (h : SlOf enc k w v xs) (ht : Touch w w' S) (hS : ∀ j, v.ownBlock = some j → j ∉ S) : SlOf enc k w' v xs := by
  obtain ⟨A, c, rfl, h1, h2, h3, h4⟩ := h
  refine ⟨A, c, rfl, h1, h2, h3, fun hn => ?_⟩
  obtain ⟨b, o, rfl, hb, hc⟩ := h4 hn
  exact ⟨b, o, rfl, Nat.lt_of_lt_of_le hb ht.size, fun j u hu => cell_off ht (hS b rfl) (hc j u hu)⟩
theorem Ints.at {w : World} {A : Option Addr} {n c : Nat} {xs : List Int} (h : Ints w (.slice A n c) xs) {k : Nat} (hk : k < xs.length) : ∃ b o, A = some ⟨b, o, none⟩ ∧ b < w.heap.size ∧ ∀ x, xs[k]? = some x → w.cell? ⟨b, o + k, none⟩ = some (.int .i64 x) := by
  obtain ⟨b, o, e, hb, hc⟩ := SlOf.opens lenI (SlOf.sl h) (by omega)
  refine ⟨b, o, e, hb, fun x hx => ?_⟩
  have := hc k x hx 0 _ rfl
  simpa using this
end Go.Proofs.YthnckicnnhkkaaaGreat
/- slices.Clone, IndexFunc and DeleteFunc at links. No condition but a bound of the length. -/
namespace Go.Proofs.YthnckicnnhkkaaaGreat
open Go.RowKit

theorem SlOf.sl' {α : Type} {enc : α → List Value} {k : Nat} {w : World} {A : Option Addr} {n c : Nat} {xs : List α} (h : SlOf enc k w (.slice A n c) xs) : Sl w k A xs.length (xs.flatMap enc) := by
  obtain ⟨A', c', e, _, _, hs⟩ := h
  cases e
  exact hs
abbrev valL (x : Link) : Value := .agg #[.int .i64 x.id, .int .i64 x.obv, .int .i64 x.rev]
/-- The place of the first element with a property, or -1. -/
def firstN {α : Type} (p : α → Bool) : List α → Nat → Int
  | [], _ => -1
  | x :: xs, n => if p x = true then (n : Int) else firstN p xs (n + 1)
def firstI {α : Type} (p : α → Bool) (xs : List α) : Int := firstN p xs 0
theorem firstN_hit {α : Type} {p : α → Bool} : ∀ {xs : List α} {k n : Nat} {x : α}, xs[k]? = some x → (xs.take k).all (fun x => !p x) = true → p x = true → firstN p xs n = ((n + k : Nat) : Int)
  | [], _, _, _, h, _, _ => by simp at h
  | y :: ys, 0, n, x, h, _, hp => by
    simp at h
    subst h
    simp [firstN, hp]
  | y :: ys, k + 1, n, x, h, ha, hp => by
    simp only [List.take_succ_cons, List.all_cons, Bool.and_eq_true, Bool.not_eq_true'] at ha
    rw [firstN, if_neg (by simp [ha.1]), firstN_hit (k := k) (by simpa using h) ha.2 hp]
    congr 1
    omega
theorem firstI_hit {α : Type} {p : α → Bool} {xs : List α} {k : Nat} {x : α} (h : xs[k]? = some x) (ha : (xs.take k).all (fun x => !p x) = true) (hp : p x = true) : firstI p xs = k := by
  unfold firstI
  rw [firstN_hit h ha hp, Nat.zero_add]
theorem firstN_miss {α : Type} {p : α → Bool} : ∀ {xs : List α} {n : Nat}, xs.all (fun x => !p x) = true → firstN p xs n = -1
  | [], _, _ => rfl
  | y :: ys, n, h => by
    simp only [List.all_cons, Bool.and_eq_true, Bool.not_eq_true'] at h
    rw [firstN, if_neg (by simp [h.1]), firstN_miss h.2]
theorem firstI_miss {α : Type} {p : α → Bool} {xs : List α} (h : xs.all (fun x => !p x) = true) : firstI p xs = -1 := firstN_miss h
theorem first_hit {α : Type} {p : α → Bool} : ∀ {xs : List α}, ¬ xs.all (fun x => !p x) = true → ∃ (i : Nat) (x : α), xs[i]? = some x ∧ (xs.take i).all (fun x => !p x) = true ∧ p x = true
  | [], h => absurd rfl h
  | y :: ys, h => by
    cases hp : p y
    · obtain ⟨i, x, h1, h2, h3⟩ := first_hit (p := p) (xs := ys) (fun e => h (by simp [hp, e]))
      exact ⟨i + 1, x, by simpa using h1, by simp [hp, h2], h3⟩
    · exact ⟨0, y, rfl, by simp, hp⟩
end Go.Proofs.YthnckicnnhkkaaaGreat
/- 'copy' of structs; an insertion into a slice of the call's own, in place and in a new row; a cut in the middle. No condition. -/
namespace Go.Proofs.YthnckicnnhkkaaaGreat
open Go.RowKit

/-- 'copy(d, s)' of structs of k cells. -/
theorem run_copy_rows {P : Program} (w : World) (dT sT ty elem : TypeId) (k : Nat) (b o dLen dCap : Nat) (a : Addr) (sLen sCap m : Nat) (cs : List Value)
    (hu : P.underlying dT = some (.slice elem)) (hs : (P.info? elem).map (·.size) = some k) (hm : m = Nat.min sLen dLen) (hn : cs.length = m * k)
    (hsrc : ∀ j v, cs[j]? = some v → w.cell? (a.add j) = some v) (hc : ∀ j, j < cs.length → (w.cell? ⟨b, o + j, none⟩).isSome = true) (hf : ∀ j, j < cs.length → w.frozen? ⟨b, o + j, none⟩ = false) (h1 : ∀ v ∈ cs, v.oneCell' = true) :
    (Builtin.copy_ #[dT, sT] ty #[.slice (some ⟨b, o, none⟩) dLen dCap, .slice (some a) sLen sCap]).run P w = .ok (goInt m) (w.setCells b o cs) := by
  have hl := run_loadCells_list (P := P) w a cs hsrc
  have hst := run_storeCells_cells (P := P) b o cs 0 w (by simpa using hc) (by simpa using hf) h1
  cases hq : P.info? elem with
  | none => simp [hq] at hs
  | some i =>
    have hi : i.size = k := by simpa [hq] using hs
    simp only [Nat.add_zero] at hst
    rw [hn] at hl
    simp [Builtin.copy_, run_underlying hu, Builtin.lenOf, Builtin.firstCells, sizeOf, typeInfo, hq, hi, ← hm, hl, hst]
section
variable {α : Type} {enc : α → List Value} {k : Nat} {e : TypeId} {B g cap n m : Nat} {w : World} {xs : List α}
/-- Any stores into a row: what its first cells hold then. -/
theorem Own.over (hk : ∀ x, (enc x).length = k) (h : Own enc k e B w (.slice (some ⟨g, 0, none⟩) n cap) xs) (hn : n = xs.length) {i : Nat} {ys : List α} (hi : i ≤ n) (hc : i + ys.length ≤ cap) :
    Own enc k e B (w.setCells g (i * k) (ys.flatMap enc)) (.slice (some ⟨g, 0, none⟩) (i + ys.length) cap) (xs.take i ++ ys) := by
  obtain ⟨cur, hB, hg, h1, h2, h3, h4⟩ := h.row hn
  have hyl : (ys.flatMap enc).length = ys.length * k := flat_len enc k hk ys
  have hle : (i + ys.length) * k ≤ cap * k := Nat.mul_le_mul_right k hc
  have hle2 : i * k ≤ n * k := Nat.mul_le_mul_right k hi
  rw [Nat.add_mul] at hle
  refine Own.ofRow hk hB (setCells_same g e _ _ _ _ hg) hc h2 (by rw [putAt_size, h3]) ?_ (by simp; omega)
  apply List.ext_getElem?
  intro j
  rw [List.flatMap_append, flat_take enc k hk]
  have htl : ((xs.flatMap enc).take (i * k)).length = i * k := by rw [List.length_take, flat_len enc k hk, ← hn]; omega
  by_cases hj : j < (i + ys.length) * k
  · rw [List.getElem?_take_of_lt hj, Array.getElem?_toList, putAt_get _ _ _ _ (by rw [hyl]; omega), hyl]
    rw [Nat.add_mul] at hj
    by_cases c : i * k ≤ j
    · rw [if_pos ⟨c, hj⟩, List.getElem?_append_right (by omega), htl]
    · rw [if_neg (by omega), List.getElem?_append_left (by omega), List.getElem?_take_of_lt (by omega), ← h4, List.getElem?_take_of_lt (by omega), Array.getElem?_toList]
  · rw [List.getElem?_take_eq_none (by omega), List.getElem?_eq_none (by rw [List.length_append, htl, hyl]; rw [Nat.add_mul] at hj; omega)]
/-- The cells of a row, read one by one. -/
theorem Own.cell_lt (h : Own enc k e B w (.slice (some ⟨g, 0, none⟩) n cap) xs) (hn : n = xs.length) {j : Nat} (hj : j < cap * k) : (w.cell? ⟨g, j, none⟩).isSome = true ∧ w.frozen? ⟨g, j, none⟩ = false := by
  obtain ⟨cur, hB, hg, h1, h2, h3, h4⟩ := h.row hn
  refine ⟨?_, frozen_of_row w g _ cur e hg⟩
  rw [heap_cell hg, Array.getElem?_eq_getElem (by omega)]
  rfl
theorem Own.cell_at (hk : ∀ x, (enc x).length = k) (h : Own enc k e B w (.slice (some ⟨g, 0, none⟩) n cap) xs) (hn : n = xs.length) {j : Nat} {u : Value} (hu : (xs.flatMap enc)[j]? = some u) : w.cell? ⟨g, j, none⟩ = some u := by
  obtain ⟨cur, hB, hg, h1, h2, h3, h4⟩ := h.row hn
  have hj := lt_of_get hu
  rw [flat_len enc k hk, ← hn] at hj
  rw [heap_cell hg, ← Array.getElem?_toList]
  rw [← h4, List.getElem?_take_of_lt hj] at hu
  exact hu
theorem flat_drop_get (hk : ∀ x, (enc x).length = k) {i j : Nat} : ((xs.drop i).flatMap enc)[j]? = (xs.flatMap enc)[i * k + j]? := by
  rw [flat_drop enc k hk, List.getElem?_drop]
end
end Go.Proofs.YthnckicnnhkkaaaGreat
/- A new block that is filled at once. No program in sight, no condition. -/
namespace Go.Proofs.YthnckicnnhkkaaaGreat
open Go.RowKit

theorem heap_setCells {b : Nat} {t : TypeId} : ∀ (vs pre rest : List Value) (w : World), w.heap[b]? = some (.cells (pre ++ rest).toArray t (0, 0)) → rest.length = vs.length →
    (w.setCells b pre.length vs).heap[b]? = some (.cells (pre ++ vs).toArray t (0, 0))
  | [], pre, rest, w, h, hl => by
    have : rest = [] := List.eq_nil_of_length_eq_zero hl
    rw [this] at h
    exact h
  | v :: vs, pre, [], w, h, hl => by simp at hl
  | v :: vs, pre, r :: rest, w, h, hl => by
    have h1 := heap_setCell_same w b pre.length _ _ v h
    have h2 : ((pre ++ r :: rest).toArray.setIfInBounds pre.length v) = ((pre ++ [v]) ++ rest).toArray := by simp
    have h3 := heap_setCells vs (pre ++ [v]) rest (w.setCell ⟨b, pre.length, none⟩ v) (by rw [← h2]; exact h1) (by simpa using hl)
    have e : (pre ++ [v]).length = pre.length + 1 := by simp
    rw [e] at h3
    have e2 : pre ++ v :: vs = (pre ++ [v]) ++ vs := by simp
    rw [e2]
    exact h3
/-- The block is made with zs, then filled with vs. -/
theorem fresh (w : World) (zs vs : List Value) (t : TypeId) (hl : zs.length = vs.length) :
    ∃ W W', w.alloc (.cells zs.toArray t) = W ∧ W.setCells w.heap.size 0 vs = W' ∧ Hid (W.heap.size = w.heap.size + 1) ∧ W.heap[w.heap.size]? = some (.cells zs.toArray t (0, 0)) ∧
      W'.heap[w.heap.size]? = some (.cells vs.toArray t (0, 0)) ∧ Below w.heap.size w W' ∧ w.heap.size < W'.heap.size := by
  have h0 : (w.alloc (.cells zs.toArray t)).heap[w.heap.size]? = some (.cells zs.toArray t (0, 0)) := heap_alloc_new _ _
  have h1 := heap_setCells vs [] zs _ h0 hl
  have hb : Below w.heap.size w (w.alloc (.cells zs.toArray t)) := (Below.refl _ _).alloc (Nat.le_refl _) _
  have hg := setCells_grown w.heap.size vs (w.alloc (.cells zs.toArray t)) 0
  exact ⟨_, _, rfl, rfl, Lib.hid (by simp), h0, h1, hb.grown hg hb.size (fun j e => by cases e; exact Nat.le_refl _), heap_lt h1⟩
/-- Two blocks are made, then filled. -/
theorem fresh2 (w : World) (z1 v1 z2 v2 : List Value) (t : TypeId) (h1 : z1.length = v1.length) (h2 : z2.length = v2.length) :
    ∃ W1 W2 W', w.alloc (.cells z1.toArray t) = W1 ∧ W1.alloc (.cells z2.toArray t) = W2 ∧ (W2.setCells w.heap.size 0 v1).setCells W1.heap.size 0 v2 = W' ∧ Hid (W1.heap.size = w.heap.size + 1) ∧ w.heap.size < W1.heap.size ∧
      W2.heap[w.heap.size]? = some (.cells z1.toArray t (0, 0)) ∧ W2.heap[W1.heap.size]? = some (.cells z2.toArray t (0, 0)) ∧ W'.heap[w.heap.size]? = some (.cells v1.toArray t (0, 0)) ∧ W'.heap[W1.heap.size]? = some (.cells v2.toArray t (0, 0)) ∧
      Below w.heap.size w W' ∧ W1.heap.size < W'.heap.size := by
  obtain ⟨W1, hW1⟩ : ∃ z, w.alloc (.cells z1.toArray t) = z := ⟨_, rfl⟩
  obtain ⟨W2, hW2⟩ : ∃ z, W1.alloc (.cells z2.toArray t) = z := ⟨_, rfl⟩
  have k1 : W1.heap[w.heap.size]? = some (.cells z1.toArray t (0, 0)) := by rw [← hW1]; exact heap_alloc_new _ _
  have k2 : W2.heap[W1.heap.size]? = some (.cells z2.toArray t (0, 0)) := by rw [← hW2]; exact heap_alloc_new _ _
  have b1 : Below w.heap.size w W1 := by rw [← hW1]; exact (Below.refl _ _).alloc (Nat.le_refl _) _
  have b2 : Below W1.heap.size W1 W2 := by rw [← hW2]; exact (Below.refl _ _).alloc (Nat.le_refl _) _
  have s1 : W1.heap.size = w.heap.size + 1 := by rw [← hW1]; simp
  have k3 := heap_below k1 b2 (heap_lt k1)
  have m1 := heap_setCells v1 [] z1 W2 k3 h1
  obtain ⟨W3, hW3⟩ : ∃ z, W2.setCells w.heap.size 0 v1 = z := ⟨_, rfl⟩
  have g1 : W2.grownBy W3 (some w.heap.size) := by rw [← hW3]; exact setCells_grown _ _ _ _
  have m1' : W3.heap[w.heap.size]? = some (.cells v1.toArray t (0, 0)) := by rw [← hW3]; exact m1
  have k4 := (g1.block _ (heap_lt k2) (fun e => by have := Option.some.inj e; omega)).trans k2
  have m2 := heap_setCells v2 [] z2 W3 k4 h2
  obtain ⟨W4, hW4⟩ : ∃ z, W3.setCells W1.heap.size 0 v2 = z := ⟨_, rfl⟩
  have g2 : W3.grownBy W4 (some W1.heap.size) := by rw [← hW4]; exact setCells_grown _ _ _ _
  have m2' : W4.heap[W1.heap.size]? = some (.cells v2.toArray t (0, 0)) := by rw [← hW4]; exact m2
  have m3 := (g2.block _ (heap_lt m1') (fun e => by have := Option.some.inj e; omega)).trans m1'
  have bb := below_trans b1 b2
  have b3 := bb.grown g1 bb.size (fun j e => by cases e; exact Nat.le_refl _)
  have b4 := b3.grown g2 b3.size (fun j e => by cases e; omega)
  refine ⟨W1, W2, W4, hW1, hW2, by rw [hW3, hW4], Lib.hid s1, by omega, k3, k2, m3, m2', b4, heap_lt m2'⟩
theorem heap_set2 {w : World} {g : Nat} {a b x y : Value} {t : TypeId} (h : w.heap[g]? = some (.cells [a, b].toArray t (0, 0))) :
    ((w.setCell ⟨g, 0, none⟩ x).setCell ⟨g, 1, none⟩ y).heap[g]? = some (.cells [x, y].toArray t (0, 0)) := heap_setCells [x, y] [] [a, b] w h rfl
theorem own_one {α : Type} {enc : α → List Value} {k : Nat} {e : TypeId} {B g : Nat} {W : World} {x : α} (hk : (enc x).length = k) (h : W.heap[g]? = some (.cells (enc x).toArray e (0, 0))) (hB : B ≤ g) : Own enc k e B W (.slice (some ⟨g, 0, none⟩) 1 1) [x] :=
  ⟨by simp [hk], .inr ⟨g, 1, _, rfl, hB, h, by simp, by simp [maxLen], by simp [hk], by rw [show [x].length * k = (enc x).length by simp [hk]]; simp⟩⟩
theorem cells3 {w : World} {g : Nat} {a b c : Value} {t : TypeId} (h : w.heap[g]? = some (.cells [a, b, c].toArray t (0, 0))) :
    (w.cell? ⟨g, 0, none⟩ = some a ∧ w.cell? ⟨g, 1, none⟩ = some b ∧ w.cell? ⟨g, 2, none⟩ = some c) ∧ w.frozen? ⟨g, 0, none⟩ = false ∧ w.frozen? ⟨g, 1, none⟩ = false ∧ w.frozen? ⟨g, 2, none⟩ = false :=
  ⟨⟨heap_cell h, heap_cell h, heap_cell h⟩, heap_free h, heap_free h, heap_free h⟩
theorem cells2 {w : World} {g : Nat} {a b : Value} {t : TypeId} (h : w.heap[g]? = some (.cells [a, b].toArray t (0, 0))) :
    (w.cell? ⟨g, 0, none⟩ = some a ∧ w.cell? ⟨g, 1, none⟩ = some b) ∧ w.frozen? ⟨g, 0, none⟩ = false ∧ w.frozen? ⟨g, 1, none⟩ = false :=
  ⟨⟨heap_cell h, heap_cell h⟩, heap_free h, heap_free h⟩
theorem cellsS {w : World} {g : Nat} {a b c d e f k : Value} {t : TypeId} (h : w.heap[g]? = some (.cells [a, b, c, d, e, f, k].toArray t (0, 0))) :
    (w.cell? ⟨g, 0, none⟩ = some a ∧ w.cell? ⟨g, 1, none⟩ = some b ∧ w.cell? ⟨g, 2, none⟩ = some c ∧ w.cell? ⟨g, 3, none⟩ = some d ∧ w.cell? ⟨g, 4, none⟩ = some e ∧ w.cell? ⟨g, 5, none⟩ = some f ∧ w.cell? ⟨g, 6, none⟩ = some k) ∧
      w.frozen? ⟨g, 0, none⟩ = false ∧ w.frozen? ⟨g, 1, none⟩ = false ∧ w.frozen? ⟨g, 2, none⟩ = false ∧ w.frozen? ⟨g, 3, none⟩ = false ∧ w.frozen? ⟨g, 4, none⟩ = false ∧ w.frozen? ⟨g, 5, none⟩ = false ∧ w.frozen? ⟨g, 6, none⟩ = false :=
  ⟨⟨heap_cell h, heap_cell h, heap_cell h, heap_cell h, heap_cell h, heap_cell h, heap_cell h⟩, heap_free h, heap_free h, heap_free h, heap_free h, heap_free h, heap_free h, heap_free h⟩
theorem Own.touch {α : Type} {enc : α → List Value} {k : Nat} {e : TypeId} {B : Nat} {w w' : World} {v : Value} {xs : List α} {S : List Nat} (h : Own enc k e B w v xs) (ht : Touch w w' S) (hS : ∀ b ∈ S, b < B) : Own enc k e B w' v xs :=
  ⟨h.1, h.2.imp id fun ⟨g, cap, cur, hv, hb, hg, r⟩ => ⟨g, cap, cur, hv, hb, (ht.block g (heap_lt hg) (fun hm => by have := hS g hm; omega)).trans hg, r⟩⟩
end Go.Proofs.YthnckicnnhkkaaaGreat
