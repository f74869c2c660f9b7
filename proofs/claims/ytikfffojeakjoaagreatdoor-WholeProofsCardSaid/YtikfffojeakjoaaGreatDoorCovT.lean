/- What a call touches, as a list of blocks; a map behind a call that touches others. No program in sight, no condition. -/
import Derived.Test.YtikfffojeakjoaaGreatDoorMapK
import Derived.Test.YtikfffojeakjoaaGreatDoorBase
import Derived.Test.YtikfffojeakjoaaGreatDoorOwn
namespace Go.Proofs.YtikfffojeakjoaaGreatDoor
open Go.RowKit Go.Maps

/-- Of what was there nothing has turned but the blocks S. -/
structure Touch (w w' : World) (S : List Nat) : Prop where
  os : w'.os = w.os
  tape : w'.tape = w.tape
  output : w'.output = w.output
  size : w.heap.size ≤ w'.heap.size
  block : ∀ k, k < w.heap.size → k ∉ S → w'.heap[k]? = w.heap[k]?
section
variable {w w' w'' : World} {S : List Nat}
theorem Touch.refl (w : World) (S : List Nat) : Touch w w S := ⟨rfl, rfl, rfl, Nat.le_refl _, fun _ _ _ => rfl⟩
theorem Touch.trans (h : Touch w w' S) (k : Touch w' w'' S) : Touch w w'' S :=
  ⟨k.os.trans h.os, k.tape.trans h.tape, k.output.trans h.output, Nat.le_trans h.size k.size, fun i hi hn => (k.block i (Nat.lt_of_lt_of_le hi h.size) hn).trans (h.block i hi hn)⟩
theorem touch_below (h : Below w.heap.size w w') (S : List Nat) : Touch w w' S := ⟨h.os, h.tape, h.output, h.size, fun i hi _ => h.block i hi⟩
theorem grown_touch {b : Nat} (h : w.grownBy w' (some b)) (hb : b ∈ S) : Touch w w' S := ⟨h.os, h.tape, h.output, h.size, fun i hi hn => h.block i hi fun e => hn (by cases e; exact hb)⟩
theorem Touch.below {B : Nat} (h : Touch w w' S) (hS : ∀ b ∈ S, B ≤ b) (hB : B ≤ w.heap.size) : Below B w w' := ⟨h.os, h.tape, h.output, h.size, fun i hi => h.block i (by omega) fun hm => by have := hS i hm; omega⟩
/-- A block that holds a map has no cells. -/
def NoCell (w : World) (S : List Nat) : Prop := ∀ b ∈ S, ∀ o p, w.cell? ⟨b, o, p⟩ = none
theorem cell_touch (h : Touch w w' S) (hn : NoCell w S) {a : Addr} {v : Value} (hc : w.cell? a = some v) : w'.cell? a = some v := by
  have hlt : a.block < w.heap.size := by
    unfold World.cell? at hc
    split at hc
    · exact (Array.getElem?_eq_some_iff.1 (by assumption)).1
    · cases hc
  rw [World.cell?_of_block (h.block a.block hlt fun hm => by
    have := hn a.block hm a.off a.spot
    rw [show (⟨a.block, a.off, a.spot⟩ : Addr) = a from rfl, hc] at this
    cases this)]
  exact hc
theorem SlOf.touch {α : Type} {enc : α → List Value} {k : Nat} {v : Value} {xs : List α} (h : SlOf enc k w v xs) (ht : Touch w w' S) (hn : NoCell w S) : SlOf enc k w' v xs := by
  obtain ⟨A, c, e, h1, h2, h3, h4⟩ := h
  refine ⟨A, c, e, h1, h2, h3, fun hp => ?_⟩
  obtain ⟨b, o, e, hb, hc⟩ := h4 hp
  exact ⟨b, o, e, Nat.lt_of_lt_of_le hb ht.size, fun j u hu => cell_touch ht hn (hc j u hu)⟩
theorem GraphAt.touch {v : Value} {g : Graph} (h : GraphAt w v g) (ht : Touch w w' S) (hn : NoCell w S) : GraphAt w' v g := by
  obtain ⟨v1, v2, v3, e, h1, h2, h3⟩ := h
  exact ⟨v1, v2, v3, e, SlOf.touch h1 ht hn, SlOf.touch h2 ht hn, SlOf.touch h3 ht hn⟩
theorem MapII.nocell {b : Nat} {m : List (Int × Int)} (h : MapII w b m) : NoCell w [b] := by
  obtain ⟨⟨D, ⟨es, clock, hb, _⟩, _⟩, _, _⟩ := h
  intro c hc o p
  rw [List.mem_singleton] at hc
  subst hc
  simp [World.cell?, hb]
theorem SetI.nocell {b : Nat} {l : List Int} (h : SetI w b l) : NoCell w [b] := by
  obtain ⟨_, ⟨D, ⟨es, clock, hb, _⟩, _⟩, _, _⟩ := h
  intro c hc o p
  rw [List.mem_singleton] at hc
  subst hc
  simp [World.cell?, hb]
end
section
variable {κ β : Type} [DecidableEq κ] {P : Program} {k e t : TypeId} {KE : KeyEnc P k κ} {EE : ElEnc P e β} {w w' : World} {b : Nat} {m : List (κ × β)}
theorem MapAt.same (h : MapAt KE EE w b m) (he : w'.heap[b]? = w.heap[b]?) : MapAt KE EE w' b m := by
  obtain ⟨⟨D, ⟨es, clock, hb, hr⟩, h2⟩, h3, h4⟩ := h
  exact ⟨⟨D, ⟨es, clock, he.trans hb, hr⟩, h2⟩, h3, h4⟩
end
theorem Touch.fresh {w w' w'' : World} {S S' : List Nat} (h : Touch w w' S) (k : Touch w' w'' S') (hS : ∀ b ∈ S', b ∈ S ∨ w.heap.size ≤ b) : Touch w w'' S :=
  ⟨k.os.trans h.os, k.tape.trans h.tape, k.output.trans h.output, Nat.le_trans h.size k.size, fun i hi hn => (k.block i (Nat.lt_of_lt_of_le hi h.size) fun hm => by rcases hS i hm with h1 | h1; exact hn h1; omega).trans (h.block i hi hn)⟩
theorem Touch.trans_own {w w' w'' : World} {S : List Nat} {row : Option Nat} (h : Touch w w' S) (k : w'.grownBy w'' row) (hr : ∀ j, row = some j → w.heap.size ≤ j) : Touch w w'' S :=
  ⟨k.os.trans h.os, k.tape.trans h.tape, k.output.trans h.output, Nat.le_trans h.size k.size, fun i hi hn => (k.block i (Nat.lt_of_lt_of_le hi h.size) fun e => by have := hr i e.symm; omega).trans (h.block i hi hn)⟩
section
variable {w w' : World}
theorem touch_set {a : Addr} {x : Value} {S : List Nat} (ha : a.spot = none) (hS : a.block ∈ S) : Touch w (w.setCell a x) S := by
  obtain ⟨b, o, p⟩ := a
  simp only at ha hS
  subst ha
  exact grown_touch (setCells_grown b [x] w o) hS
theorem cell_off {S : List Nat} (h : Touch w w' S) {a : Addr} {v : Value} (ha : a.block ∉ S) (hc : w.cell? a = some v) : w'.cell? a = some v := by
  have hlt : a.block < w.heap.size := by
    unfold World.cell? at hc
    split at hc
    · exact (Array.getElem?_eq_some_iff.1 (by assumption)).1
    · cases hc
  rw [World.cell?_of_block (h.block a.block hlt ha)]
  exact hc
end
theorem slOf_off {α : Type} {enc : α → List Value} {k : Nat} {w w' : World} {v : Value} {xs : List α} {S : List Nat} (h : SlOf enc k w v xs) (ht : Touch w w' S) (hS : ∀ j, v.ownBlock = some j → j ∉ S) : SlOf enc k w' v xs := by
  obtain ⟨A, c, rfl, h1, h2, h3, h4⟩ := h
  refine ⟨A, c, rfl, h1, h2, h3, fun hn => ?_⟩
  obtain ⟨b, o, rfl, hb, hc⟩ := h4 hn
  exact ⟨b, o, rfl, Nat.lt_of_lt_of_le hb ht.size, fun j u hu => cell_off ht (hS b rfl) (hc j u hu)⟩
theorem Ints.at {w : World} {A : Option Addr} {n c : Nat} {xs : List Int} (h : Ints w (.slice A n c) xs) {k : Nat} (hk : k < xs.length) : ∃ b o, A = some ⟨b, o, none⟩ ∧ b < w.heap.size ∧ ∀ x, xs[k]? = some x → w.cell? ⟨b, o + k, none⟩ = some (.int .i64 x) := by
  obtain ⟨b, o, e, hb, hc⟩ := SlOf.opens lenI (SlOf.sl h) (by omega)
  refine ⟨b, o, e, hb, fun x hx => ?_⟩
  have := hc k x hx 0 _ rfl
  simpa using this
end Go.Proofs.YtikfffojeakjoaaGreatDoor
