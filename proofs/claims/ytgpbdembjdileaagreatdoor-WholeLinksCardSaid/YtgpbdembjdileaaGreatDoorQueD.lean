/- A queue of structs: a slice into a block of the call's own that is cut at its front and appended to. No condition. -/
import Derived.Test.YtgpbdembjdileaaGreatDoorFresh
import Derived.Test.YtgpbdembjdileaaGreatDoorCovT
import Derived.ArgAppend
namespace Go.Proofs.YtgpbdembjdileaaGreatDoor
open Go.RowKit Go.Maps

/-- v is a slice into a block from B on; it reads as xs. -/
def QuK {α : Type} (enc : α → List Value) (k : Nat) (e : TypeId) (B : Nat) (w : World) (v : Value) (xs : List α) : Prop :=
  (v = .slice none 0 0 ∧ xs = []) ∨ ∃ g off cap cur, v = .slice (some ⟨g, off, none⟩) xs.length cap ∧ B ≤ g ∧ w.heap[g]? = some (.cells cur e (0, 0)) ∧ xs.length ≤ cap ∧ cap ≤ maxLen ∧ off + cap * k ≤ cur.size ∧ ∀ (j : Nat) (u : Value), (xs.flatMap enc)[j]? = some u → cur[off + j]? = some u
abbrev QuD (B : Nat) (w : World) (v : Value) (xs : List Die) : Prop := QuK encD 2 24 B w v xs
section
variable {α : Type} {enc : α → List Value} {k : Nat} {e : TypeId} {w w' : World} {B : Nat} {v : Value} {xs : List α}
theorem QuK.lt (h : QuK enc k e B w v xs) : ∀ g, v.ownBlock = some g → B ≤ g ∧ g < w.heap.size := by
  intro j hj
  rcases h with ⟨rfl, _⟩ | ⟨g, off, cap, cur, rfl, hb, hg, _⟩
  · simp [Value.ownBlock] at hj
  · simp only [Value.ownBlock, Option.some.injEq] at hj
    subst hj
    exact ⟨hb, heap_lt hg⟩
theorem QuK.kept {row : Option Nat} (h : QuK enc k e B w v xs) (hg : w.grownBy w' row) (hne : v.ownBlock = none ∨ v.ownBlock ≠ row) : QuK enc k e B w' v xs := by
  rcases h with h | ⟨g, off, cap, cur, rfl, hb, hgg, rest⟩
  · exact .inl h
  · refine .inr ⟨g, off, cap, cur, rfl, hb, ?_, rest⟩
    rw [hg.block g (heap_lt hgg) (by simpa [Value.ownBlock] using hne)]
    exact hgg
theorem QuK.below (h : QuK enc k e B w v xs) (hb : Below w.heap.size w w') : QuK enc k e B w' v xs :=
  h.kept (row := none) ⟨hb.os, hb.tape, hb.output, hb.size, fun i hi _ => hb.block i hi⟩ (by cases v.ownBlock <;> simp)
theorem QuK.touch {S : List Nat} (h : QuK enc k e B w v xs) (ht : Touch w w' S) (hS : ∀ b ∈ S, b < B) : QuK enc k e B w' v xs := by
  rcases h with h | ⟨g, off, cap, cur, rfl, hb, hgg, rest⟩
  · exact .inl h
  · exact .inr ⟨g, off, cap, cur, rfl, hb, (ht.block g (heap_lt hgg) (fun hm => by have := hS g hm; omega)).trans hgg, rest⟩
theorem Own.qu (h : Own enc k e B w v xs) : QuK enc k e B w v xs := by
  rcases h.2 with ⟨rfl, hn⟩ | ⟨g, cap, cur, rfl, hb, hg, hle, hm, hs, htake⟩
  · exact .inl ⟨rfl, List.eq_nil_of_length_eq_zero hn⟩
  · refine .inr ⟨g, 0, cap, cur, rfl, hb, hg, hle, hm, by omega, fun i x hx => ?_⟩
    rw [← htake, List.getElem?_take] at hx
    split at hx
    · rw [Nat.zero_add]; simpa using hx
    · cases hx
/-- The queue without its first. -/
theorem QuK.head (hk : ∀ x, (enc x).length = k) {x : α} (h : QuK enc k e B w v (x :: xs)) : ∃ g off cap, v = .slice (some ⟨g, off, none⟩) (xs.length + 1) (cap + 1) ∧ cap + 1 ≤ maxLen ∧ xs.length ≤ cap ∧ g < w.heap.size ∧ B ≤ g ∧ (∀ j u, (enc x)[j]? = some u → w.cell? ⟨g, off + j, none⟩ = some u) ∧
    (0 < cap → QuK enc k e B w (.slice (some ⟨g, off + k, none⟩) xs.length cap) xs) ∧ (cap = 0 → xs = [] ∧ QuK enc k e B w (.slice (some ⟨g, off, none⟩) 0 0) ([] : List α)) := by
  rcases h with ⟨_, h0⟩ | ⟨g, off, cap, cur, rfl, hb, hg, hle, hm, hs, hc⟩
  · cases h0
  · simp only [List.length_cons] at hle
    obtain ⟨c, rfl⟩ : ∃ c, cap = c + 1 := ⟨cap - 1, by omega⟩
    rw [Nat.add_mul] at hs
    have hmul : c * k + 1 * k = c * k + k := by omega
    refine ⟨g, off, c, rfl, hm, by omega, heap_lt hg, hb, fun j u hu => ?_, fun _ => .inr ⟨g, off + k, c, cur, rfl, hb, hg, by omega, by omega, by omega, fun i y hy => ?_⟩, fun h0 => ?_⟩
    · rw [heap_cell hg]
      exact hc j u (by rw [List.flatMap_cons, List.getElem?_append_left (List.getElem?_eq_some_iff.1 hu).1]; exact hu)
    · have := hc (i + k) y (by rw [List.flatMap_cons, List.getElem?_append_right (by rw [hk]; omega), hk, Nat.add_sub_cancel]; exact hy)
      rwa [show off + k + i = off + (i + k) by omega]
    · subst h0
      have e0 : xs = [] := List.eq_nil_of_length_eq_zero (by omega)
      exact ⟨e0, .inr ⟨g, off, 0, cur, rfl, hb, hg, Nat.le_refl _, by simp [maxLen], by omega, fun i y hy => by simp at hy⟩⟩
theorem QuK.nil (h : QuK enc k e B w v ([] : List α)) : ∃ A c, v = .slice A 0 c := by
  rcases h with ⟨rfl, _⟩ | ⟨g, off, cap, cur, rfl, _⟩
  · exact ⟨_, _, rfl⟩
  · exact ⟨_, _, rfl⟩
theorem QuK.alloc (h : QuK enc k e B w v xs) (o : Obj) : QuK enc k e B (w.alloc o) v xs := h.kept (World.grownBy_alloc w o none) (by cases v.ownBlock <;> simp)
theorem setCells_get (b : Nat) (t : TypeId) : ∀ (vs : List Value) (w : World) (o : Nat) (cur : Array Value), w.heap[b]? = some (.cells cur t (0, 0)) → o + vs.length ≤ cur.size →
    ∃ cur', (w.setCells b o vs).heap[b]? = some (.cells cur' t (0, 0)) ∧ cur'.size = cur.size ∧ (∀ i, i < o → cur'[i]? = cur[i]?) ∧ (∀ j u, vs[j]? = some u → cur'[o + j]? = some u)
  | [], w, o, cur, h, _ => ⟨cur, h, rfl, fun _ _ => rfl, fun j u hu => by simp at hu⟩
  | v :: vs, w, o, cur, h, hl => by
    simp only [List.length_cons] at hl
    have h1 := heap_setCell_same w b o _ _ v h
    obtain ⟨cur', h2, h3, h4, h5⟩ := setCells_get b t vs (w.setCell ⟨b, o, none⟩ v) (o + 1) _ h1 (by simp; omega)
    refine ⟨cur', h2, by simpa using h3, fun i hi => ?_, fun j u hu => ?_⟩
    · rw [h4 i (by omega), Array.getElem?_setIfInBounds, if_neg (by omega)]
    · cases j with
      | zero =>
        rw [List.getElem?_cons_zero] at hu
        cases hu
        rw [Nat.add_zero, h4 o (by omega), Array.getElem?_setIfInBounds, if_pos rfl, if_pos (by omega)]
      | succ j =>
        rw [List.getElem?_cons_succ] at hu
        have := h5 j u hu
        rwa [show o + 1 + j = o + (j + 1) by omega] at this
/-- 'append(queue, y)'. -/
theorem wpList_appendQu {P : Program} {W : World} {ops : Array Oper} {rest : List Oper} {o : Oper} {a : Act} {Q : Exit → Act → World → Prop} (hgd : o.guard = none) (s x : Operand) (t : TypeId)
    (ho : o.op = .call { callee := .builtin .append, args := #[s, x], argTypes := #[t, t] }) (i : TypeInfo) (z : Value) (bytes : Nat) (ht : P.underlying t = some (.slice e)) (hi : P.info? e = some i) (hz : i.zero = some z) (hsize : i.size = k) (hby : i.bytes = bytes) (hzs : z.cells.size = k) (hk0 : 0 < k)
    (hk : ∀ x, (enc x).length = k) (h1 : ∀ x, ∀ u ∈ enc x, u.oneCell' = true)
    (hs : a.eval s = v) (hown : QuK enc k e B W v xs) (y : α) (cs : Array Value) (hcs : cs = (enc y).toArray) (g : Nat) (hg : g = W.heap.size) (hx : a.eval x = .slice (some ⟨g, 0, none⟩) 1 1) (hn : xs.length + 1 ≤ 1048576) (hn2 : (xs.length + 1) * bytes ≤ 140737488355328) (hB : B ≤ W.heap.size)
    (h : ∀ v' w', QuK enc k e B w' v' (xs ++ [y]) → W.grownBy w' v.ownBlock → (v'.ownBlock = v.ownBlock ∨ ∀ g, v'.ownBlock = some g → W.heap.size ≤ g) → wpList P ops Q rest (a.put o.dst v') w') : wpList P ops Q (o :: rest) a (W.alloc (.cells cs e)) := by
  subst hcs
  subst hg
  have hfl : ∀ zs : List α, (zs.flatMap enc).length = zs.length * k := flat_len enc k hk
  rcases hown with ⟨rfl, rfl⟩ | ⟨b, off, cap, cur, rfl, hb, hbg, hle, hm, hsz, hc⟩
  · exact wpList_append1 (enc := enc) (size := k) (B := B) hgd s x t ho e i z bytes ht hi hz hsize hby hzs hk0 hs (own_nil enc k e B W) y _ rfl hk h1 _ rfl hx (by simpa using hn2) (by simp) hB
      fun v' w' h1 h2 h3 => h v' w' (Own.qu h1) h2 (h3.imp id fun e g hg => by rw [e] at hg; have := Option.some.inj hg; omega)
  · have hb1 : (W.alloc (.cells (enc y).toArray e)).heap[b]? = some (.cells cur e (0, 0)) := (Below.heap_alloc W _ b (heap_lt hbg)).trans hbg
    have hmul : (xs.length + 1) * k = xs.length * k + k := by rw [Nat.add_mul]; omega
    refine wpList_append_arg _ hgd s x t ho e i z k bytes ht hi hz hsize hby hzs hk0 b off xs.length cap (xs.flatMap enc) hs (hfl xs) (fun j u hu => ?_) ⟨W.heap.size, 0, none⟩ 1 1 (enc y) hx (by rw [hk]; omega) (fun j u hu => ?_) (h1 y)
      (fun hr j hj => ?_) (by simp only [maxLen]; omega) hn2 (fun hr => ?_) (fun _ v' w' h1 h2 => ?_)
    · rw [heap_cell hb1]; exact hc j u hu
    · rw [Addr.add_lit, Nat.zero_add, heap_cell (heap_alloc_new W _)]
      simpa using hu
    · have hcap : (xs.length + 1) * k ≤ cap * k := Nat.mul_le_mul_right _ hr
      rw [hk] at hj
      refine ⟨?_, heap_free hb1⟩
      rw [heap_cell hb1, Array.getElem?_eq_getElem (by omega)]; rfl
    · have hcap : (xs.length + 1) * k ≤ cap * k := Nat.mul_le_mul_right _ hr
      obtain ⟨cur', q1, q2, q3, q4⟩ := setCells_get b e (enc y) (W.alloc (.cells (enc y).toArray e)) (off + xs.length * k) cur hb1 (by rw [hk]; omega)
      refine h _ _ (.inr ⟨b, off, cap, cur', by simp, hb, q1, by simp; omega, hm, by omega, fun j u hu => ?_⟩) ((World.grownBy_alloc W _ _).trans (setCells_grown b (enc y) _ _)) (.inl (by simp [Value.ownBlock]))
      rw [List.flatMap_append] at hu
      by_cases hj : j < xs.length * k
      · rw [List.getElem?_append_left (by rw [hfl]; exact hj)] at hu
        rw [q3 _ (by omega)]
        exact hc j u hu
      · rw [List.getElem?_append_right (by rw [hfl]; omega), hfl] at hu
        have := q4 (j - xs.length * k) u (by simpa using hu)
        rwa [show off + xs.length * k + (j - xs.length * k) = off + j by omega] at this
    · have hgr : W.grownBy w' none := (World.grownBy_alloc W _ none).trans h2
      have h3 : Own enc k e (W.heap.size + 1) w' v' (xs ++ [y]) := by
        have h4 := h1
        rw [show xs.flatMap enc ++ enc y = (xs ++ [y]).flatMap enc by rw [List.flatMap_append]; simp] at h4
        have h5 : Own enc k e (W.alloc (.cells (enc y).toArray e)).heap.size w' v' (xs ++ [y]) := by
          show World.ownsRow _ _ _ _ _ _ _
          rw [List.length_append]
          exact h4
        exact h5.base (by simp)
      exact h v' w' (Own.qu (h3.base (by omega))) ⟨hgr.os, hgr.tape, hgr.output, hgr.size, fun k hk _ => hgr.block k hk (by simp)⟩ (.inr fun g hg => by have := (h3.lt g hg).1; omega)
end
end Go.Proofs.YtgpbdembjdileaaGreatDoor
