/- More words for memory: a variable in a block of its own, a slice of slices. No condition. -/
import Derived.Test.YtikfffojeakjoaaGreatDoorBase
namespace Go.Proofs.YtikfffojeakjoaaGreatDoor
open Go.RowKit

/-- A variable in a block of its own. -/
theorem boxed (w : World) (cs : Array Value) (t : TypeId) : ∃ W, w.alloc (.cells cs t) = W ∧ Hid (W.heap.size = w.heap.size + 1) ∧ Below w.heap.size w W ∧ w.heap.size < W.heap.size ∧ ∀ i v, cs[i]? = some v → W.cell? ⟨w.heap.size, i, none⟩ = some v :=
  ⟨_, rfl, World.size_alloc _ _, (Below.refl _ _).alloc (Nat.le_refl _) _, by simp, fun i v h => by simp [h]⟩

/-- A slice of slices of numbers. -/
def Rows (w : World) (v : Value) (xss : List (List Int)) : Prop :=
  ∃ A c vs, v = .slice A xss.length c ∧ xss.length ≤ c ∧ c ≤ maxLen ∧ Sl w 1 A xss.length vs ∧ ∀ (i : Nat) (u : Value) (xs : List Int), vs[i]? = some u → xss[i]? = some xs → Ints w u xs
theorem Rows.below {w w' : World} {v : Value} {xss : List (List Int)} (h : Rows w v xss) (hb : Below w.heap.size w w') : Rows w' v xss := by
  obtain ⟨A, c, vs, e, h1, h2, h3, h4⟩ := h
  exact ⟨A, c, vs, e, h1, h2, h3.below hb, fun i u xs hu hx => (h4 i u xs hu hx).below hb⟩
theorem Rows.cells {w : World} {v : Value} {xss : List (List Int)} (h : Rows w v xss) : ∃ A c, v = .slice A xss.length c ∧ xss.length ≤ c ∧ (c : Int) ≤ 9223372036854775807 ∧
    ∀ k, k < xss.length → ∃ b o, A = some ⟨b, o, none⟩ ∧ b < w.heap.size ∧ ∀ i xs, xss[i]? = some xs → ∃ A' c', Ints w (.slice A' xs.length c') xs ∧ (c' : Int) ≤ 9223372036854775807 ∧ xs.length ≤ c' ∧ ∀ w', Below w.heap.size w w' → w'.cell? ⟨b, o + i, none⟩ = some (.slice A' xs.length c') := by
  obtain ⟨A, c, vs, e, h1, h2, h3, h4⟩ := h
  refine ⟨A, c, e, h1, by simp only [maxLen] at h2; omega, fun k hk => ?_⟩
  obtain ⟨b, o, e, hb, hc⟩ := h3.2 (by omega)
  refine ⟨b, o, e, hb, fun i xs hx => ?_⟩
  have hi : i < vs.length := by have := (List.getElem?_eq_some_iff.1 hx).1; have := h3.1; omega
  have hv : vs[i]? = some vs[i] := List.getElem?_eq_getElem hi
  have hI := h4 i _ xs hv hx
  obtain ⟨A', c', e', q1, q2, q3⟩ := hI
  refine ⟨A', c', ⟨A', c', rfl, q1, q2, q3⟩, by simp only [maxLen] at q2; omega, q1, fun w' hw' => ?_⟩
  have := cell_later hw' (hc i _ hv)
  rwa [e'] at this


theorem SlOf.sl {α : Type} {enc : α → List Value} {k n c : Nat} {w : World} {A : Option Addr} {xs : List α} (h : SlOf enc k w (.slice A n c) xs) : Sl w k A xs.length (xs.flatMap enc) := by
  obtain ⟨A', c', e, _, _, h3⟩ := h
  injection e with e1 _ _
  subst e1
  exact h3

/-- The slice lies in no block below B. -/
def Fresh (B : Nat) (v : Value) : Prop := ∀ g, v.ownBlock = some g → B ≤ g
theorem Fresh.mono {B B' : Nat} {v : Value} (h : Fresh B v) (hB : B' ≤ B) : Fresh B' v := fun g hg => Nat.le_trans hB (h g hg)
theorem fresh_nil (B : Nat) : Fresh B (.slice none 0 0) := by intro g hg; simp [Value.ownBlock] at hg
theorem Own.fresh {α : Type} {enc : α → List Value} {k : Nat} {e : TypeId} {B : Nat} {w : World} {v : Value} {xs : List α} (h : Own enc k e B w v xs) : Fresh B v := fun g hg => (h.lt g hg).1
theorem SlOf.setCell {α : Type} {enc : α → List Value} {k : Nat} {w : World} {v : Value} {xs : List α} (h : SlOf enc k w v xs) {p : Addr} (hp : v.ownBlock ≠ some p.block) (u : Value) : SlOf enc k (w.setCell p u) v xs := by
  obtain ⟨A, c, rfl, h1, h2, h3, h4⟩ := h
  refine ⟨A, c, rfl, h1, h2, h3, fun hn => ?_⟩
  obtain ⟨b, o, rfl, hb, hc⟩ := h4 hn
  refine ⟨b, o, rfl, by simpa using hb, fun j y hy => ?_⟩
  rw [World.cell?_setCell_other _ _ _ _ (fun e => hp (by rw [e]; rfl))]
  exact hc j y hy
theorem Fresh.ne {B g : Nat} {v : Value} (h : Fresh B v) (hg : g < B) : v.ownBlock ≠ some g := fun e => by have := h g e; omega

/-! ### append onto a slice of the call's own, whatever the source -/
section
variable {P : Program} {w : World} {α : Type} {enc : α → List Value} {size : Nat} {e : TypeId} {B : Nat} {v : Value} {xs : List α}

theorem run_append_nothing (t ty : TypeId) (i : TypeInfo) (ht : P.underlying t = some (.slice e)) (hi : P.info? e = some i) {n : Nat} {ys : List Value} (hown : w.ownsRow B e size v n ys) (A : Option Addr) (c : Nat) :
    (Builtin.append_ #[t, t] ty #[v, .slice A 0 c]).run P w = .ok v w := by
  rcases hown.2 with ⟨rfl, rfl⟩ | ⟨g, cap, cur, rfl, _, _, hnc, _⟩
  · cases A <;> simp [Builtin.append_, run_underlying ht, sizeOf, typeInfo, hi, Builtin.lenOf, Builtin.firstCells, loadCells, loadCellsFrom]
  · cases A <;> simp [Builtin.append_, run_underlying ht, sizeOf, typeInfo, hi, Builtin.lenOf, Builtin.firstCells, hnc, storeCells, loadCells, loadCellsFrom]

theorem run_append_sl (t ty : TypeId) (i : TypeInfo) (z : Value) (bytes : Nat) (ht : P.underlying t = some (.slice e)) (hi : P.info? e = some i) (hz : i.zero = some z)
    (hsize : i.size = size) (hby : i.bytes = bytes) (hzs : z.cells.size = size) (hsz : 0 < size) (h1 : ∀ x, ∀ u ∈ enc x, u.oneCell' = true)
    (hown : Own enc size e B w v xs) (A : Option Addr) (c : Nat) (ys : List α) (hr : Sl w size A ys.length (ys.flatMap enc))
    (hn : (xs.length + ys.length) * bytes ≤ 140737488355328) (hn' : xs.length + ys.length ≤ 140737488355328) (hB : B ≤ w.heap.size) :
    ∃ v' w', (Builtin.append_ #[t, t] ty #[v, .slice A ys.length c]).run P w = .ok v' w' ∧ Own enc size e B w' v' (xs ++ ys) ∧ w.grownBy w' v.ownBlock ∧ (v'.ownBlock = v.ownBlock ∨ v'.ownBlock = some w.heap.size) := by
  rcases Nat.eq_zero_or_pos ys.length with h0 | h0
  · have e0 : ys = [] := List.eq_nil_of_length_eq_zero h0
    subst e0
    exact ⟨v, w, run_append_nothing t ty i ht hi hown A c, by simpa using hown, World.grownBy.refl w _, .inl rfl⟩
  · obtain ⟨b, o, rfl, _, hc⟩ := hr.2 h0
    obtain ⟨v', w', hrun, h2, h3, _, h5⟩ := run_append_own_at (P := P) w B t ty e i z size bytes ht hi hz hsize hby hzs hsz v xs.length (xs.flatMap enc) hown ⟨b, o, none⟩ ys.length c (ys.flatMap enc) hr.1
      (fun j u hu => by rw [Addr.add_lit]; exact hc j u hu) (fun u hu => by obtain ⟨x, _, hx⟩ := List.mem_flatMap.1 hu; exact h1 x u hx) (by simp only [maxLen]; omega) hn hB
    exact ⟨v', w', hrun, by unfold Own; rw [List.flatMap_append, List.length_append]; exact h2, h3, h5⟩

theorem wp_append_sl {o : Oper} {a : Act} {K : Act → World → Prop} {Q : Exit → Act → World → Prop} (s x : Operand) (t : TypeId)
    (ho : o.op = .call { callee := .builtin .append, args := #[s, x], argTypes := #[t, t] })
    (i : TypeInfo) (z : Value) (bytes : Nat) (ht : P.underlying t = some (.slice e)) (hi : P.info? e = some i) (hz : i.zero = some z)
    (hsize : i.size = size) (hby : i.bytes = bytes) (hzs : z.cells.size = size) (hsz : 0 < size) (h1 : ∀ x, ∀ u ∈ enc x, u.oneCell' = true)
    (hs : a.eval s = v) (hown : Own enc size e B w v xs) (A : Option Addr) (c n : Nat) (ys : List α) (hx : a.eval x = .slice A n c) (hl : n = ys.length) (hr : Sl w size A ys.length (ys.flatMap enc))
    (hn : (xs.length + ys.length) * bytes ≤ 140737488355328) (hn' : xs.length + ys.length ≤ 140737488355328) (hB : B ≤ w.heap.size)
    (h : ∀ v' w', Own enc size e B w' v' (xs ++ ys) → w.grownBy w' v.ownBlock → (v'.ownBlock = v.ownBlock ∨ v'.ownBlock = some w.heap.size) → K (a.put o.dst v') w') : o.wp P a w K Q := by
  subst hl
  obtain ⟨v', w', hrun, h2, h3, h4⟩ := run_append_sl (P := P) t o.type i z bytes ht hi hz hsize hby hzs hsz h1 hown A c ys hr hn hn' hB
  unfold Oper.wp execOp
  simp only [ho, resolve, invoke, builtin, Sem.run_bind, Sem.run_pure, Result.andThen_ok, List.map_toArray, List.map_cons, List.map_nil, hs, hx, hrun]
  exact h v' w' h2 h3 h4
theorem wpList_append_sl {ops : Array Oper} {rest : List Oper} {o : Oper} {a : Act} {Q : Exit → Act → World → Prop} (hgd : o.guard = none) (s x : Operand) (t : TypeId)
    (ho : o.op = .call { callee := .builtin .append, args := #[s, x], argTypes := #[t, t] })
    (i : TypeInfo) (z : Value) (bytes : Nat) (ht : P.underlying t = some (.slice e)) (hi : P.info? e = some i) (hz : i.zero = some z)
    (hsize : i.size = size) (hby : i.bytes = bytes) (hzs : z.cells.size = size) (hsz : 0 < size) (h1 : ∀ x, ∀ u ∈ enc x, u.oneCell' = true)
    (hs : a.eval s = v) (hown : Own enc size e B w v xs) (A : Option Addr) (c n : Nat) (ys : List α) (hx : a.eval x = .slice A n c) (hl : n = ys.length) (hr : Sl w size A ys.length (ys.flatMap enc))
    (hn : (xs.length + ys.length) * bytes ≤ 140737488355328) (hn' : xs.length + ys.length ≤ 140737488355328) (hB : B ≤ w.heap.size)
    (h : ∀ v' w', Own enc size e B w' v' (xs ++ ys) → w.grownBy w' v.ownBlock → (v'.ownBlock = v.ownBlock ∨ v'.ownBlock = some w.heap.size) → wpList P ops Q rest (a.put o.dst v') w') : wpList P ops Q (o :: rest) a w :=
  wpList_plain hgd fun _ hK => wp_append_sl s x t ho i z bytes ht hi hz hsize hby hzs hsz h1 hs hown A c n ys hx hl hr hn hn' hB fun v' w' h2 h3 h4 => hK _ _ (h v' w' h2 h3 h4)
theorem step_append_sl {ops : Array Oper} {o : Oper} {a : Act} {K : Act → World → Prop} {Q : Exit → Act → World → Prop} {E : Prop} (hgd : o.guard = none) (s x : Operand) (t : TypeId)
    (ho : o.op = .call { callee := .builtin .append, args := #[s, x], argTypes := #[t, t] })
    (i : TypeInfo) (z : Value) (bytes : Nat) (ht : P.underlying t = some (.slice e)) (hi : P.info? e = some i) (hz : i.zero = some z)
    (hsize : i.size = size) (hby : i.bytes = bytes) (hzs : z.cells.size = size) (hsz : 0 < size) (h1 : ∀ x, ∀ u ∈ enc x, u.oneCell' = true)
    (hs : a.eval s = v) (hown : Own enc size e B w v xs) (A : Option Addr) (c n : Nat) (ys : List α) (hx : a.eval x = .slice A n c) (hl : n = ys.length) (hr : Sl w size A ys.length (ys.flatMap enc))
    (hn : (xs.length + ys.length) * bytes ≤ 140737488355328) (hn' : xs.length + ys.length ≤ 140737488355328) (hB : B ≤ w.heap.size)
    (h : ∀ v' w', Own enc size e B w' v' (xs ++ ys) → w.grownBy w' v.ownBlock → (v'.ownBlock = v.ownBlock ∨ v'.ownBlock = some w.heap.size) → K (a.put o.dst v') w') :
    if Region.wanted o (yielded ops a.tmps) = true then Oper.wp P o a w K Q else E := by
  rw [if_pos (by simp [Region.wanted, hgd])]
  exact wp_append_sl s x t ho i z bytes ht hi hz hsize hby hzs hsz h1 hs hown A c n ys hx hl hr hn hn' hB h
end

theorem Own.drew {α : Type} {enc : α → List Value} {k : Nat} {e : TypeId} {B : Nat} {w : World} {v : Value} {xs : List α} (h : Own enc k e B w v xs) : Own enc k e B w.drew v xs := h
/-- A slice of the call's own, empty, in a block of no cells. -/
theorem own_empty {α : Type} {enc : α → List Value} {k : Nat} {e : TypeId} {B g : Nat} {W : World} (h : W.heap[g]? = some (.cells #[] e (0, 0))) (hB : B ≤ g) : Own enc k e B W (.slice (some ⟨g, 0, none⟩) 0 0) ([] : List α) :=
  ⟨by simp, .inr ⟨g, 0, #[], rfl, hB, h, Nat.le_refl _, by simp [maxLen], by simp, by simp⟩⟩
/-- One element in a block of its own. -/
theorem sl_one {α : Type} {enc : α → List Value} {k : Nat} {e : TypeId} {g : Nat} {W : World} {x : α} (hk : (enc x).length = k) (h : W.heap[g]? = some (.cells (enc x).toArray e (0, 0))) : Sl W k (some ⟨g, 0, none⟩) [x].length ([x].flatMap enc) := by
  refine ⟨by simp [hk], fun _ => ⟨g, 0, rfl, (Array.getElem?_eq_some_iff.1 h).1, fun j u hu => ?_⟩⟩
  rw [cell_of_row W g (0 + j) _ e (0, 0) h]
  simpa using hu
/-- The first elements of a slice, and those from a place on. -/
theorem Sl.take {w : World} {k n : Nat} {A : Option Addr} {xs : List Value} (h : Sl w k A n xs) {m : Nat} (hm : m ≤ n) : Sl w k A m (xs.take (m * k)) := by
  refine ⟨?_, fun hp => ?_⟩
  · rw [List.length_take, h.1]
    exact Nat.min_eq_left (Nat.mul_le_mul_right k hm)
  · obtain ⟨b, o, e, hb, hc⟩ := h.2 (by omega)
    refine ⟨b, o, e, hb, fun j u hu => hc j u ?_⟩
    rw [List.getElem?_take] at hu
    split at hu
    · exact hu
    · cases hu
theorem flat_take {α : Type} (enc : α → List Value) (k : Nat) (hk : ∀ x, (enc x).length = k) : ∀ (xs : List α) (m : Nat), (xs.take m).flatMap enc = (xs.flatMap enc).take (m * k)
  | [], m => by simp
  | x :: xs, 0 => by simp
  | x :: xs, m + 1 => by
    rw [List.take_succ_cons, List.flatMap_cons, List.flatMap_cons, flat_take enc k hk xs m, Nat.add_mul, Nat.add_comm, Nat.one_mul, ← hk x, List.take_length_add_append]
theorem flat_drop {α : Type} (enc : α → List Value) (k : Nat) (hk : ∀ x, (enc x).length = k) : ∀ (xs : List α) (m : Nat), (xs.drop m).flatMap enc = (xs.flatMap enc).drop (m * k)
  | [], m => by simp
  | x :: xs, 0 => by simp
  | x :: xs, m + 1 => by
    rw [List.drop_succ_cons, List.flatMap_cons, flat_drop enc k hk xs m, Nat.add_mul, Nat.add_comm, Nat.one_mul, ← hk x, List.drop_length_add_append]
theorem Sl.drop {w : World} {k n : Nat} {b o : Nat} {xs : List Value} (h : Sl w k (some ⟨b, o, none⟩) n xs) {m : Nat} (hm : m ≤ n) : Sl w k (some ⟨b, o + m * k, none⟩) (n - m) (xs.drop (m * k)) := by
  refine ⟨by rw [List.length_drop, h.1, Nat.sub_mul], fun hp => ?_⟩
  obtain ⟨b', o', e, hb, hc⟩ := h.2 (by omega)
  simp only [Option.some.injEq, Addr.mk.injEq] at e
  obtain ⟨rfl, rfl, _⟩ := e
  refine ⟨b, o + m * k, rfl, hb, fun j u hu => ?_⟩
  rw [List.getElem?_drop] at hu
  have := hc _ u hu
  rwa [Nat.add_assoc]
theorem nodup_len {α : Type} [DecidableEq α] : ∀ {l c : List α}, l.Nodup → (∀ x ∈ l, x ∈ c) → l.length ≤ c.length
  | [], c, _, _ => by simp
  | x :: l, c, hn, hs => by
    rw [List.nodup_cons] at hn
    have hx := hs x (by simp)
    have := nodup_len (c := c.erase x) hn.2 (fun y hy => (List.mem_erase_of_ne (fun e => hn.1 (by rw [← e]; exact hy))).2 (hs y (List.mem_cons_of_mem _ hy)))
    rw [List.length_erase_of_mem hx] at this
    have := List.length_pos_of_mem hx
    simp only [List.length_cons]
    omega
end Go.Proofs.YtikfffojeakjoaaGreatDoor
