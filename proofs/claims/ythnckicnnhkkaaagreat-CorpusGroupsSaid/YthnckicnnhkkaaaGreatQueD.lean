/- A queue of structs: a slice into a block of the call's own that is cut at its front and appended to. No condition. -/
import Derived.Test.YthnckicnnhkkaaaGreatCovT
import Derived.ArgAppend
import Derived.Test.YthnckicnnhkkaaaGreatJoinP
import Derived.Test.YthnckicnnhkkaaaGreatGroA
namespace Go.Proofs.YthnckicnnhkkaaaGreat
open Go.RowKit Go.Maps

/-- v is a slice into a block from B on; it reads as xs. -/
def QuK {α : Type} (enc : α → List Value) (k : Nat) (e : TypeId) (B : Nat) (w : World) (v : Value) (xs : List α) : Prop :=
  (v = .slice none 0 0 ∧ xs = []) ∨ ∃ g off cap cur, v = .slice (some ⟨g, off, none⟩) xs.length cap ∧ B ≤ g ∧ w.heap[g]? = some (.cells cur e (0, 0)) ∧ xs.length ≤ cap ∧ cap ≤ maxLen ∧ off + cap * k ≤ cur.size ∧ ∀ (j : Nat) (u : Value), (xs.flatMap enc)[j]? = some u → cur[off + j]? = some u
abbrev QuD (B : Nat) (w : World) (v : Value) (xs : List Die) : Prop := QuK encD 2 143 B w v xs
section
variable {α : Type} {enc : α → List Value} {k : Nat} {e : TypeId} {w w' : World} {B : Nat} {v : Value} {xs : List α}
theorem QuK.lt (h : QuK enc k e B w v xs) : ∀ g, v.ownBlock = some g → B ≤ g ∧ g < w.heap.size := by
  intro j hj
  rcases h with ⟨rfl, _⟩ | ⟨g, off, cap, cur, rfl, hb, hg, _⟩
  · simp [Value.ownBlock] at hj
  · simp only [Value.ownBlock, Option.some.injEq] at hj
    subst hj
    exact ⟨hb, heap_lt hg⟩
theorem QuK.kept {row : Option Nat} (h : QuK enc k e B w v xs) (hg : w.grownBy w' row) (hne : v.ownBlock = none ∨ v.ownBlock ≠ row) : QuK enc k e B w' v xs := by
  rcases h with h | ⟨g, off, cap, cur, rfl, hb, hgg, rest⟩
  · exact .inl h
  · refine .inr ⟨g, off, cap, cur, rfl, hb, ?_, rest⟩
    rw [hg.block g (heap_lt hgg) (by simpa [Value.ownBlock] using hne)]
    exact hgg
theorem QuK.below (h : QuK enc k e B w v xs) (hb : Below w.heap.size w w') : QuK enc k e B w' v xs :=
  h.kept (row := none) ⟨hb.os, hb.tape, hb.output, hb.size, fun i hi _ => hb.block i hi⟩ (by cases v.ownBlock <;> simp)
theorem Own.qu (h : Own enc k e B w v xs) : QuK enc k e B w v xs := by
  rcases h.2 with ⟨rfl, hn⟩ | ⟨g, cap, cur, rfl, hb, hg, hle, hm, hs, htake⟩
  · exact .inl ⟨rfl, List.eq_nil_of_length_eq_zero hn⟩
  · refine .inr ⟨g, 0, cap, cur, rfl, hb, hg, hle, hm, by omega, fun i x hx => ?_⟩
    rw [← htake, List.getElem?_take] at hx
    split at hx
    · rw [Nat.zero_add]; simpa using hx
    · cases hx
/-- The queue without its first. -/
theorem QuK.head (hk : ∀ x, (enc x).length = k) {x : α} (h : QuK enc k e B w v (x :: xs)) : ∃ g off cap, v = .slice (some ⟨g, off, none⟩) (xs.length + 1) (cap + 1) ∧ cap + 1 ≤ maxLen ∧ xs.length ≤ cap ∧ g < w.heap.size ∧ B ≤ g ∧ (∀ j u, (enc x)[j]? = some u → w.cell? ⟨g, off + j, none⟩ = some u) ∧
    (0 < cap → QuK enc k e B w (.slice (some ⟨g, off + k, none⟩) xs.length cap) xs) ∧ (cap = 0 → xs = [] ∧ QuK enc k e B w (.slice (some ⟨g, off, none⟩) 0 0) ([] : List α)) := by
  rcases h with ⟨_, h0⟩ | ⟨g, off, cap, cur, rfl, hb, hg, hle, hm, hs, hc⟩
  · cases h0
  · simp only [List.length_cons] at hle
    obtain ⟨c, rfl⟩ : ∃ c, cap = c + 1 := ⟨cap - 1, by omega⟩
    rw [Nat.add_mul] at hs
    have hmul : c * k + 1 * k = c * k + k := by omega
    refine ⟨g, off, c, rfl, hm, by omega, heap_lt hg, hb, fun j u hu => ?_, fun _ => .inr ⟨g, off + k, c, cur, rfl, hb, hg, by omega, by omega, by omega, fun i y hy => ?_⟩, fun h0 => ?_⟩
    · rw [heap_cell hg]
      exact hc j u (by rw [List.flatMap_cons, List.getElem?_append_left (List.getElem?_eq_some_iff.1 hu).1]; exact hu)
    · have := hc (i + k) y (by rw [List.flatMap_cons, List.getElem?_append_right (by rw [hk]; omega), hk, Nat.add_sub_cancel]; exact hy)
      rwa [show off + k + i = off + (i + k) by omega]
    · subst h0
      have e0 : xs = [] := List.eq_nil_of_length_eq_zero (by omega)
      exact ⟨e0, .inr ⟨g, off, 0, cur, rfl, hb, hg, Nat.le_refl _, by simp [maxLen], by omega, fun i y hy => by simp at hy⟩⟩
theorem QuK.nil (h : QuK enc k e B w v ([] : List α)) : ∃ A c, v = .slice A 0 c := by
  rcases h with ⟨rfl, _⟩ | ⟨g, off, cap, cur, rfl, _⟩
  · exact ⟨_, _, rfl⟩
  · exact ⟨_, _, rfl⟩
theorem setCells_get (b : Nat) (t : TypeId) : ∀ (vs : List Value) (w : World) (o : Nat) (cur : Array Value), w.heap[b]? = some (.cells cur t (0, 0)) → o + vs.length ≤ cur.size →
    ∃ cur', (w.setCells b o vs).heap[b]? = some (.cells cur' t (0, 0)) ∧ cur'.size = cur.size ∧ (∀ i, i < o → cur'[i]? = cur[i]?) ∧ (∀ j u, vs[j]? = some u → cur'[o + j]? = some u)
  | [], w, o, cur, h, _ => ⟨cur, h, rfl, fun _ _ => rfl, fun j u hu => by simp at hu⟩
  | v :: vs, w, o, cur, h, hl => by
    simp only [List.length_cons] at hl
    have h1 := heap_setCell_same w b o _ _ v h
    obtain ⟨cur', h2, h3, h4, h5⟩ := setCells_get b t vs (w.setCell ⟨b, o, none⟩ v) (o + 1) _ h1 (by simp; omega)
    refine ⟨cur', h2, by simpa using h3, fun i hi => ?_, fun j u hu => ?_⟩
    · rw [h4 i (by omega), Array.getElem?_setIfInBounds, if_neg (by omega)]
    · cases j with
      | zero =>
        rw [List.getElem?_cons_zero] at hu
        cases hu
        rw [Nat.add_zero, h4 o (by omega), Array.getElem?_setIfInBounds, if_pos rfl, if_pos (by omega)]
      | succ j =>
        rw [List.getElem?_cons_succ] at hu
        have := h5 j u hu
        rwa [show o + 1 + j = o + (j + 1) by omega] at this
/-- 'append(queue, y)'. -/
theorem wpList_appendQu {P : Program} {W : World} {ops : Array Oper} {rest : List Oper} {o : Oper} {a : Act} {Q : Exit → Act → World → Prop} (hgd : o.guard = none) (s x : Operand) (t : TypeId)
    (ho : o.op = .call { callee := .builtin .append, args := #[s, x], argTypes := #[t, t] }) (i : TypeInfo) (z : Value) (bytes : Nat) (ht : P.underlying t = some (.slice e)) (hi : P.info? e = some i) (hz : i.zero = some z) (hsize : i.size = k) (hby : i.bytes = bytes) (hzs : z.cells.size = k) (hk0 : 0 < k)
    (hk : ∀ x, (enc x).length = k) (h1 : ∀ x, ∀ u ∈ enc x, u.oneCell' = true)
    (hs : a.eval s = v) (hown : QuK enc k e B W v xs) (y : α) (cs : Array Value) (hcs : cs = (enc y).toArray) (g : Nat) (hg : g = W.heap.size) (hx : a.eval x = .slice (some ⟨g, 0, none⟩) 1 1) (hn : xs.length + 1 ≤ 1048576) (hn2 : (xs.length + 1) * bytes ≤ 140737488355328) (hB : B ≤ W.heap.size)
    (h : ∀ v' w', QuK enc k e B w' v' (xs ++ [y]) → W.grownBy w' v.ownBlock → (v'.ownBlock = v.ownBlock ∨ ∀ g, v'.ownBlock = some g → W.heap.size ≤ g) → wpList P ops Q rest (a.put o.dst v') w') : wpList P ops Q (o :: rest) a (W.alloc (.cells cs e)) := by
  subst hcs
  subst hg
  have hfl : ∀ zs : List α, (zs.flatMap enc).length = zs.length * k := flat_len enc k hk
  rcases hown with ⟨rfl, rfl⟩ | ⟨b, off, cap, cur, rfl, hb, hbg, hle, hm, hsz, hc⟩
  · exact wpList_append1 (enc := enc) (size := k) (B := B) hgd s x t ho e i z bytes ht hi hz hsize hby hzs hk0 hs (own_nil enc k e B W) y _ rfl hk h1 _ rfl hx (by simpa using hn2) (by simp) hB
      fun v' w' h1 h2 h3 => h v' w' (Own.qu h1) h2 (h3.imp id fun e g hg => by rw [e] at hg; have := Option.some.inj hg; omega)
  · have hb1 : (W.alloc (.cells (enc y).toArray e)).heap[b]? = some (.cells cur e (0, 0)) := (Below.heap_alloc W _ b (heap_lt hbg)).trans hbg
    have hmul : (xs.length + 1) * k = xs.length * k + k := by rw [Nat.add_mul]; omega
    refine wpList_append_arg _ hgd s x t ho e i z k bytes ht hi hz hsize hby hzs hk0 b off xs.length cap (xs.flatMap enc) hs (hfl xs) (fun j u hu => ?_) ⟨W.heap.size, 0, none⟩ 1 1 (enc y) hx (by rw [hk]; omega) (fun j u hu => ?_) (h1 y)
      (fun hr j hj => ?_) (by simp only [maxLen]; omega) hn2 (fun hr => ?_) (fun _ v' w' h1 h2 => ?_)
    · rw [heap_cell hb1]; exact hc j u hu
    · rw [Addr.add_lit, Nat.zero_add, heap_cell (heap_alloc_new W _)]
      simpa using hu
    · have hcap : (xs.length + 1) * k ≤ cap * k := Nat.mul_le_mul_right _ hr
      rw [hk] at hj
      refine ⟨?_, heap_free hb1⟩
      rw [heap_cell hb1, Array.getElem?_eq_getElem (by omega)]; rfl
    · have hcap : (xs.length + 1) * k ≤ cap * k := Nat.mul_le_mul_right _ hr
      obtain ⟨cur', q1, q2, q3, q4⟩ := setCells_get b e (enc y) (W.alloc (.cells (enc y).toArray e)) (off + xs.length * k) cur hb1 (by rw [hk]; omega)
      refine h _ _ (.inr ⟨b, off, cap, cur', by simp, hb, q1, by simp; omega, hm, by omega, fun j u hu => ?_⟩) ((World.grownBy_alloc W _ _).trans (setCells_grown b (enc y) _ _)) (.inl (by simp [Value.ownBlock]))
      rw [List.flatMap_append] at hu
      by_cases hj : j < xs.length * k
      · rw [List.getElem?_append_left (by rw [hfl]; exact hj)] at hu
        rw [q3 _ (by omega)]
        exact hc j u hu
      · rw [List.getElem?_append_right (by rw [hfl]; omega), hfl] at hu
        have := q4 (j - xs.length * k) u (by simpa using hu)
        rwa [show off + xs.length * k + (j - xs.length * k) = off + j by omega] at this
    · have hgr : W.grownBy w' none := (World.grownBy_alloc W _ none).trans h2
      have h3 : Own enc k e (W.heap.size + 1) w' v' (xs ++ [y]) := by
        have h4 := h1
        rw [show xs.flatMap enc ++ enc y = (xs ++ [y]).flatMap enc by rw [List.flatMap_append]; simp] at h4
        have h5 : Own enc k e (W.alloc (.cells (enc y).toArray e)).heap.size w' v' (xs ++ [y]) := by
          show World.ownsRow _ _ _ _ _ _ _
          rw [List.length_append]
          exact h4
        exact h5.base (by simp)
      exact h v' w' (Own.qu (h3.base (by omega))) ⟨hgr.os, hgr.tape, hgr.output, hgr.size, fun k hk _ => hgr.block k hk (by simp)⟩ (.inr fun g hg => by have := (h3.lt g hg).1; omega)
end
end Go.Proofs.YthnckicnnhkkaaaGreat
/- component.ends, across. No condition. -/
namespace Go.Proofs.YthnckicnnhkkaaaGreat
open Go.RowKit Go.Maps

set_option maxHeartbeats 2000000 in
theorem ends_ok (x : Link) (w : World) : Calls Tryz.prog 247 #[valL x] w fun e w' => e = .returned (.tuple #[vlD (lA x), vlD (lB x)]) ∧ Below w.heap.size w w' := by
  obtain ⟨W0, hW0, Hz0, hb0, hlt0, hc0⟩ := boxed w #[.int .i64 x.id, .int .i64 x.obv, .int .i64 x.rev] 135
  obtain ⟨W1, hW1, Hz1, hb1, hlt1, hc1⟩ := boxed W0 #[.int .i64 0, .int .i64 0] 143
  obtain ⟨W2, hW2, Hz2, hb2, hlt2, hc2⟩ := boxed W1 #[.int .i64 0, .int .i64 0] 143
  have hb12 := below_trans hb1 hb2
  have a1 := cell_later hb12 (hc0 1 _ rfl); have a2 := cell_later hb12 (hc0 2 _ rfl)
  have HW := Lib.hid (below_trans hb0 hb12)
  have g1 : W1.heap[W0.heap.size]? = some (.cells #[.int .i64 0, .int .i64 0] 143 (0, 0)) := by rw [← hW1]; exact heap_alloc_new _ _
  have g2 : W2.heap[W1.heap.size]? = some (.cells #[.int .i64 0, .int .i64 0] 143 (0, 0)) := by rw [← hW2]; exact heap_alloc_new _ _
  have G1 := Lib.hid (heap_below g1 hb2 (heap_lt g1)); have G2 := Lib.hid g2
  clear hc0 hc1 hc2 g1 g2 hb0 hb1 hb2 hb12
  go_enter Tryz.func247, Tryz.ntmps247
  go_wp2_with fail
  have hba : Below W2.heap.size W2 W2.drew := (Below.refl _ _).drew
  obtain ⟨wa, hwa⟩ : ∃ W, W2.drew = W := ⟨_, rfl⟩
  rw [hwa] at hba
  have b1 := cell_later hba a1; have b2 := cell_later hba a2
  have hHeld : wa.cell? ⟨w.heap.size, 1, none⟩ = some (.int .i64 x.obv) ∧ wa.cell? ⟨w.heap.size, 2, none⟩ = some (.int .i64 x.rev) := ⟨b1, b2⟩
  have h1 := heap_below G1.out hba (heap_lt G1.out); have h2 := heap_below G2.out hba (heap_lt G2.out)
  have hne : W0.heap.size ≠ w.heap.size ∧ W1.heap.size ≠ w.heap.size ∧ W0.heap.size ≠ W1.heap.size := by omega
  have HW' := Lib.hid (below_trans HW.out hba)
  refine wp_region_S 7 (fun w' => w'.cell? ⟨w.heap.size, 1, none⟩ = some (.int .i64 x.obv) ∧ w'.cell? ⟨w.heap.size, 2, none⟩ = some (.int .i64 x.rev)) (by kernel_rfl) (by decide) ?_
  rw [hwa]
  clear hwa hW0 hW1 hW2 a1 a2 G1 G2 hba
  refine wpAnyS_takeD 0 (some 4) (.pointer (some ⟨w.heap.size, 1, none⟩)) (by rfl) (by rfl) (by kernel_rfl) (by exact fun _ _ _ h => h) (by rfl) (fun w' hS => by go_simp) hHeld ?_
  simp only [Act.put, List.setIfInBounds_toArray, List.set_cons_succ, List.set_cons_zero]
  refine wpAnyS_takeD 1 (some 5) (.int .i64 x.obv) (by rfl) (by rfl) (by kernel_rfl) (by exact fun _ _ _ h => h) (by rfl) (fun w' hS => by (have q := hS.1; go_simp)) hHeld ?_
  simp only [Act.put, List.setIfInBounds_toArray, List.set_cons_succ, List.set_cons_zero]
  refine wpAnyS_takeD 2 (some 6) (.agg #[.int .i64 0, .int .i64 x.obv]) (by rfl) (by rfl) (by kernel_rfl) (by exact fun _ _ _ h => h) (by rfl) (fun w' hS => by go_simp) hHeld ?_
  simp only [Act.put, List.setIfInBounds_toArray, List.set_cons_succ, List.set_cons_zero]
  refine wpAnyS_takeD 3 (some 7) (.pointer (some ⟨w.heap.size, 2, none⟩)) (by rfl) (by rfl) (by kernel_rfl) (by exact fun _ _ _ h => h) (by rfl) (fun w' hS => by go_simp) hHeld ?_
  simp only [Act.put, List.setIfInBounds_toArray, List.set_cons_succ, List.set_cons_zero]
  refine wpAnyS_takeD 4 (some 8) (.int .i64 x.rev) (by rfl) (by rfl) (by kernel_rfl) (by exact fun _ _ _ h => h) (by rfl) (fun w' hS => by (have q := hS.2; go_simp)) hHeld ?_
  simp only [Act.put, List.setIfInBounds_toArray, List.set_cons_succ, List.set_cons_zero]
  refine wpAnyS_takeD 5 (some 9) (.agg #[.int .i64 1, .int .i64 x.rev]) (by rfl) (by rfl) (by kernel_rfl) (by exact fun _ _ _ h => h) (by rfl) (fun w' hS => by go_simp) hHeld ?_
  simp only [Act.put, List.setIfInBounds_toArray, List.set_cons_succ, List.set_cons_zero]
  have c0 := (heap_cell (i := 0) h1).trans rfl; have c1 := (heap_cell (i := 1) h1).trans rfl; have f0 := heap_free (i := 0) h1; have f1 := heap_free (i := 1) h1
  have d0 := (heap_cell (i := 0) h2).trans rfl; have d1 := (heap_cell (i := 1) h2).trans rfl; have e0 := heap_free (i := 0) h2; have e1 := heap_free (i := 1) h2
  refine wpAnyS_one 6 (by kernel_rfl) (by rfl) (by decide) (fun K hK => ?_)
  have HK := Lib.hid hK; clear hK
  rw [if_pos (by rfl)]
  go_simp
  obtain ⟨wb, hwb⟩ : ∃ z, (wa.setCell ⟨W0.heap.size, 0, none⟩ (.int .i64 0)).setCell ⟨W0.heap.size, 1, none⟩ (.int .i64 x.obv) = z := ⟨_, rfl⟩
  rw [hwb]
  have hgb : wa.grownBy wb (some W0.heap.size) := by rw [← hwb]; exact setCells_grown W0.heap.size [.int .i64 0, .int .i64 x.obv] wa 0
  have r1 : wb.heap[W0.heap.size]? = some (.cells #[.int .i64 0, .int .i64 x.obv] 143 (0, 0)) := by
    have q1 := heap_setCell_same wa W0.heap.size 0 _ _ (.int .i64 0) h1
    have q2 := heap_setCell_same _ W0.heap.size 1 _ _ (.int .i64 x.obv) q1
    rw [hwb] at q2
    simpa using q2
  have r2 := (hgb.block _ (heap_lt h2) (fun e => hne.2.2 (Option.some.inj e).symm)).trans h2
  have s1 : wb.cell? ⟨w.heap.size, 1, none⟩ = some (.int .i64 x.obv) := by rw [World.cell?_of_block (hgb.block _ (World.block_lt_of_cell? wa _ b1) (fun e => hne.1 (Option.some.inj e).symm))]; exact b1
  have s2 : wb.cell? ⟨w.heap.size, 2, none⟩ = some (.int .i64 x.rev) := by rw [World.cell?_of_block (hgb.block _ (World.block_lt_of_cell? wa _ b2) (fun e => hne.1 (Option.some.inj e).symm))]; exact b2
  have HB := Lib.hid (HW'.out.grown hgb HW'.out.size (fun j e => by cases e; omega))
  refine HK.out _ _ ⟨s1, s2⟩ ?_
  clear HK hHeld hwb c0 c1 f0 f1 d0 d1 e0 e1 h1 h2 b1 b2 hgb s1 s2 HW' HW
  refine (show tailOf _ _ _ _ _ _ _ _ from ⟨by kernel_rfl, ?_⟩)
  simp only [List.drop_succ_cons, List.drop_zero]
  have d0 := (heap_cell (i := 0) r2).trans rfl; have d1 := (heap_cell (i := 1) r2).trans rfl; have e0 := heap_free (i := 0) r2; have e1 := heap_free (i := 1) r2
  have c0 : wb.cell? ⟨W0.heap.size, 0, none⟩ = some (.int .i64 0) := heap_cell (i := 0) r1
  have c1 : wb.cell? ⟨W0.heap.size, 1, none⟩ = some (.int .i64 x.obv) := heap_cell (i := 1) r1
  have d0' : wb.cell? ⟨W1.heap.size, 0, none⟩ = some (.int .i64 0) := heap_cell (i := 0) r2
  have d1' : wb.cell? ⟨W1.heap.size, 1, none⟩ = some (.int .i64 0) := heap_cell (i := 1) r2
  obtain ⟨n1, n2, n3⟩ := hne
  have R2 := Lib.hid r2
  clear r1 r2
  go_wp2_with fail
  refine bodyPost_ret (v := .tuple #[vlD (lA x), vlD (lB x)]) (by simp [results, Tryz.results247, go_sem, c0, c1, d0', d1', lA, lB]) rfl ⟨rfl, HB.out.grown (setCells_grown W1.heap.size [.int .i64 1, .int .i64 x.rev] wb 0) HB.out.size (fun j e => by cases e; omega)⟩

theorem dieNe {d p : Die} (h : d ≠ p) : ((d.side = p.side) = False) ∨ (((d.side = p.side) = True) ∧ ((d.num = p.num) = False)) := by
  by_cases h1 : d.side = p.side
  · exact .inr ⟨eq_true h1, eq_false fun h2 => h (by cases d; cases p; simp_all)⟩
  · exact .inl (eq_false h1)
set_option maxHeartbeats 4000000 in
theorem across_ok (x : Link) (d : Die) (w : World) : Calls Tryz.prog 212 #[valL x, vlD d] w fun e w' => e = .returned (.tuple #[vlD (acrD x d), .bool (acrO x d).isSome]) ∧ Below w.heap.size w w' := by
  obtain ⟨W0, hW0, Hz0, hb0, hlt0, hc0⟩ := boxed w #[.int .i64 x.id, .int .i64 x.obv, .int .i64 x.rev] 135
  obtain ⟨W1, hW1, Hz1, hb1, hlt1, hc1⟩ := boxed W0 #[.int .i64 d.side, .int .i64 d.num] 143
  obtain ⟨W2, hW2, Hz2, hb2, hlt2, hc2⟩ := boxed W1 #[.int .i64 0, .int .i64 0] 143
  have hb12 := below_trans hb1 hb2
  have a0 := cell_later hb12 (hc0 0 _ rfl); have a1 := cell_later hb12 (hc0 1 _ rfl); have a2 := cell_later hb12 (hc0 2 _ rfl)
  have b0 := cell_later hb2 (hc1 0 _ rfl); have b1 := cell_later hb2 (hc1 1 _ rfl)
  have g2 : W2.heap[W1.heap.size]? = some (.cells #[.int .i64 0, .int .i64 0] 143 (0, 0)) := by rw [← hW2]; exact heap_alloc_new _ _
  have hbw := below_trans hb0 hb12
  have HA : Hid (acrO x d = if d = lA x then some (lB x) else if d = lB x then some (lA x) else none) := Lib.hid rfl
  have HE := Lib.hid (ends_ok x)
  unfold acrD
  generalize acrO x d = R at HA ⊢
  generalize lA x = p at HA HE ⊢
  generalize lB x = q at HA HE ⊢
  clear hc0 hc1 hc2
  go_enter Tryz.func212, Tryz.ntmps212
  go_wp2_with fail
  refine (HE.out _).mono ?_
  rintro e w3 ⟨rfl, hb3⟩
  have hw3 := below_trans hbw hb3
  have g3 := heap_below g2 hb3 (heap_lt g2)
  have b0 := cell_later hb3 b0; have b1 := cell_later hb3 b1
  clear a0 a1 a2 hW0 hW1 hW2 g2
  obtain ⟨V1, V2, V, hV1, hV2, hV, HzV, hltV, kz1, kz2, k1, k2, hbV, hltV'⟩ := fresh2 w3 [.int .i64 0, .int .i64 0] [.int .i64 p.side, .int .i64 p.num] [.int .i64 0, .int .i64 0] [.int .i64 q.side, .int .i64 q.num] 143 rfl rfl
  have hsV : (((V2.setCell ⟨w3.heap.size, 0, none⟩ (.int .i64 p.side)).setCell ⟨w3.heap.size, 1, none⟩ (.int .i64 p.num)).setCell ⟨V1.heap.size, 0, none⟩ (.int .i64 q.side)).setCell ⟨V1.heap.size, 1, none⟩ (.int .i64 q.num) = V := hV
  clear hV
  obtain ⟨⟨z0, z1⟩, f0, f1⟩ := cells2 kz1
  obtain ⟨⟨z2, z3⟩, f2, f3⟩ := cells2 kz2
  obtain ⟨⟨p0, p1⟩, _, _⟩ := cells2 k1
  obtain ⟨⟨q0, q1⟩, _, _⟩ := cells2 k2
  have g4 := heap_below g3 hbV (heap_lt g3)
  obtain ⟨⟨r0, r1⟩, e0, e1⟩ := cells2 g4
  have b0 := cell_later hbV b0; have b1 := cell_later hbV b1
  have hw4 := below_trans hw3 hbV
  have G4 := Lib.hid g4
  have hlw : w.heap.size ≤ W1.heap.size := by omega
  clear kz1 kz2 k1 k2 g3 g4
  by_cases h1 : d = p
  · have hR := HA.out
    rw [if_pos h1] at hR
    subst hR
    have d1 : (d.side = p.side) = True := eq_true (by rw [h1])
    have d2 : (d.num = p.num) = True := eq_true (by rw [h1])
    clear h1 HA
    go_wp2_with fail
    exact bodyPost_ret (v := .tuple #[vlD q, .bool true]) (by simp [results, Tryz.results212, go_sem, r0, r1]) rfl ⟨rfl, hw4.grown (setCells_grown W1.heap.size [.int .i64 (q).side, .int .i64 (q).num] V 0) hw4.size (fun j e => by cases e; omega)⟩
  · have hR := HA.out
    rw [if_neg h1] at hR
    have D1 : Hid (((d.side = p.side) = False) ∨ (((d.side = p.side) = True) ∧ ((d.num = p.num) = False))) := Lib.hid (dieNe h1)
    by_cases h2 : d = q
    · rw [if_pos h2] at hR
      subst hR
      have d3 : (d.side = q.side) = True := eq_true (by rw [h2])
      have d4 : (d.num = q.num) = True := eq_true (by rw [h2])
      clear h1 h2 HA
      rcases D1.out with d1 | ⟨d1, d2⟩
      all_goals
        go_wp2_with fail
        exact bodyPost_ret (v := .tuple #[vlD p, .bool true]) (by simp [results, Tryz.results212, go_sem, r0, r1]) rfl ⟨rfl, hw4.grown (setCells_grown W1.heap.size [.int .i64 (p).side, .int .i64 (p).num] V 0) hw4.size (fun j e => by cases e; omega)⟩
    · rw [if_neg h2] at hR
      subst hR
      have D2 : Hid (((d.side = q.side) = False) ∨ (((d.side = q.side) = True) ∧ ((d.num = q.num) = False))) := Lib.hid (dieNe h2)
      clear h1 h2 HA
      rcases D1.out with d1 | ⟨d1, d2⟩
      all_goals
        rcases D2.out with d3 | ⟨d3, d4⟩
        all_goals
          go_wp2_with fail
          exact bodyPost_ret (v := .tuple #[vlD ⟨0, 0⟩, .bool false]) (by simp [results, Tryz.results212, go_sem, r0, r1]) rfl ⟨rfl, hw4.grown (setCells_grown W1.heap.size [.int .i64 0, .int .i64 0] V 0) hw4.size (fun j e => by cases e; omega)⟩
end Go.Proofs.YthnckicnnhkkaaaGreat
/- A row of numbers in a block of its own. No condition. -/
namespace Go.Proofs.YthnckicnnhkkaaaGreat
open Go.RowKit Go.Shelf Go.Maps

/-- A row of numbers in a block of its own. -/
def RowI (w : World) (b : Nat) (r : List Int) : Prop := w.heap[b]? = some (.cells (r.map (Value.int .i64)).toArray 3 (0, 0))
section
variable {w w' : World} {b : Nat} {r : List Int}
theorem RowI.below (h : RowI w b r) (hb : Below w.heap.size w w') : RowI w' b r := heap_below h hb (heap_lt h)
end
end Go.Proofs.YthnckicnnhkkaaaGreat
