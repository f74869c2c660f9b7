/- The reference of layer 11: mark, before, Valid. No condition. -/
import Derived.Test.YthnckicnnhkkaaaGreatLedM
import Derived.Test.YthnckicnnhkkaaaGreatLedA
import Derived.Test.YthnckicnnhkkaaaGreatCmpD
import Derived.Test.YthnckicnnhkkaaaGreatBase
import Derived.Test.YthnckicnnhkkaaaGreatCovT
import Derived.Test.YthnckicnnhkkaaaGreatCorI
namespace Go.Proofs.YthnckicnnhkkaaaGreat
open Go.RowKit Go.Maps Go.Shelf

set_option maxHeartbeats 1000000 in
theorem rmark_ok (d : Dec) (w : World) : Calls Tryz.prog 86 #[.agg #[.int .i64 d.au, .int .i64 d.nu, .int .i64 d.ki, .int .i64 d.a, .int .i64 d.b]] w fun e w' => e = .returned (.agg #[.int .i64 d.au, .int .i64 d.nu]) ∧ Below w.heap.size w w' := by
  obtain ⟨W, hW, HzW, hbW, hltW, _⟩ := boxed w #[.int .i64 (d).au, .int .i64 (d).nu, .int .i64 (d).ki, .int .i64 (d).a, .int .i64 (d).b] 33
  have hkW : (W).heap[(w).heap.size]? = some (.cells [.int .i64 (d).au, .int .i64 (d).nu, .int .i64 (d).ki, .int .i64 (d).a, .int .i64 (d).b].toArray 33 (0, 0)) := by rw [← hW]; exact heap_alloc_new _ _
  obtain ⟨⟨c0, c1, c2, c3, c4⟩, _⟩ := cellsD5 hkW
  obtain ⟨X, hX, HzX, hbX, hltX, _⟩ := boxed W #[.int .i64 0, .int .i64 0] 35
  have hkX : X.heap[W.heap.size]? = some (.cells [.int .i64 0, .int .i64 0].toArray 35 (0, 0)) := by rw [← hX]; exact heap_alloc_new _ _
  have c0 := cell_later hbX c0; have c1 := cell_later hbX c1
  obtain ⟨⟨r0, r1⟩, f0, f1⟩ := cellsM hkX
  have hwX := below_trans hbW hbX
  have hz := hbW.size
  have Hk := Lib.hid hkX
  clear hkW hkX
  go_enter Tryz.func86, Tryz.ntmps86
  go_wp2_with fail
  exact bodyPost_ret (results_cell_row rfl _ _ W.heap.size 35 #[.int .i64 d.au, .int .i64 d.nu] (0, 0) _ (by simp) (heap_set2 Hk.out) Tryz.underlying35 rfl (by kernel_rfl)) rfl ⟨rfl, hwX.grown (setCells_grown W.heap.size [.int .i64 d.au, .int .i64 d.nu] X 0) hwX.size (fun j e => by cases e; exact hz)⟩
set_option maxHeartbeats 2000000 in
theorem rbefore_ok (x y : Mrk) (w : World) : Calls Tryz.prog 189 #[.agg #[.int .i64 x.au, .int .i64 x.nu], .agg #[.int .i64 y.au, .int .i64 y.nu]] w fun e w' => e = .returned (.bool (decide (mkLt x y))) ∧ Below w.heap.size w w' := by
  obtain ⟨W0, hW0, Hz0, hb0, hlt0, hc0⟩ := boxed w #[.int .i64 x.au, .int .i64 x.nu] 35
  obtain ⟨W1, hW1, Hz1, hb1, hlt1, hc1⟩ := boxed W0 #[.int .i64 y.au, .int .i64 y.nu] 35
  have a0 := cell_later hb1 (hc0 0 _ rfl); have a1 := cell_later hb1 (hc0 1 _ rfl)
  have b0 := hc1 0 _ rfl; have b1 := hc1 1 _ rfl
  have hw := below_trans hb0 hb1
  clear hc0 hc1
  obtain ⟨T, hT⟩ : ∃ z, decide (mkLt x y) = z := ⟨_, rfl⟩
  rw [hT]
  have HT := Lib.hid hT
  clear hT
  by_cases h1 : x.au < y.au
  · have hTt : Hid (T = true) := by rw [← HT.out]; exact decide_eq_true (.inl h1)
    go_enter Tryz.func189, Tryz.ntmps189
    go_wp2
    go_ret
    exact ⟨ret_bool hTt.out.symm, hw⟩
  by_cases h2 : x.au = y.au
  · have d2 : (x.au == y.au) = true := by simp [h2]
    by_cases h3 : x.nu < y.nu
    · have hTt : Hid (T = true) := by rw [← HT.out]; exact decide_eq_true (.inr ⟨h2, h3⟩)
      have d1 : decide (x.au < y.au) = false := by simpa using h1
      clear h2
      go_enter Tryz.func189, Tryz.ntmps189
      go_wp2
      go_ret
      exact ⟨ret_bool hTt.out.symm, hw⟩
    · have hTt : Hid (T = false) := by rw [← HT.out]; exact decide_eq_false (fun h => by unfold mkLt at h; omega)
      have d1 : decide (x.au < y.au) = false := by simpa using h1
      have d3 : decide (x.nu < y.nu) = false := by simpa using h3
      clear h2
      go_enter Tryz.func189, Tryz.ntmps189
      go_wp2
      go_ret
      exact ⟨ret_bool hTt.out.symm, hw⟩
  · have hTt : Hid (T = false) := by rw [← HT.out]; exact decide_eq_false (fun h => by unfold mkLt at h; omega)
    have d1 : decide (x.au < y.au) = false := by simpa using h1
    have d2 : (x.au == y.au) = false := by simp [h2]
    go_enter Tryz.func189, Tryz.ntmps189
    go_wp2
    go_ret
    exact ⟨ret_bool hTt.out.symm, hw⟩
theorem rngB_inB (a b c : Int) : rngB a b c = inB a b c := rfl
set_option maxHeartbeats 1000000 in
theorem bMark_ok (m : Mrk) (w : World) : Calls Tryz.prog 150 #[.agg #[.int .i64 m.au, .int .i64 m.nu]] w fun e w' => e = .returned (.bool (mrkB m)) ∧ Below w.heap.size w w' := by
  go_enter Tryz.func150, Tryz.ntmps150
  go_wp2_with (go_at_call 184; refine (In_ok _ _ _ _).mono ?_; rintro e w' ⟨rfl, rfl⟩)
  all_goals
    go_ret
    exact ⟨ret_bool (by simp [mrkB, rngB_inB, *]), (Below.refl _ _).alloc (Nat.le_refl _) _⟩
theorem decB_1 {au nu a b : Int} : decB ⟨au, nu, 1, a, b⟩ = (mrkB ⟨au, nu⟩ && (decide (a < b) && (inB a 1 999 && inB b 1 999))) := by
  unfold decB
  simp only [mkOf]
  cases mrkB ⟨au, nu⟩ <;> rw [Bool.eq_iff_iff] <;> simp [mostI, rngB, inB]
  omega
theorem decB_2 {au nu a b : Int} : decB ⟨au, nu, 2, a, b⟩ = (mrkB ⟨au, nu⟩ && (decide (a < b) && (inB a 1 999 && inB b 1 999))) := by
  unfold decB
  simp only [mkOf]
  cases mrkB ⟨au, nu⟩ <;> rw [Bool.eq_iff_iff] <;> simp [mostI, rngB, inB]
  omega
theorem decB_3 {au nu a b : Int} : decB ⟨au, nu, 3, a, b⟩ = (mrkB ⟨au, nu⟩ && (!decide (a = b) && (inB a 1 9999 && inB b 1 9999))) := by
  unfold decB
  simp only [mkOf]
  cases mrkB ⟨au, nu⟩ <;> rw [Bool.eq_iff_iff] <;> simp [mostI, rngB, inB]
  omega
theorem decB_4 {au nu a b : Int} : decB ⟨au, nu, 4, a, b⟩ = (mrkB ⟨au, nu⟩ && (decide (a < b) && (inB a 1 9999 && inB b 1 9999))) := by
  unfold decB
  simp only [mkOf]
  cases mrkB ⟨au, nu⟩ <;> rw [Bool.eq_iff_iff] <;> simp [mostI, rngB, inB]
  omega
theorem decB_5 {d : Dec} (h : ¬ (d.ki = 1 ∨ d.ki = 2 ∨ d.ki = 3 ∨ d.ki = 4)) : decB d = false := by
  unfold decB
  have : (decide (d.ki = 1) || decide (d.ki = 2) || decide (d.ki = 3) || decide (d.ki = 4)) = false := by simp; omega
  rw [this]; simp
set_option maxHeartbeats 4000000 in
theorem bDec_ok (d : Dec) (w : World) : Calls Tryz.prog 190 #[.agg #[.int .i64 d.au, .int .i64 d.nu, .int .i64 d.ki, .int .i64 d.a, .int .i64 d.b]] w fun e w' => e = .returned (.bool (decB d)) ∧ Below w.heap.size w w' := by
  obtain ⟨au, nu, ki, a, b⟩ := d
  obtain ⟨W, hW, HzW, hbW, hltW, _⟩ := boxed w #[.int .i64 au, .int .i64 nu, .int .i64 ki, .int .i64 a, .int .i64 b] 33
  have hkW : W.heap[w.heap.size]? = some (.cells [.int .i64 au, .int .i64 nu, .int .i64 ki, .int .i64 a, .int .i64 b].toArray 33 (0, 0)) := by rw [← hW]; exact heap_alloc_new _ _
  obtain ⟨⟨c0, c1, c2, c3, c4⟩, _⟩ := cellsD5 hkW
  have Hk := Lib.hid hkW
  obtain ⟨R, hR⟩ : ∃ z, decB ⟨au, nu, ki, a, b⟩ = z := ⟨_, rfl⟩
  rw [hR]
  have HR := Lib.hid hR
  clear hR
  have hM := bMark_ok ⟨au, nu⟩ W
  obtain ⟨M, hMd⟩ : ∃ z, mrkB ⟨au, nu⟩ = z := ⟨_, rfl⟩
  rw [hMd] at hM
  have HM := Lib.hid hM
  have HMd := Lib.hid hMd
  clear hkW hM hMd
  cases M
  · have HE : Hid (R = (false)) := Lib.hid (by rw [← HR.out]; unfold decB; rw [show mkOf ⟨au, nu, ki, a, b⟩ = (⟨au, nu⟩ : Mrk) from rfl, HMd.out]; simp)
    go_enter Tryz.func190, Tryz.ntmps190
    go_wp2_with fail
    refine HM.out.mono ?_
    rintro e w1 ⟨rfl, hb1⟩
    go_wp2_with fail
    go_ret
    exact ⟨ret_bool HE.out.symm, below_trans hbW hb1⟩
  by_cases hab : a = b
  · have t : (a == b) = true := by simp [hab]
    have HE : Hid (R = (false)) := Lib.hid (by rw [← HR.out]; subst hab; unfold decB; simp)
    clear hab
    go_enter Tryz.func190, Tryz.ntmps190
    go_wp2_with fail
    refine HM.out.mono ?_
    rintro e w1 ⟨rfl, hb1⟩
    replace c3 := cell_later hb1 c3; replace c4 := cell_later hb1 c4
    go_wp2_with fail
    go_ret
    exact ⟨ret_bool HE.out.symm, below_trans hbW hb1⟩
  have t : (a == b) = false := by simp [hab]
  have t' : decide (a = b) = false := by simp [hab]
  have Hab := Lib.hid hab
  clear hab
  go_enter Tryz.func190, Tryz.ntmps190
  go_wp2_with fail
  refine HM.out.mono ?_
  rintro e w1 ⟨rfl, hb1⟩
  have hw1 := below_trans hbW hb1
  replace c2 := cell_later hb1 c2; replace c3 := cell_later hb1 c3; replace c4 := cell_later hb1 c4
  by_cases e1 : ki = 1
  · subst e1
    have HE : Hid (R = ((decide (a < b) && (inB a 1 999 && inB b 1 999)))) := Lib.hid (by rw [← HR.out]; rw [decB_1, HMd.out]; simp)
    go_wp2_with (go_at_call 183; refine (Number_ok _ _).mono ?_; rintro e w' ⟨rfl, rfl⟩)
    all_goals
      go_ret
      exact ⟨ret_bool (by rw [HE.out]; first | (simp [*]; done) | (simp; intro hq; exfalso; omega)), hw1⟩
  by_cases e2 : ki = 2
  · subst e2
    have HE : Hid (R = ((decide (a < b) && (inB a 1 999 && inB b 1 999)))) := Lib.hid (by rw [← HR.out]; rw [decB_2, HMd.out]; simp)
    go_wp2_with (go_at_call 183; refine (Number_ok _ _).mono ?_; rintro e w' ⟨rfl, rfl⟩)
    all_goals
      go_ret
      exact ⟨ret_bool (by rw [HE.out]; first | (simp [*]; done) | (simp; intro hq; exfalso; omega)), hw1⟩
  by_cases e3 : ki = 3
  · subst e3
    have HE : Hid (R = ((inB a 1 9999 && inB b 1 9999))) := Lib.hid (by rw [← HR.out]; rw [decB_3, HMd.out]; simp [Hab.out])
    go_wp2_with (go_at_call 185; refine (Id_ok _ _).mono ?_; rintro e w' ⟨rfl, rfl⟩)
    all_goals
      go_ret
      exact ⟨ret_bool (by rw [HE.out]; first | (simp [*]; done) | (simp; intro hq; exfalso; omega)), hw1⟩
  by_cases e4 : ki = 4
  · subst e4
    have HE : Hid (R = ((decide (a < b) && (inB a 1 9999 && inB b 1 9999)))) := Lib.hid (by rw [← HR.out]; rw [decB_4, HMd.out]; simp)
    go_wp2_with (go_at_call 185; refine (Id_ok _ _).mono ?_; rintro e w' ⟨rfl, rfl⟩)
    all_goals
      go_ret
      exact ⟨ret_bool (by rw [HE.out]; first | (simp [*]; done) | (simp; intro hq; exfalso; omega)), hw1⟩
  have HE : Hid (R = (false)) := Lib.hid (by rw [← HR.out]; exact decB_5 (by simp; omega))
  have u1 : (ki == 1) = false := by simp [e1]
  have u2 : (ki == 2) = false := by simp [e2]
  have u3 : (ki == 3) = false := by simp [e3]
  have u4 : (ki == 4) = false := by simp [e4]
  go_wp2_with fail
  go_ret
  exact ⟨ret_bool HE.out.symm, hw1⟩
set_option maxHeartbeats 1000000 in
theorem rValid_ok (d : Dec) (w : World) : Calls Tryz.prog 149 #[.agg #[.int .i64 d.au, .int .i64 d.nu, .int .i64 d.ki, .int .i64 d.a, .int .i64 d.b]] w fun e w' => e = .returned (.bool (decB d)) ∧ Below w.heap.size w w' := by
  obtain ⟨W, hW, HzW, hbW, hltW, _⟩ := boxed w #[.int .i64 (d).au, .int .i64 (d).nu, .int .i64 (d).ki, .int .i64 (d).a, .int .i64 (d).b] 33
  have hkW : (W).heap[(w).heap.size]? = some (.cells [.int .i64 (d).au, .int .i64 (d).nu, .int .i64 (d).ki, .int .i64 (d).a, .int .i64 (d).b].toArray 33 (0, 0)) := by rw [← hW]; exact heap_alloc_new _ _
  obtain ⟨⟨c0, c1, c2, c3, c4⟩, _⟩ := cellsD5 hkW
  have HD := Lib.hid (bDec_ok d W)
  clear hkW
  generalize decB d = r at HD ⊢
  go_enter Tryz.func149, Tryz.ntmps149
  go_wp2_with fail
  refine HD.out.mono ?_
  rintro e w1 ⟨rfl, hb1⟩
  go_wp2_with fail
  go_ret
  exact ⟨rfl, below_trans hbW hb1⟩

/-! ### An append to a slice without room -/
section
variable {P : Program} {α : Type} {enc : α → List Value} {size : Nat} {e : TypeId}
theorem run_append_full {w : World} (t ty : TypeId) (i : TypeInfo) (z : Value) (bytes : Nat) (ht : P.underlying t = some (.slice e)) (hi : P.info? e = some i) (hz : i.zero = some z)
    (hsize : i.size = size) (hby : i.bytes = bytes) (hzs : z.cells.size = size) (h1 : ∀ x, ∀ u ∈ enc x, u.oneCell' = true) (hk : ∀ x, (enc x).length = size)
    (A : Option Addr) (xs : List α) (hx : Sl w size A xs.length (xs.flatMap enc)) (A' : Option Addr) (c : Nat) (ys : List α) (hy : Sl w size A' ys.length (ys.flatMap enc)) (h0 : 0 < ys.length)
    (hn : (xs.length + ys.length) * bytes ≤ 140737488355328) (hn' : xs.length + ys.length ≤ 140737488355328) :
    ∃ v' w', (Builtin.append_ #[t, t] ty #[.slice A xs.length xs.length, .slice A' ys.length c]).run P w = .ok v' w' ∧ Own enc size e w.heap.size w' v' (xs ++ ys) ∧ Below w.heap.size w w' := by
  obtain ⟨b', o', rfl, hb', hc'⟩ := hy.2 h0
  have hsrc : Src P i.size t (.slice (some ⟨b', o', none⟩) ys.length c) ys.length (ys.flatMap enc) w := by
    rw [hsize]
    exact Src.ofSlice w ht ⟨b', o', none⟩ _ c _ hy.1 (fun j u hj => by rw [Addr.add_lit]; exact hc' j u hj) (fun u hu => by obtain ⟨x, _, hx⟩ := List.mem_flatMap.1 hu; exact h1 x u hx)
  have hold : (Builtin.firstCells i.size xs.length (.slice A xs.length xs.length)).run P w.drew = .ok (xs.flatMap enc).toArray w.drew := by
    rw [hsize]
    rcases Nat.eq_zero_or_pos xs.length with h | h
    · rw [List.eq_nil_of_length_eq_zero h]
      cases A with
      | none => exact run_firstCells_none w.drew _ _ _ _
      | some a => exact run_firstCells_some w.drew _ _ a _ _ _ (by simp) (by simp)
    · obtain ⟨b, o, rfl, hb, hc⟩ := hx.2 h
      exact run_firstCells_some w.drew _ _ ⟨b, o, none⟩ _ _ _ hx.1 (fun j u hj => by rw [Addr.add_lit]; exact hc j u hj)
  have hr := run_append_grow_src w t t ty e i z ht hi hz A xs.length xs.length (xs.flatMap enc) hold _ ys.length (ys.flatMap enc) hsrc (by omega) (by omega) (by rw [hby]; exact growslice_fits (by omega) hn)
  refine ⟨_, _, hr, ?_, ?_⟩
  · have hG := grownCap_ge w (xs.length + ys.length) xs.length e
    have hGm := grownCap_le_maxLen w (xs.length + ys.length) xs.length e (by simp only [maxLen]; omega)
    refine Own.ofRow hk (Nat.le_refl _) (heap_alloc_new w.drew _) hG hGm ?_ ?_ (by simp)
    · have z1 := zeros_len z.cells (grownCap w (xs.length + ys.length) xs.length e - (xs.length + ys.length))
      rw [hzs] at z1
      rw [Array.size_append, ← Array.length_toList (xs := Builtin.zeroCells _ _), z1]
      simp only [List.size_toArray, List.length_append, flat_len enc size hk]
      rw [← Nat.add_mul, ← Nat.add_mul]
      congr 1
      omega
    · simp only [Array.toList_append, List.flatMap_append]
      rw [List.take_left' (by simp [flat_len enc size hk, Nat.add_mul])]
  · exact Below.alloc (⟨rfl, rfl, rfl, Nat.le_refl _, fun _ _ => rfl⟩ : Below w.heap.size w w.drew) (Nat.le_refl _) _
theorem wpList_append_full {w : World} {ops : Array Oper} {rest : List Oper} {o : Oper} {a : Act} {Q : Exit → Act → World → Prop} (hgd : o.guard = none) (s x : Operand) (t : TypeId)
    (ho : o.op = .call { callee := .builtin .append, args := #[s, x], argTypes := #[t, t] })
    (i : TypeInfo) (z : Value) (bytes : Nat) (ht : P.underlying t = some (.slice e)) (hi : P.info? e = some i) (hz : i.zero = some z)
    (hsize : i.size = size) (hby : i.bytes = bytes) (hzs : z.cells.size = size) (h1 : ∀ x, ∀ u ∈ enc x, u.oneCell' = true) (hk : ∀ x, (enc x).length = size)
    (A : Option Addr) (n : Nat) (xs : List α) (hs : a.eval s = .slice A n n) (hxl : n = xs.length) (hx : Sl w size A xs.length (xs.flatMap enc)) (A' : Option Addr) (m c : Nat) (ys : List α) (hxv : a.eval x = .slice A' m c) (hyl : m = ys.length) (hy : Sl w size A' ys.length (ys.flatMap enc)) (h0 : 0 < ys.length)
    (hn : (xs.length + ys.length) * bytes ≤ 140737488355328) (hn' : xs.length + ys.length ≤ 140737488355328)
    (h : ∀ v' w', Own enc size e w.heap.size w' v' (xs ++ ys) → Below w.heap.size w w' → wpList P ops Q rest (a.put o.dst v') w') : wpList P ops Q (o :: rest) a w := by
  subst hxl; subst hyl
  obtain ⟨v', w', hr, h2, h3⟩ := run_append_full (P := P) (w := w) t o.type i z bytes ht hi hz hsize hby hzs h1 hk A xs hx A' c ys hy h0 hn hn'
  exact Lib.wpList_append_run _ hgd s x t t ho _ _ hs hxv v' w' hr (h v' w' h2 h3)
end
end Go.Proofs.YthnckicnnhkkaaaGreat
/- The reference of layer 11: decisions (two lists in order together). Condition: the arguments read as lists, the first in order. -/
namespace Go.Proofs.YthnckicnnhkkaaaGreat
open Go.RowKit Go.Maps Go.Shelf

/-- What 'decisions' returns: the list and true, or false. -/
def DecsR (B : Nat) (w : World) (z : Value) (b : Bool) (r : Option (List Dec)) : Prop := (∃ out, r = some out ∧ b = true ∧ OwnDc B w z out) ∨ (r = none ∧ b = false)
theorem Own.addr {α : Type} {enc : α → List Value} {k : Nat} {e : TypeId} {B : Nat} {w : World} {v : Value} {xs : List α} (h : Own enc k e B w v xs) (hn : v.ownBlock ≠ none) : ∃ g cap, v = .slice (some ⟨g, 0, none⟩) xs.length cap ∧ B ≤ g ∧ g < w.heap.size ∧ xs.length ≤ cap ∧ cap ≤ maxLen := by
  rcases h.cases with ⟨rfl, _⟩ | h
  · exact absurd rfl hn
  · exact h
theorem own_unit {α : Type} {enc : α → List Value} {k : Nat} {e : TypeId} {w : World} {g : Nat} {x : α} (hk : ∀ x, (enc x).length = k) (h : w.heap[g]? = some (.cells (enc x).toArray e (0, 0))) {B : Nat} (hB : B ≤ g) : Own enc k e B w (.slice (some ⟨g, 0, none⟩) 1 1) [x] :=
  Own.ofRow hk hB h (Nat.le_refl _) (by simp [maxLen]) (by simp [hk]) (by rw [Nat.one_mul]; simp only [List.flatMap_cons, List.flatMap_nil, List.append_nil]; exact List.take_of_length_le (by rw [hk]; exact Nat.le_refl _)) rfl
set_option maxHeartbeats 16000000 in
set_option maxRecDepth 100000 in
theorem decisions_ok (v u : Value) (xs ys : List Dec) (w : World) (h : Decs w v xs) (h' : Decs w u ys) (hs : SrtD xs) (hx : xs.length ≤ 400) (hy : ys.length ≤ 400) :
    Calls Tryz.prog 146 #[v, u] w fun e w' => ∃ z b, e = .returned (.tuple #[z, .bool b]) ∧ DecsR w.heap.size w' z b (decsF xs ys) ∧ Below w.heap.size w w' := by
  obtain ⟨Ax, cx, rfl, hlx, hcx, _⟩ := id h.cells
  obtain ⟨Ay, yc, rfl, hly, hcy, hcl⟩ := h'.cells
  obtain ⟨iD, hiD, hzD, hkD, hbD⟩ := info_parts infoDc
  have HCl := Lib.hid hcl
  have hS1 := Lib.hid (fun (o : Obj) => Sl.below (SlOf.sl' h) ((Below.refl w.heap.size w).alloc (Nat.le_refl _) o))
  have HSr := Lib.hid hs
  have qm := fun (o d : Dec) (w : World) => (show (binOp .eql 35 (.agg #[.int .i64 o.au, .int .i64 o.nu]) (.agg #[.int .i64 d.au, .int .i64 d.nu])).run Tryz.prog w = .ok (.bool (eqB (mkOf o) (mkOf d))) w from eqlMrk_ (mkOf o) (mkOf d) w)
  have qd := neqDec_
  clear h h' hcl hs
  go_enter Tryz.func146, Tryz.ntmps146
  go_wp2_with (at_builtin; refine wpList_append_sl rfl (.tmp 9) (.tmp 10) _ rfl iD _ 40 Tryz.underlying48 hiD hzD hkD hbD rfl (by decide) oneDc rfl (own_empty (B := w.heap.size) (heap_alloc_new _ _) (Nat.le_refl _)) _ _ _ xs rfl rfl (hS1.out _) (by simp; omega) (by simp; omega) (by simp) ?_; intro v1 w1 ho1 hg1 ha1)
  have hb1 : Below w.heap.size w w1 := ((Below.refl w.heap.size w).alloc (Nat.le_refl _) _).grown hg1 (by simp) (fun k e => by have e' : some w.heap.size = some k := e; cases e'; exact Nat.le_refl _)
  have hnn : v1.ownBlock ≠ none := by rcases ha1 with e | e <;> (rw [e]; intro h; cases h)
  rw [List.nil_append] at ho1
  have HO1 := Lib.hid ho1
  clear ho1 hg1 ha1 hS1
  go_loopw [6, 7] (fun t6 t7 wr => ∃ (k : Nat) (v : Value) (out : List Dec), k ≤ ys.length ∧ t6 = v ∧ t7 = .int .i64 k ∧ OwnDc w.heap.size wr v out ∧ v.ownBlock ≠ none ∧ Hid (SrtD out) ∧ Hid (decsF xs (ys.take k) = some out) ∧ out.length ≤ xs.length + k ∧ Below w.heap.size w wr) (fun _ t _ => ys.length - (intOf t).toNat)
  case atStart => exact ⟨0, _, xs, Nat.zero_le _, rfl, rfl, HO1.out, hnn, HSr.out, rfl, by omega, hb1⟩
  case round =>
    obtain ⟨k, v, out, hk, rfl, rfl, hown, hnn', HSo, HF, hol, hb⟩ := hrel
    obtain ⟨g, cap, rfl, hgB, hgw, hoc, hcm⟩ := hown.addr hnn'
    have HO := Lib.hid hown
    obtain ⟨_, _, e0, _, _, hclo⟩ := (show Decs wr _ out from hown.slOf).cells
    cases e0
    have HClo := Lib.hid hclo
    clear hown hclo hnn' hnn HO1
    have hcm' : (cap : Int) ≤ 9223372036854775807 := by simp only [maxLen] at hcm; omega
    by_cases hlt : k < ys.length
    · obtain ⟨d, hd⟩ := get_of_lt hlt
      obtain ⟨yb, yo, rfl, _, hcc⟩ := HCl.out _ (lt_of_get hd)
      have Hcc := Lib.hid fun (w9 : World) (hb9 : Below wr.heap.size wr w9) => hcc w9 (hb.trans (hb9.mono hb.size)) k d hd
      have Hd := Lib.hid hd
      have hl1 : (k : Int) < (ys.length : Int) := by omega
      clear hcc hd
      generalize hwo : wr = wo at *
      clear hwo wr
      go_wp2
      go_loopw [8] (fun t8 wr => ∃ j : Nat, t8 = .int .i64 j ∧ j ≤ ahd mkOf out (mkOf d) ∧ Below wo.heap.size wo wr) (fun t _ => out.length - (intOf t).toNat)
      case atStart => exact ⟨0, rfl, Nat.zero_le _, Below.refl _ _⟩
      case round =>
        obtain ⟨j, rfl, hj, hbq⟩ := hrel
        have hahd := ahd_le (f := mkOf) (out := out) (m := mkOf d)
        obtain ⟨y0, y1, y2, y3, y4⟩ := Hcc.out wr hbq
        by_cases hjl : j < out.length
        · obtain ⟨o, ho⟩ := get_of_lt hjl
          have hst := ahd_step (f := mkOf) (m := mkOf d) HSo.out ho
          have hle : out.length ≤ out.length := Nat.le_refl _
          obtain ⟨_, _, e0, _, hcco⟩ := HClo.out _ hjl
          cases e0
          obtain ⟨x0, x1, x2, x3, x4⟩ := hcco wr hbq j o ho
          simp only [Nat.zero_add] at x0 x1 x2 x3 x4
          have H1 := Lib.hid fun (y : Later wr) => rmark_ok o y.to
          have H2 := Lib.hid fun (y : Later wr) => rmark_ok d y.to
          have H3 := fun (y : Later wr) => rbefore_ok (mkOf o) (mkOf d) y.to
          obtain ⟨T, hT⟩ : ∃ z, decide (mkLt (mkOf o) (mkOf d)) = z := ⟨_, rfl⟩
          rw [hT] at H3
          have H3' : Hid (∀ y : Later wr, Calls Tryz.prog 189 #[.agg #[.int .i64 o.au, .int .i64 o.nu], .agg #[.int .i64 d.au, .int .i64 d.nu]] y.to fun e w' => e = .returned (.bool T) ∧ Below y.to.heap.size y.to w') := H3
          have X0 := Later.cell_all x0; have X1 := Later.cell_all x1; have X2 := Later.cell_all x2; have X3 := Later.cell_all x3; have X4 := Later.cell_all x4
          have Y0 := Later.cell_all y0; have Y1 := Later.cell_all y1; have Y2 := Later.cell_all y2; have Y3 := Later.cell_all y3; have Y4 := Later.cell_all y4
          have Ho := Lib.hid ho; have Hst := Lib.hid hst; have HT := Lib.hid hT
          have d0 : decide ((j : Int) < (out.length : Int)) = true := by simp; omega
          have hj1 : (j : Int) < (out.length : Int) := by omega
          clear hcco H3 hT hst ho x0 x1 x2 x3 x4 y0 y1 y2 y3 y4 hle
          go_wp2
          refine wp_region_later (by kernel_rfl) (by kernel_rfl) ?_
          repeat (go_big_quiet_step (first | (go_at_call 86; with_reducible exact calls_later (H1.out _)) | (go_at_call 86; with_reducible exact calls_later (H2.out _)) | (go_at_call 189; with_reducible exact calls_later (H3'.out _))))
          refine wpQuiet_nil ?_
          intro _ hw'
          obtain ⟨xq, hw''⟩ := hw'
          subst hw''
          have hbc := xq.h
          generalize xq.to = wc at hbc ⊢
          clear X0 X1 X2 X3 X4 Y0 Y1 Y2 Y3 Y4
          cases T
          case true =>
            have hlt2 : j < ahd mkOf out (mkOf d) := Hst.out.1 (by simpa using HT.out)
            go_wp2
            refine ⟨?rel, ?measure⟩
            case rel => exact ⟨j + 1, by go_num, by omega, below_trans hbq hbc⟩
            case measure => simp [intOf]; omega
          have hje : j = ahd mkOf out (mkOf d) := by
            have h1 : ¬ j < ahd mkOf out (mkOf d) := fun h => by have := Hst.out.2 h; have h2 := HT.out; simp at h2; exact h2 this
            omega
          have hwc := below_trans hbq hbc
          obtain ⟨y0, y1, y2, y3, y4⟩ := Hcc.out wc hwc
          obtain ⟨_, _, e0, _, hcco⟩ := HClo.out _ hjl
          cases e0
          obtain ⟨x0, x1, x2, x3, x4⟩ := hcco wc hwc j o Ho.out
          simp only [Nat.zero_add] at x0 x1 x2 x3 x4
          have H1 := Lib.hid fun (y : Later wc) => rmark_ok o y.to
          have H2 := Lib.hid fun (y : Later wc) => rmark_ok d y.to
          have X0 := Later.cell_all x0; have X1 := Later.cell_all x1; have X2 := Later.cell_all x2; have X3 := Later.cell_all x3; have X4 := Later.cell_all x4
          have Y0 := Later.cell_all y0; have Y1 := Later.cell_all y1; have Y2 := Later.cell_all y2; have Y3 := Later.cell_all y3; have Y4 := Later.cell_all y4
          have qmo := qm o d
          have Hwc := Lib.hid hwc; have Hje := Lib.hid hje
          clear hcco x0 x1 x2 x3 x4 y0 y1 y2 y3 y4 hwc hbc hje
          by_cases hme : mkOf o = mkOf d
          · have te : eqB (mkOf o) (mkOf d) = true := eqB_yes hme
            have Hfd : Hid (findD out (mkOf d) = some o) := by rw [← hme]; exact find_of HSo.out (List.mem_of_getElem? Ho.out)
            clear hme
            go_wp2
            refine wp_region_later (by kernel_rfl) (by kernel_rfl) ?_
            repeat (go_big_quiet_step (first | (go_at_call 86; with_reducible exact calls_later (H1.out _)) | (go_at_call 86; with_reducible exact calls_later (H2.out _))))
            refine wpQuiet_nil ?_
            intro _ hw'
            obtain ⟨xq, hw''⟩ := hw'
            subst hw''
            have hbe := xq.h
            generalize xq.to = we at hbe ⊢
            clear X0 X1 X2 X3 X4 Y0 Y1 Y2 Y3 Y4
            have hwe := below_trans Hwc.out hbe
            obtain ⟨y0, y1, y2, y3, y4⟩ := Hcc.out we hwe
            obtain ⟨_, _, e0, _, hcco⟩ := HClo.out _ hjl
            cases e0
            obtain ⟨x0, x1, x2, x3, x4⟩ := hcco we hwe j o Ho.out
            simp only [Nat.zero_add] at x0 x1 x2 x3 x4
            have X0 := Later.cell_all x0; have X1 := Later.cell_all x1; have X2 := Later.cell_all x2; have X3 := Later.cell_all x3; have X4 := Later.cell_all x4
            have Y0 := Later.cell_all y0; have Y1 := Later.cell_all y1; have Y2 := Later.cell_all y2; have Y3 := Later.cell_all y3; have Y4 := Later.cell_all y4
            have qdo := qd o d
            clear hcco x0 x1 x2 x3 x4 y0 y1 y2 y3 y4 hbe
            by_cases hod : o = d
            · have tn : neB o d = false := neB_no hod
              have HS : Hid (decsF xs (ys.take (k + 1)) = some out) := by
                show _ = _
                rw [decsF_snoc HF.out Hd.out, stepD, Hfd.out]
                exact if_pos hod
              clear hod
              go_wp2
              refine wp_region_later (by kernel_rfl) (by kernel_rfl) ?_
              repeat (go_big_quiet_step (first | fail))
              refine wpQuiet_nil ?_
              intro _ hw'
              obtain ⟨xq, hw''⟩ := hw'
              subst hw''
              have hbf := xq.h
              generalize xq.to = wf at hbf ⊢
              clear X0 X1 X2 X3 X4 Y0 Y1 Y2 Y3 Y4
              have hwf := below_trans hwe hbf
              go_wp2
              refine ⟨?rel, ?measure⟩
              case rel => exact ⟨k + 1, _, out, by omega, rfl, by go_num, HO.out.below hwf, by first | trivial | simp [Value.ownBlock] | (intro h; cases h), HSo, HS, by omega, hb.trans (hwf.mono hb.size)⟩
              case measure => simp [intOf]; omega
            · have tn : neB o d = true := neB_yes hod
              have HS : Hid (decsF xs ys = none) := decsF_stop HF.out Hd.out (by rw [stepD, Hfd.out]; exact if_neg hod)
              clear hod
              go_wp2
              refine wp_region_later (by kernel_rfl) (by kernel_rfl) ?_
              repeat (go_big_quiet_step (first | fail))
              refine wpQuiet_nil ?_
              intro _ hw'
              obtain ⟨xq, hw''⟩ := hw'
              subst hw''
              have hbf := xq.h
              generalize xq.to = wf at hbf ⊢
              clear X0 X1 X2 X3 X4 Y0 Y1 Y2 Y3 Y4
              have hwf := below_trans hwe hbf
              go_wp2
              go_ret2
              exact ⟨_, false, rfl, .inr ⟨HS.out, rfl⟩, hb.trans (hwf.mono hb.size)⟩
          · have te : eqB (mkOf o) (mkOf d) = false := eqB_no hme
            have hfn : findD out (mkOf d) = none := at_none HSo.out (fun o' ho' => by rw [← Hje.out, Ho.out] at ho'; cases ho'; exact hme)
            have HS : Hid (decsF xs (ys.take (k + 1)) = some (out.take j ++ ([d] ++ out.drop j)) ∧ SrtD (out.take j ++ ([d] ++ out.drop j))) := by
              have e : out.take j ++ ([d] ++ out.drop j) = insF mkOf out d := by rw [Hje.out]; exact at_other (f := mkOf) (find_none.1 hfn) HSo.out d rfl
              rw [e]
              exact ⟨by rw [decsF_snoc HF.out Hd.out, stepD, hfn], insF_srt mkOf HSo.out⟩
            clear hme hfn
            go_wp2
            refine wp_region_later (by kernel_rfl) (by kernel_rfl) ?_
            repeat (go_big_quiet_step (first | (go_at_call 86; with_reducible exact calls_later (H1.out _)) | (go_at_call 86; with_reducible exact calls_later (H2.out _))))
            refine wpQuiet_nil ?_
            intro _ hw'
            obtain ⟨xq, hw''⟩ := hw'
            subst hw''
            have hbe := xq.h
            generalize xq.to = we at hbe ⊢
            clear X0 X1 X2 X3 X4 Y0 Y1 Y2 Y3 Y4
            have hwe := below_trans Hwc.out hbe
            obtain ⟨y0, y1, y2, y3, y4⟩ := Hcc.out we hwe
            have HOc := Lib.hid (HO.out.below hwe)
            have hcj : ¬ cap = j := by omega
            go_wp2
            have hj1 : (j : Int) ≤ (out.length : Int) := by omega
            have hj3 : (out.length : Int) ≤ (cap : Int) := by omega
            have hj4 : (j : Int) ≤ (cap : Int) := by omega
            have hslT : Sl we 5 (some ⟨g, 0, none⟩) (out.take j).length ((out.take j).flatMap encDc) := by
              rw [flat_take encDc 5 lenDc, List.length_take, Nat.min_eq_left (by omega)]; exact (SlOf.sl' HOc.out.slOf).take (by omega)
            have hslD : Sl we 5 (some ⟨g, j * 5, none⟩) (out.drop j).length ((out.drop j).flatMap encDc) := by
              (rw [flat_drop encDc 5 lenDc, List.length_drop]; have := (SlOf.sl' HOc.out.slOf).drop (m := j) (by omega); simpa using this)
            have HslT := Lib.hid hslT; have HslD := Lib.hid hslD
            clear hslT hslD
            have hba : Below (we).heap.size (we) (we).drew := (Below.refl _ _).drew
            obtain ⟨wa, hwa⟩ : ∃ W, (we).drew = W := ⟨_, rfl⟩
            rw [hwa] at hba
            have HSt := Lib.hid fun (w9 : World) (hb : Below wa.heap.size wa w9) => (show (fun w' : World => Below wa.heap.size wa w' ∧ w'.cell? ⟨yb, yo + k * 5, none⟩ = some (.int .i64 d.au) ∧ w'.cell? ⟨yb, yo + k * 5 + 1, none⟩ = some (.int .i64 d.nu) ∧ w'.cell? ⟨yb, yo + k * 5 + 2, none⟩ = some (.int .i64 d.ki) ∧ w'.cell? ⟨yb, yo + k * 5 + 3, none⟩ = some (.int .i64 d.a) ∧ w'.cell? ⟨yb, yo + k * 5 + 4, none⟩ = some (.int .i64 d.b)) w9 from ⟨hb, cell_later hb (cell_later hba y0), cell_later hb (cell_later hba y1), cell_later hb (cell_later hba y2), cell_later hb (cell_later hba y3), cell_later hb (cell_later hba y4)⟩)
            have hHeld := HSt.out wa (Below.refl _ _)
            refine wp_region_S 13 (fun w' : World => Below wa.heap.size wa w' ∧ w'.cell? ⟨yb, yo + k * 5, none⟩ = some (.int .i64 d.au) ∧ w'.cell? ⟨yb, yo + k * 5 + 1, none⟩ = some (.int .i64 d.nu) ∧ w'.cell? ⟨yb, yo + k * 5 + 2, none⟩ = some (.int .i64 d.ki) ∧ w'.cell? ⟨yb, yo + k * 5 + 3, none⟩ = some (.int .i64 d.a) ∧ w'.cell? ⟨yb, yo + k * 5 + 4, none⟩ = some (.int .i64 d.b)) (by kernel_rfl) (by decide) ?_
            rw [hwa]
            clear hwa
            refine wpAnyS_takeD 0 (some 63) (.slice (some ⟨g, 0, none⟩) out.length cap) (by rfl) (by rfl) (by kernel_rfl) (by exact fun _ _ _ h => h) (by rfl) (fun w' hS => by go_simp) hHeld ?_
            simp only [Act.put, List.setIfInBounds_toArray, List.set_cons_succ, List.set_cons_zero]
            refine wpAnyS_takeD 1 (some 64) (.int .i64 j) (by rfl) (by rfl) (by kernel_rfl) (by exact fun _ _ _ h => h) (by rfl) (fun w' hS => by go_simp) hHeld ?_
            simp only [Act.put, List.setIfInBounds_toArray, List.set_cons_succ, List.set_cons_zero]
            refine wpAnyS_takeD 2 (some 65) (.int .i64 j) (by rfl) (by rfl) (by kernel_rfl) (by exact fun _ _ _ h => h) (by rfl) (fun w' hS => by go_simp) hHeld ?_
            simp only [Act.put, List.setIfInBounds_toArray, List.set_cons_succ, List.set_cons_zero]
            refine wpAnyS_takeD 3 (some 66) (.slice (some ⟨g, 0, none⟩) j j) (by rfl) (by rfl) (by kernel_rfl) (by exact fun _ _ _ h => h) (by rfl) (fun w' hS => by go_simp) hHeld ?_
            simp only [Act.put, List.setIfInBounds_toArray, List.set_cons_succ, List.set_cons_zero]
            refine wpAnyS_takeD 4 (some 67) (.slice (some ⟨yb, yo, none⟩) ys.length yc) (by rfl) (by rfl) (by kernel_rfl) (by exact fun _ _ _ h => h) (by rfl) (fun w' hS => by go_simp) hHeld ?_
            simp only [Act.put, List.setIfInBounds_toArray, List.set_cons_succ, List.set_cons_zero]
            refine wpAnyS_takeD 5 (some 68) (.int .i64 k) (by rfl) (by rfl) (by kernel_rfl) (by exact fun _ _ _ h => h) (by rfl) (fun w' hS => by go_simp) hHeld ?_
            simp only [Act.put, List.setIfInBounds_toArray, List.set_cons_succ, List.set_cons_zero]
            refine wpAnyS_takeD 6 (some 69) (.pointer (some ⟨yb, yo + k * 5, none⟩)) (by rfl) (by rfl) (by kernel_rfl) (by exact fun _ _ _ h => h) (by rfl) (fun w' hS => by go_simp) hHeld ?_
            simp only [Act.put, List.setIfInBounds_toArray, List.set_cons_succ, List.set_cons_zero]
            refine wpAnyS_takeD 7 (some 70) (.agg #[.int .i64 d.au, .int .i64 d.nu, .int .i64 d.ki, .int .i64 d.a, .int .i64 d.b]) (by rfl) (by rfl) (by kernel_rfl) (by exact fun _ _ _ h => h) (by rfl) (fun w' hS => by (obtain ⟨_, x0, x1, x2, x3, x4⟩ := hS; go_simp)) hHeld ?_
            simp only [Act.put, List.setIfInBounds_toArray, List.set_cons_succ, List.set_cons_zero]
            refine wpAnyS_takeD 9 (some 72) (.slice (some ⟨g, 0, none⟩) out.length cap) (by rfl) (by rfl) (by kernel_rfl) (by exact fun _ _ _ h => h) (by rfl) (fun w' hS => by go_simp) hHeld ?_
            simp only [Act.put, List.setIfInBounds_toArray, List.set_cons_succ, List.set_cons_zero]
            refine wpAnyS_takeD 10 (some 73) (.int .i64 j) (by rfl) (by rfl) (by kernel_rfl) (by exact fun _ _ _ h => h) (by rfl) (fun w' hS => by go_simp) hHeld ?_
            simp only [Act.put, List.setIfInBounds_toArray, List.set_cons_succ, List.set_cons_zero]
            refine wpAnyS_takeD 11 (some 74) (.slice (some ⟨g, j * 5, none⟩) (out.length - j) (cap - j)) (by rfl) (by rfl) (by kernel_rfl) (by exact fun _ _ _ h => h) (by rfl) (fun w' hS => by go_simp) hHeld ?_
            simp only [Act.put, List.setIfInBounds_toArray, List.set_cons_succ, List.set_cons_zero]
            clear hHeld
            refine wpAnyS_one 8 (by kernel_rfl) (by rfl) (by decide) (fun K hK => ?_)
            have HK := Lib.hid hK; clear hK
            rw [if_pos (by rfl)]
            go_simp
            obtain ⟨w5, hw5⟩ : ∃ z, World.alloc wa (.cells #[.int .i64 d.au, .int .i64 d.nu, .int .i64 d.ki, .int .i64 d.a, .int .i64 d.b] 33) = z := ⟨_, rfl⟩
            have hb5 : Below wa.heap.size wa w5 := by rw [← hw5]; exact (Below.refl _ _).alloc (Nat.le_refl _) _
            have hk5 : w5.heap[wa.heap.size]? = some (.cells (encDc d).toArray 33 (0, 0)) := by rw [← hw5]; exact heap_alloc_new _ _
            rw [hw5]
            refine HK.out _ _ (HSt.out _ hb5) ?_
            clear HK hw5
            have ho5 : OwnDc wa.heap.size w5 (.slice (some ⟨wa.heap.size, 0, none⟩) 1 1) [d] := own_unit lenDc hk5 (Nat.le_refl _)
            have hc5 := below_trans hba hb5
            have hsl5 := HslD.out.below hc5
            have hz5 : wa.heap.size ≤ w5.heap.size := hb5.size
            have hol : out.length ≤ 1000 := by omega
            have hdl := Lib.hid (show out.length - j = (out.drop j).length by simp)
            have hjl' := Lib.hid (show j = (out.take j).length by simp; omega)
            clear hk5
            refine wpAnyS_one 12 (by kernel_rfl) (by rfl) (by decide) (fun K hK => ?_)
            have HK := Lib.hid hK; clear hK
            rw [if_pos (by rfl)]
            refine wp_append_sl (.tmp 71) (.tmp 74) _ rfl iD _ 40 Tryz.underlying48 hiD hzD hkD hbD rfl (by decide) oneDc rfl ho5 _ _ _ (out.drop j) rfl hdl.out hsl5 (by simp; omega) (by simp; omega) hz5 ?_
            intro v6 w6 ho6 hg6 ha6
            have hb6 := hb5.grown hg6 hz5 (fun q e => (ho5.lt q e).1)
            obtain ⟨A6, c6, e6, _⟩ := id ho6.slOf
            obtain ⟨n6, hn6⟩ : ∃ z, ([d] ++ out.drop j).length = z := ⟨_, rfl⟩
            rw [hn6] at e6
            have Hn6 := Lib.hid hn6
            clear hn6
            subst e6
            have hsl6 := SlOf.sl' ho6.slOf
            refine HK.out _ _ (HSt.out _ hb6) ?_
            clear HK
            have hc6 := below_trans hba hb6
            have hslT6 := HslT.out.below hc6
            refine (show tailOf _ _ _ _ _ _ _ _ from ⟨by kernel_rfl, ?_⟩)
            simp only [List.drop_succ_cons, List.drop_zero]
            refine wpList_append_full rfl (.tmp 66) (.tmp 75) _ rfl iD _ 40 Tryz.underlying48 hiD hzD hkD hbD rfl oneDc lenDc (some ⟨g, 0, none⟩) j (out.take j) rfl hjl'.out hslT6 A6 n6 c6 ([d] ++ out.drop j) rfl Hn6.out.symm hsl6 (by simp) (by simp; omega) (by simp; omega) ?_
            intro v7 w7 ho7 hb7
            have H7 := Lib.hid ho7
            have hb57 := below_trans hc6 hb7
            obtain ⟨A7, c7, e7, _⟩ := id ho7.slOf
            obtain ⟨n7, hn7⟩ : ∃ z, (out.take j ++ ([d] ++ out.drop j)).length = z := ⟨_, rfl⟩
            have hn8 : n7 ≠ 0 := by rw [← hn7]; simp
            rw [hn7] at e7
            subst e7
            have hnn7 : (Value.slice A7 n7 c7).ownBlock ≠ none := fun h => by
              rcases H7.out.cases with ⟨h9, _⟩ | ⟨g9, cap9, h9, _⟩
              · cases h9
                omega
              · rw [h9] at h
                cases h
            clear ho7 hn7
            go_wp2
            refine ⟨?rel, ?measure⟩
            case rel =>
              refine ⟨k + 1, _, out.take j ++ ([d] ++ out.drop j), by omega, rfl, by go_num, H7.out.base ?_, hnn7, HS.out.2, HS.out.1, by simp; omega, hb.trans ((below_trans hwe hb57).mono hb.size)⟩
              have h1 := hb.size; have h2 := (hwe).size; have h3 := hc6.size
              omega
            case measure => simp [intOf]; omega
        · have hje : j = ahd mkOf out (mkOf d) := by omega
          have hfn : findD out (mkOf d) = none := at_none HSo.out (fun o' ho' => by rw [← hje] at ho'; have := lt_of_get ho'; omega)
          have HS : Hid (decsF xs (ys.take (k + 1)) = some (out.take j ++ ([d] ++ out.drop j)) ∧ SrtD (out.take j ++ ([d] ++ out.drop j))) := by
            have e : out.take j ++ ([d] ++ out.drop j) = insF mkOf out d := by rw [hje]; exact at_other (f := mkOf) (find_none.1 hfn) HSo.out d rfl
            rw [e]
            exact ⟨by rw [decsF_snoc HF.out Hd.out, stepD, hfn], insF_srt mkOf HSo.out⟩
          have d0 : decide ((j : Int) < (out.length : Int)) = false := by simp; omega
          have hjx := Lib.hid (show j = out.length by omega)
          clear hfn hje
          go_wp2
          refine wp_region_later (by kernel_rfl) (by kernel_rfl) ?_
          repeat (go_big_quiet_step (first | fail))
          refine wpQuiet_nil ?_
          intro _ hw'
          obtain ⟨xq, hw''⟩ := hw'
          subst hw''
          have hbc := xq.h
          generalize xq.to = wc at hbc ⊢
          have hwc := below_trans hbq hbc
          go_wp2
          refine wp_region_later (by kernel_rfl) (by kernel_rfl) ?_
          repeat (go_big_quiet_step (first | fail))
          refine wpQuiet_nil ?_
          intro _ hw'
          obtain ⟨xq, hw''⟩ := hw'
          subst hw''
          have hbe := xq.h
          generalize xq.to = we at hbe ⊢
          have hwe := below_trans hwc hbe
          obtain ⟨y0, y1, y2, y3, y4⟩ := Hcc.out we hwe
          have HOc := Lib.hid (HO.out.below hwe)
          by_cases hcj : cap = j
          · have Hcj := Lib.hid hcj
            go_wp2
            have hj1 : (j : Int) ≤ (out.length : Int) := by omega
            have hj3 : (out.length : Int) ≤ (cap : Int) := by omega
            have hj4 : (j : Int) ≤ (cap : Int) := by omega
            have hslT : Sl we 5 (some ⟨g, 0, none⟩) (out.take j).length ((out.take j).flatMap encDc) := by
              rw [flat_take encDc 5 lenDc, List.length_take, Nat.min_eq_left (by omega)]; exact (SlOf.sl' HOc.out.slOf).take (by omega)
            have hslD : Sl we 5 (some ⟨g, 0, none⟩) (out.drop j).length ((out.drop j).flatMap encDc) := by
              (rw [List.drop_eq_nil_of_le (by have := hjx.out; omega)]; exact Sl.nil _ _ _)
            have HslT := Lib.hid hslT; have HslD := Lib.hid hslD
            clear hslT hslD
            have hba : Below (we).heap.size (we) (we).drew := (Below.refl _ _).drew
            obtain ⟨wa, hwa⟩ : ∃ W, (we).drew = W := ⟨_, rfl⟩
            rw [hwa] at hba
            have HSt := Lib.hid fun (w9 : World) (hb : Below wa.heap.size wa w9) => (show (fun w' : World => Below wa.heap.size wa w' ∧ w'.cell? ⟨yb, yo + k * 5, none⟩ = some (.int .i64 d.au) ∧ w'.cell? ⟨yb, yo + k * 5 + 1, none⟩ = some (.int .i64 d.nu) ∧ w'.cell? ⟨yb, yo + k * 5 + 2, none⟩ = some (.int .i64 d.ki) ∧ w'.cell? ⟨yb, yo + k * 5 + 3, none⟩ = some (.int .i64 d.a) ∧ w'.cell? ⟨yb, yo + k * 5 + 4, none⟩ = some (.int .i64 d.b)) w9 from ⟨hb, cell_later hb (cell_later hba y0), cell_later hb (cell_later hba y1), cell_later hb (cell_later hba y2), cell_later hb (cell_later hba y3), cell_later hb (cell_later hba y4)⟩)
            have hHeld := HSt.out wa (Below.refl _ _)
            refine wp_region_S 13 (fun w' : World => Below wa.heap.size wa w' ∧ w'.cell? ⟨yb, yo + k * 5, none⟩ = some (.int .i64 d.au) ∧ w'.cell? ⟨yb, yo + k * 5 + 1, none⟩ = some (.int .i64 d.nu) ∧ w'.cell? ⟨yb, yo + k * 5 + 2, none⟩ = some (.int .i64 d.ki) ∧ w'.cell? ⟨yb, yo + k * 5 + 3, none⟩ = some (.int .i64 d.a) ∧ w'.cell? ⟨yb, yo + k * 5 + 4, none⟩ = some (.int .i64 d.b)) (by kernel_rfl) (by decide) ?_
            rw [hwa]
            clear hwa
            refine wpAnyS_takeD 0 (some 63) (.slice (some ⟨g, 0, none⟩) out.length cap) (by rfl) (by rfl) (by kernel_rfl) (by exact fun _ _ _ h => h) (by rfl) (fun w' hS => by go_simp) hHeld ?_
            simp only [Act.put, List.setIfInBounds_toArray, List.set_cons_succ, List.set_cons_zero]
            refine wpAnyS_takeD 1 (some 64) (.int .i64 j) (by rfl) (by rfl) (by kernel_rfl) (by exact fun _ _ _ h => h) (by rfl) (fun w' hS => by go_simp) hHeld ?_
            simp only [Act.put, List.setIfInBounds_toArray, List.set_cons_succ, List.set_cons_zero]
            refine wpAnyS_takeD 2 (some 65) (.int .i64 j) (by rfl) (by rfl) (by kernel_rfl) (by exact fun _ _ _ h => h) (by rfl) (fun w' hS => by go_simp) hHeld ?_
            simp only [Act.put, List.setIfInBounds_toArray, List.set_cons_succ, List.set_cons_zero]
            refine wpAnyS_takeD 3 (some 66) (.slice (some ⟨g, 0, none⟩) j j) (by rfl) (by rfl) (by kernel_rfl) (by exact fun _ _ _ h => h) (by rfl) (fun w' hS => by go_simp) hHeld ?_
            simp only [Act.put, List.setIfInBounds_toArray, List.set_cons_succ, List.set_cons_zero]
            refine wpAnyS_takeD 4 (some 67) (.slice (some ⟨yb, yo, none⟩) ys.length yc) (by rfl) (by rfl) (by kernel_rfl) (by exact fun _ _ _ h => h) (by rfl) (fun w' hS => by go_simp) hHeld ?_
            simp only [Act.put, List.setIfInBounds_toArray, List.set_cons_succ, List.set_cons_zero]
            refine wpAnyS_takeD 5 (some 68) (.int .i64 k) (by rfl) (by rfl) (by kernel_rfl) (by exact fun _ _ _ h => h) (by rfl) (fun w' hS => by go_simp) hHeld ?_
            simp only [Act.put, List.setIfInBounds_toArray, List.set_cons_succ, List.set_cons_zero]
            refine wpAnyS_takeD 6 (some 69) (.pointer (some ⟨yb, yo + k * 5, none⟩)) (by rfl) (by rfl) (by kernel_rfl) (by exact fun _ _ _ h => h) (by rfl) (fun w' hS => by go_simp) hHeld ?_
            simp only [Act.put, List.setIfInBounds_toArray, List.set_cons_succ, List.set_cons_zero]
            refine wpAnyS_takeD 7 (some 70) (.agg #[.int .i64 d.au, .int .i64 d.nu, .int .i64 d.ki, .int .i64 d.a, .int .i64 d.b]) (by rfl) (by rfl) (by kernel_rfl) (by exact fun _ _ _ h => h) (by rfl) (fun w' hS => by (obtain ⟨_, x0, x1, x2, x3, x4⟩ := hS; go_simp)) hHeld ?_
            simp only [Act.put, List.setIfInBounds_toArray, List.set_cons_succ, List.set_cons_zero]
            refine wpAnyS_takeD 9 (some 72) (.slice (some ⟨g, 0, none⟩) out.length cap) (by rfl) (by rfl) (by kernel_rfl) (by exact fun _ _ _ h => h) (by rfl) (fun w' hS => by go_simp) hHeld ?_
            simp only [Act.put, List.setIfInBounds_toArray, List.set_cons_succ, List.set_cons_zero]
            refine wpAnyS_takeD 10 (some 73) (.int .i64 j) (by rfl) (by rfl) (by kernel_rfl) (by exact fun _ _ _ h => h) (by rfl) (fun w' hS => by go_simp) hHeld ?_
            simp only [Act.put, List.setIfInBounds_toArray, List.set_cons_succ, List.set_cons_zero]
            refine wpAnyS_takeD 11 (some 74) (.slice (some ⟨g, 0, none⟩) (out.length - j) (cap - j)) (by rfl) (by rfl) (by kernel_rfl) (by exact fun _ _ _ h => h) (by rfl) (fun w' hS => by go_simp) hHeld ?_
            simp only [Act.put, List.setIfInBounds_toArray, List.set_cons_succ, List.set_cons_zero]
            clear hHeld
            refine wpAnyS_one 8 (by kernel_rfl) (by rfl) (by decide) (fun K hK => ?_)
            have HK := Lib.hid hK; clear hK
            rw [if_pos (by rfl)]
            go_simp
            obtain ⟨w5, hw5⟩ : ∃ z, World.alloc wa (.cells #[.int .i64 d.au, .int .i64 d.nu, .int .i64 d.ki, .int .i64 d.a, .int .i64 d.b] 33) = z := ⟨_, rfl⟩
            have hb5 : Below wa.heap.size wa w5 := by rw [← hw5]; exact (Below.refl _ _).alloc (Nat.le_refl _) _
            have hk5 : w5.heap[wa.heap.size]? = some (.cells (encDc d).toArray 33 (0, 0)) := by rw [← hw5]; exact heap_alloc_new _ _
            rw [hw5]
            refine HK.out _ _ (HSt.out _ hb5) ?_
            clear HK hw5
            have ho5 : OwnDc wa.heap.size w5 (.slice (some ⟨wa.heap.size, 0, none⟩) 1 1) [d] := own_unit lenDc hk5 (Nat.le_refl _)
            have hc5 := below_trans hba hb5
            have hsl5 := HslD.out.below hc5
            have hz5 : wa.heap.size ≤ w5.heap.size := hb5.size
            have hol : out.length ≤ 1000 := by omega
            have hdl := Lib.hid (show out.length - j = (out.drop j).length by simp)
            have hjl' := Lib.hid (show j = (out.take j).length by simp; omega)
            clear hk5
            refine wpAnyS_one 12 (by kernel_rfl) (by rfl) (by decide) (fun K hK => ?_)
            have HK := Lib.hid hK; clear hK
            rw [if_pos (by rfl)]
            refine wp_append_sl (.tmp 71) (.tmp 74) _ rfl iD _ 40 Tryz.underlying48 hiD hzD hkD hbD rfl (by decide) oneDc rfl ho5 _ _ _ (out.drop j) rfl hdl.out hsl5 (by simp; omega) (by simp; omega) hz5 ?_
            intro v6 w6 ho6 hg6 ha6
            have hb6 := hb5.grown hg6 hz5 (fun q e => (ho5.lt q e).1)
            obtain ⟨A6, c6, e6, _⟩ := id ho6.slOf
            obtain ⟨n6, hn6⟩ : ∃ z, ([d] ++ out.drop j).length = z := ⟨_, rfl⟩
            rw [hn6] at e6
            have Hn6 := Lib.hid hn6
            clear hn6
            subst e6
            have hsl6 := SlOf.sl' ho6.slOf
            refine HK.out _ _ (HSt.out _ hb6) ?_
            clear HK
            have hc6 := below_trans hba hb6
            have hslT6 := HslT.out.below hc6
            refine (show tailOf _ _ _ _ _ _ _ _ from ⟨by kernel_rfl, ?_⟩)
            simp only [List.drop_succ_cons, List.drop_zero]
            refine wpList_append_full rfl (.tmp 66) (.tmp 75) _ rfl iD _ 40 Tryz.underlying48 hiD hzD hkD hbD rfl oneDc lenDc (some ⟨g, 0, none⟩) j (out.take j) rfl hjl'.out hslT6 A6 n6 c6 ([d] ++ out.drop j) rfl Hn6.out.symm hsl6 (by simp) (by simp; omega) (by simp; omega) ?_
            intro v7 w7 ho7 hb7
            have H7 := Lib.hid ho7
            have hb57 := below_trans hc6 hb7
            obtain ⟨A7, c7, e7, _⟩ := id ho7.slOf
            obtain ⟨n7, hn7⟩ : ∃ z, (out.take j ++ ([d] ++ out.drop j)).length = z := ⟨_, rfl⟩
            have hn8 : n7 ≠ 0 := by rw [← hn7]; simp
            rw [hn7] at e7
            subst e7
            have hnn7 : (Value.slice A7 n7 c7).ownBlock ≠ none := fun h => by
              rcases H7.out.cases with ⟨h9, _⟩ | ⟨g9, cap9, h9, _⟩
              · cases h9
                omega
              · rw [h9] at h
                cases h
            clear ho7 hn7
            go_wp2
            refine ⟨?rel, ?measure⟩
            case rel =>
              refine ⟨k + 1, _, out.take j ++ ([d] ++ out.drop j), by omega, rfl, by go_num, H7.out.base ?_, hnn7, HS.out.2, HS.out.1, by simp; omega, hb.trans ((below_trans hwe hb57).mono hb.size)⟩
              have h1 := hb.size; have h2 := (hwe).size; have h3 := hc6.size
              omega
            case measure => simp [intOf]; omega
          · go_wp2
            have hj1 : (j : Int) ≤ (out.length : Int) := by omega
            have hj3 : (out.length : Int) ≤ (cap : Int) := by omega
            have hj4 : (j : Int) ≤ (cap : Int) := by omega
            have hslT : Sl we 5 (some ⟨g, 0, none⟩) (out.take j).length ((out.take j).flatMap encDc) := by
              rw [flat_take encDc 5 lenDc, List.length_take, Nat.min_eq_left (by omega)]; exact (SlOf.sl' HOc.out.slOf).take (by omega)
            have hslD : Sl we 5 (some ⟨g, j * 5, none⟩) (out.drop j).length ((out.drop j).flatMap encDc) := by
              (rw [List.drop_eq_nil_of_le (by have := hjx.out; omega)]; exact Sl.nil _ _ _)
            have HslT := Lib.hid hslT; have HslD := Lib.hid hslD
            clear hslT hslD
            have hba : Below (we).heap.size (we) (we).drew := (Below.refl _ _).drew
            obtain ⟨wa, hwa⟩ : ∃ W, (we).drew = W := ⟨_, rfl⟩
            rw [hwa] at hba
            have HSt := Lib.hid fun (w9 : World) (hb : Below wa.heap.size wa w9) => (show (fun w' : World => Below wa.heap.size wa w' ∧ w'.cell? ⟨yb, yo + k * 5, none⟩ = some (.int .i64 d.au) ∧ w'.cell? ⟨yb, yo + k * 5 + 1, none⟩ = some (.int .i64 d.nu) ∧ w'.cell? ⟨yb, yo + k * 5 + 2, none⟩ = some (.int .i64 d.ki) ∧ w'.cell? ⟨yb, yo + k * 5 + 3, none⟩ = some (.int .i64 d.a) ∧ w'.cell? ⟨yb, yo + k * 5 + 4, none⟩ = some (.int .i64 d.b)) w9 from ⟨hb, cell_later hb (cell_later hba y0), cell_later hb (cell_later hba y1), cell_later hb (cell_later hba y2), cell_later hb (cell_later hba y3), cell_later hb (cell_later hba y4)⟩)
            have hHeld := HSt.out wa (Below.refl _ _)
            refine wp_region_S 13 (fun w' : World => Below wa.heap.size wa w' ∧ w'.cell? ⟨yb, yo + k * 5, none⟩ = some (.int .i64 d.au) ∧ w'.cell? ⟨yb, yo + k * 5 + 1, none⟩ = some (.int .i64 d.nu) ∧ w'.cell? ⟨yb, yo + k * 5 + 2, none⟩ = some (.int .i64 d.ki) ∧ w'.cell? ⟨yb, yo + k * 5 + 3, none⟩ = some (.int .i64 d.a) ∧ w'.cell? ⟨yb, yo + k * 5 + 4, none⟩ = some (.int .i64 d.b)) (by kernel_rfl) (by decide) ?_
            rw [hwa]
            clear hwa
            refine wpAnyS_takeD 0 (some 63) (.slice (some ⟨g, 0, none⟩) out.length cap) (by rfl) (by rfl) (by kernel_rfl) (by exact fun _ _ _ h => h) (by rfl) (fun w' hS => by go_simp) hHeld ?_
            simp only [Act.put, List.setIfInBounds_toArray, List.set_cons_succ, List.set_cons_zero]
            refine wpAnyS_takeD 1 (some 64) (.int .i64 j) (by rfl) (by rfl) (by kernel_rfl) (by exact fun _ _ _ h => h) (by rfl) (fun w' hS => by go_simp) hHeld ?_
            simp only [Act.put, List.setIfInBounds_toArray, List.set_cons_succ, List.set_cons_zero]
            refine wpAnyS_takeD 2 (some 65) (.int .i64 j) (by rfl) (by rfl) (by kernel_rfl) (by exact fun _ _ _ h => h) (by rfl) (fun w' hS => by go_simp) hHeld ?_
            simp only [Act.put, List.setIfInBounds_toArray, List.set_cons_succ, List.set_cons_zero]
            refine wpAnyS_takeD 3 (some 66) (.slice (some ⟨g, 0, none⟩) j j) (by rfl) (by rfl) (by kernel_rfl) (by exact fun _ _ _ h => h) (by rfl) (fun w' hS => by go_simp) hHeld ?_
            simp only [Act.put, List.setIfInBounds_toArray, List.set_cons_succ, List.set_cons_zero]
            refine wpAnyS_takeD 4 (some 67) (.slice (some ⟨yb, yo, none⟩) ys.length yc) (by rfl) (by rfl) (by kernel_rfl) (by exact fun _ _ _ h => h) (by rfl) (fun w' hS => by go_simp) hHeld ?_
            simp only [Act.put, List.setIfInBounds_toArray, List.set_cons_succ, List.set_cons_zero]
            refine wpAnyS_takeD 5 (some 68) (.int .i64 k) (by rfl) (by rfl) (by kernel_rfl) (by exact fun _ _ _ h => h) (by rfl) (fun w' hS => by go_simp) hHeld ?_
            simp only [Act.put, List.setIfInBounds_toArray, List.set_cons_succ, List.set_cons_zero]
            refine wpAnyS_takeD 6 (some 69) (.pointer (some ⟨yb, yo + k * 5, none⟩)) (by rfl) (by rfl) (by kernel_rfl) (by exact fun _ _ _ h => h) (by rfl) (fun w' hS => by go_simp) hHeld ?_
            simp only [Act.put, List.setIfInBounds_toArray, List.set_cons_succ, List.set_cons_zero]
            refine wpAnyS_takeD 7 (some 70) (.agg #[.int .i64 d.au, .int .i64 d.nu, .int .i64 d.ki, .int .i64 d.a, .int .i64 d.b]) (by rfl) (by rfl) (by kernel_rfl) (by exact fun _ _ _ h => h) (by rfl) (fun w' hS => by (obtain ⟨_, x0, x1, x2, x3, x4⟩ := hS; go_simp)) hHeld ?_
            simp only [Act.put, List.setIfInBounds_toArray, List.set_cons_succ, List.set_cons_zero]
            refine wpAnyS_takeD 9 (some 72) (.slice (some ⟨g, 0, none⟩) out.length cap) (by rfl) (by rfl) (by kernel_rfl) (by exact fun _ _ _ h => h) (by rfl) (fun w' hS => by go_simp) hHeld ?_
            simp only [Act.put, List.setIfInBounds_toArray, List.set_cons_succ, List.set_cons_zero]
            refine wpAnyS_takeD 10 (some 73) (.int .i64 j) (by rfl) (by rfl) (by kernel_rfl) (by exact fun _ _ _ h => h) (by rfl) (fun w' hS => by go_simp) hHeld ?_
            simp only [Act.put, List.setIfInBounds_toArray, List.set_cons_succ, List.set_cons_zero]
            refine wpAnyS_takeD 11 (some 74) (.slice (some ⟨g, j * 5, none⟩) (out.length - j) (cap - j)) (by rfl) (by rfl) (by kernel_rfl) (by exact fun _ _ _ h => h) (by rfl) (fun w' hS => by go_simp) hHeld ?_
            simp only [Act.put, List.setIfInBounds_toArray, List.set_cons_succ, List.set_cons_zero]
            clear hHeld
            refine wpAnyS_one 8 (by kernel_rfl) (by rfl) (by decide) (fun K hK => ?_)
            have HK := Lib.hid hK; clear hK
            rw [if_pos (by rfl)]
            go_simp
            obtain ⟨w5, hw5⟩ : ∃ z, World.alloc wa (.cells #[.int .i64 d.au, .int .i64 d.nu, .int .i64 d.ki, .int .i64 d.a, .int .i64 d.b] 33) = z := ⟨_, rfl⟩
            have hb5 : Below wa.heap.size wa w5 := by rw [← hw5]; exact (Below.refl _ _).alloc (Nat.le_refl _) _
            have hk5 : w5.heap[wa.heap.size]? = some (.cells (encDc d).toArray 33 (0, 0)) := by rw [← hw5]; exact heap_alloc_new _ _
            rw [hw5]
            refine HK.out _ _ (HSt.out _ hb5) ?_
            clear HK hw5
            have ho5 : OwnDc wa.heap.size w5 (.slice (some ⟨wa.heap.size, 0, none⟩) 1 1) [d] := own_unit lenDc hk5 (Nat.le_refl _)
            have hc5 := below_trans hba hb5
            have hsl5 := HslD.out.below hc5
            have hz5 : wa.heap.size ≤ w5.heap.size := hb5.size
            have hol : out.length ≤ 1000 := by omega
            have hdl := Lib.hid (show out.length - j = (out.drop j).length by simp)
            have hjl' := Lib.hid (show j = (out.take j).length by simp; omega)
            clear hk5
            refine wpAnyS_one 12 (by kernel_rfl) (by rfl) (by decide) (fun K hK => ?_)
            have HK := Lib.hid hK; clear hK
            rw [if_pos (by rfl)]
            refine wp_append_sl (.tmp 71) (.tmp 74) _ rfl iD _ 40 Tryz.underlying48 hiD hzD hkD hbD rfl (by decide) oneDc rfl ho5 _ _ _ (out.drop j) rfl hdl.out hsl5 (by simp; omega) (by simp; omega) hz5 ?_
            intro v6 w6 ho6 hg6 ha6
            have hb6 := hb5.grown hg6 hz5 (fun q e => (ho5.lt q e).1)
            obtain ⟨A6, c6, e6, _⟩ := id ho6.slOf
            obtain ⟨n6, hn6⟩ : ∃ z, ([d] ++ out.drop j).length = z := ⟨_, rfl⟩
            rw [hn6] at e6
            have Hn6 := Lib.hid hn6
            clear hn6
            subst e6
            have hsl6 := SlOf.sl' ho6.slOf
            refine HK.out _ _ (HSt.out _ hb6) ?_
            clear HK
            have hc6 := below_trans hba hb6
            have hslT6 := HslT.out.below hc6
            refine (show tailOf _ _ _ _ _ _ _ _ from ⟨by kernel_rfl, ?_⟩)
            simp only [List.drop_succ_cons, List.drop_zero]
            refine wpList_append_full rfl (.tmp 66) (.tmp 75) _ rfl iD _ 40 Tryz.underlying48 hiD hzD hkD hbD rfl oneDc lenDc (some ⟨g, 0, none⟩) j (out.take j) rfl hjl'.out hslT6 A6 n6 c6 ([d] ++ out.drop j) rfl Hn6.out.symm hsl6 (by simp) (by simp; omega) (by simp; omega) ?_
            intro v7 w7 ho7 hb7
            have H7 := Lib.hid ho7
            have hb57 := below_trans hc6 hb7
            obtain ⟨A7, c7, e7, _⟩ := id ho7.slOf
            obtain ⟨n7, hn7⟩ : ∃ z, (out.take j ++ ([d] ++ out.drop j)).length = z := ⟨_, rfl⟩
            have hn8 : n7 ≠ 0 := by rw [← hn7]; simp
            rw [hn7] at e7
            subst e7
            have hnn7 : (Value.slice A7 n7 c7).ownBlock ≠ none := fun h => by
              rcases H7.out.cases with ⟨h9, _⟩ | ⟨g9, cap9, h9, _⟩
              · cases h9
                omega
              · rw [h9] at h
                cases h
            clear ho7 hn7
            go_wp2
            refine ⟨?rel, ?measure⟩
            case rel =>
              refine ⟨k + 1, _, out.take j ++ ([d] ++ out.drop j), by omega, rfl, by go_num, H7.out.base ?_, hnn7, HS.out.2, HS.out.1, by simp; omega, hb.trans ((below_trans hwe hb57).mono hb.size)⟩
              have h1 := hb.size; have h2 := (hwe).size; have h3 := hc6.size
              omega
            case measure => simp [intOf]; omega
    · have he : ys.take k = ys := List.take_of_length_le (by omega)
      have HF2 : Hid (decsF xs ys = some out) := by have := HF.out; rw [he] at this; exact this
      clear he
      go_wp2
      go_ret2
      exact ⟨_, true, rfl, .inl ⟨out, HF2.out, rfl, HO.out⟩, hb⟩
end Go.Proofs.YthnckicnnhkkaaaGreat
/- The reference of layer 11: marks (two lists in order together). Condition: the arguments read as lists, the first in order. -/
namespace Go.Proofs.YthnckicnnhkkaaaGreat
open Go.RowKit Go.Maps Go.Shelf

set_option maxHeartbeats 16000000 in
set_option maxRecDepth 100000 in
theorem marks_ok (v u : Value) (xs ys : List Mrk) (w : World) (h : Mrks w v xs) (h' : Mrks w u ys) (hs : SrtM xs) (hx : xs.length ≤ 400) (hy : ys.length ≤ 400) :
    Calls Tryz.prog 147 #[v, u] w fun e w' => ∃ z, e = .returned z ∧ OwnMk w.heap.size w' z (mrksF xs ys) ∧ Below w.heap.size w w' := by
  obtain ⟨Ax, cx, rfl, hlx, hcx, _⟩ := id h.cells
  obtain ⟨Ay, yc, rfl, hly, hcy, hcl⟩ := h'.cells
  obtain ⟨iM, hiM, hzM, hkM, hbM⟩ := info_parts infoMk
  have HCl := Lib.hid hcl
  have hS1 := Lib.hid (fun (o : Obj) => Sl.below (SlOf.sl' h) ((Below.refl w.heap.size w).alloc (Nat.le_refl _) o))
  have HSr := Lib.hid hs
  have qm := neqMrk_
  clear h h' hcl hs
  go_enter Tryz.func147, Tryz.ntmps147
  go_wp2_with (at_builtin; refine wpList_append_sl rfl (.tmp 8) (.tmp 9) _ rfl iM _ 16 Tryz.underlying45 hiM hzM hkM hbM rfl (by decide) oneMk rfl (own_empty (B := w.heap.size) (heap_alloc_new _ _) (Nat.le_refl _)) _ _ _ xs rfl rfl (hS1.out _) (by simp; omega) (by simp; omega) (by simp) ?_; intro v1 w1 ho1 hg1 ha1)
  have hb1 : Below w.heap.size w w1 := ((Below.refl w.heap.size w).alloc (Nat.le_refl _) _).grown hg1 (by simp) (fun k e => by have e' : some w.heap.size = some k := e; cases e'; exact Nat.le_refl _)
  have hnn : v1.ownBlock ≠ none := by rcases ha1 with e | e <;> (rw [e]; intro h; cases h)
  rw [List.nil_append] at ho1
  have HO1 := Lib.hid ho1
  clear ho1 hg1 ha1 hS1
  go_loopw [5, 6] (fun t6 t7 wr => ∃ (k : Nat) (v : Value) (out : List Mrk), k ≤ ys.length ∧ t6 = v ∧ t7 = .int .i64 k ∧ OwnMk w.heap.size wr v out ∧ v.ownBlock ≠ none ∧ Hid (SrtM out) ∧ Hid (mrksF xs (ys.take k) = out) ∧ out.length ≤ xs.length + k ∧ Below w.heap.size w wr) (fun _ t _ => ys.length - (intOf t).toNat)
  case atStart => exact ⟨0, _, xs, Nat.zero_le _, rfl, rfl, HO1.out, hnn, HSr.out, rfl, by omega, hb1⟩
  case round =>
    obtain ⟨k, v, out, hk, rfl, rfl, hown, hnn', HSo, HF, hol, hb⟩ := hrel
    obtain ⟨g, cap, rfl, hgB, hgw, hoc, hcm⟩ := hown.addr hnn'
    have HO := Lib.hid hown
    obtain ⟨_, _, e0, _, _, hclo⟩ := (show Mrks wr _ out from hown.slOf).cells
    cases e0
    have HClo := Lib.hid hclo
    clear hown hclo hnn' hnn HO1
    have hcm' : (cap : Int) ≤ 9223372036854775807 := by simp only [maxLen] at hcm; omega
    by_cases hlt : k < ys.length
    · obtain ⟨d, hd⟩ := get_of_lt hlt
      obtain ⟨yb, yo, rfl, _, hcc⟩ := HCl.out _ (lt_of_get hd)
      have Hcc := Lib.hid fun (w9 : World) (hb9 : Below wr.heap.size wr w9) => hcc w9 (hb.trans (hb9.mono hb.size)) k d hd
      have Hd := Lib.hid hd
      have hl1 : (k : Int) < (ys.length : Int) := by omega
      clear hcc hd
      generalize hwo : wr = wo at *
      clear hwo wr
      go_wp2
      go_loopw [7] (fun t8 wr => ∃ j : Nat, t8 = .int .i64 j ∧ j ≤ ahd id out d ∧ Below wo.heap.size wo wr) (fun t _ => out.length - (intOf t).toNat)
      case atStart => exact ⟨0, rfl, Nat.zero_le _, Below.refl _ _⟩
      case round =>
        obtain ⟨j, rfl, hj, hbq⟩ := hrel
        have hahd := ahd_le (f := id) (out := out) (m := d)
        obtain ⟨y0, y1⟩ := Hcc.out wr hbq
        by_cases hjl : j < out.length
        · obtain ⟨o, ho⟩ := get_of_lt hjl
          have hst := ahd_step (f := id) (m := d) HSo.out ho
          obtain ⟨_, _, e0, _, hcco⟩ := HClo.out _ hjl
          cases e0
          obtain ⟨x0, x1⟩ := hcco wr hbq j o ho
          simp only [Nat.zero_add] at x0 x1
          have H3 := fun (y : Later wr) => rbefore_ok o d y.to
          obtain ⟨T, hT⟩ : ∃ z, decide (mkLt o d) = z := ⟨_, rfl⟩
          rw [hT] at H3
          have H3' := Lib.hid H3
          have X0 := Later.cell_all x0; have X1 := Later.cell_all x1
          have Y0 := Later.cell_all y0; have Y1 := Later.cell_all y1
          have Ho := Lib.hid ho; have Hst := Lib.hid hst; have HT := Lib.hid hT
          have d0 : decide ((j : Int) < (out.length : Int)) = true := by simp; omega
          have hj1 : (j : Int) < (out.length : Int) := by omega
          clear hcco H3 hT hst ho x0 x1 y0 y1
          go_wp2
          refine wp_region_later (by kernel_rfl) (by kernel_rfl) ?_
          repeat (go_big_quiet_step (first | (go_at_call 189; with_reducible exact calls_later (H3'.out _))))
          refine wpQuiet_nil ?_
          intro _ hw'
          obtain ⟨xq, hw''⟩ := hw'
          subst hw''
          have hbc := xq.h
          generalize xq.to = wc at hbc ⊢
          clear X0 X1 Y0 Y1
          cases T
          case true =>
            have hlt2 : j < ahd id out d := Hst.out.1 (by simpa using HT.out)
            go_wp2
            refine ⟨?rel, ?measure⟩
            case rel => exact ⟨j + 1, by go_num, by omega, below_trans hbq hbc⟩
            case measure => simp [intOf]; omega
          have hje : j = ahd id out d := by
            have h1 : ¬ j < ahd id out d := fun h => by have := Hst.out.2 h; have h2 := HT.out; simp at h2; exact h2 this
            omega
          have hwc := below_trans hbq hbc
          obtain ⟨y0, y1⟩ := Hcc.out wc hwc
          obtain ⟨_, _, e0, _, hcco⟩ := HClo.out _ hjl
          cases e0
          obtain ⟨x0, x1⟩ := hcco wc hwc j o Ho.out
          simp only [Nat.zero_add] at x0 x1
          have X0 := Later.cell_all x0; have X1 := Later.cell_all x1
          have Y0 := Later.cell_all y0; have Y1 := Later.cell_all y1
          have qmo := qm o d
          have Hwc := Lib.hid hwc; have Hje := Lib.hid hje
          have dn : ((j : Int) == (out.length : Int)) = false := by simp <;> omega
          have dn' : decide ((j : Int) = (out.length : Int)) = false := by simp <;> omega
          clear hcco x0 x1 y0 y1 hwc hbc hje
          by_cases hme : o = d
          · have te : neB o d = false := neB_no hme
            have HS : Hid (mrksF xs (ys.take (k + 1)) = out) := by
              show _ = _
              rw [mrksF_snoc Hd.out, HF.out, stepM, if_pos (by rw [← hme]; exact List.mem_of_getElem? Ho.out)]
            clear hme
            go_wp2
            refine wp_region_later (by kernel_rfl) (by kernel_rfl) ?_
            repeat (go_big_quiet_step (first | fail))
            refine wpQuiet_nil ?_
            intro _ hw'
            obtain ⟨xq, hw''⟩ := hw'
            subst hw''
            have hbe := xq.h
            generalize xq.to = we at hbe ⊢
            clear X0 X1 Y0 Y1
            have hwe := below_trans Hwc.out hbe
            go_wp2
            refine ⟨?rel, ?measure⟩
            case rel => exact ⟨k + 1, _, out, by omega, rfl, by go_num, HO.out.below hwe, by first | trivial | simp [Value.ownBlock] | (intro h; cases h), HSo, HS, by omega, hb.trans (hwe.mono hb.size)⟩
            case measure => simp [intOf]; omega
          · have te : neB o d = true := neB_yes hme
            have hfn : d ∉ out := atM_none HSo.out (fun o' ho' => by rw [← Hje.out, Ho.out] at ho'; cases ho'; exact hme)
            have HS : Hid (mrksF xs (ys.take (k + 1)) = (out.take j ++ ([d] ++ out.drop j)) ∧ SrtM (out.take j ++ ([d] ++ out.drop j))) := by
              have e : out.take j ++ ([d] ++ out.drop j) = insF id out d := by rw [Hje.out]; exact at_other (f := id) (fun x hx e => hfn (by rw [← show x = d from e]; exact hx)) HSo.out d rfl
              rw [e]
              exact ⟨by rw [mrksF_snoc Hd.out, HF.out, stepM, if_neg hfn], insF_srt id HSo.out⟩
            clear hme hfn
            go_wp2
            refine wp_region_later (by kernel_rfl) (by kernel_rfl) ?_
            repeat (go_big_quiet_step (first | fail))
            refine wpQuiet_nil ?_
            intro _ hw'
            obtain ⟨xq, hw''⟩ := hw'
            subst hw''
            have hbe := xq.h
            generalize xq.to = we at hbe ⊢
            clear X0 X1 Y0 Y1
            have hwe := below_trans Hwc.out hbe
            obtain ⟨y0, y1⟩ := Hcc.out we hwe
            have HOc := Lib.hid (HO.out.below hwe)
            have hcj : ¬ cap = j := by omega
            go_wp2
            have hj1 : (j : Int) ≤ (out.length : Int) := by omega
            have hj3 : (out.length : Int) ≤ (cap : Int) := by omega
            have hj4 : (j : Int) ≤ (cap : Int) := by omega
            have hslT : Sl we 2 (some ⟨g, 0, none⟩) (out.take j).length ((out.take j).flatMap encMk) := by
              rw [flat_take encMk 2 lenMk, List.length_take, Nat.min_eq_left (by omega)]; exact (SlOf.sl' HOc.out.slOf).take (by omega)
            have hslD : Sl we 2 (some ⟨g, j * 2, none⟩) (out.drop j).length ((out.drop j).flatMap encMk) := by
              (rw [flat_drop encMk 2 lenMk, List.length_drop]; have := (SlOf.sl' HOc.out.slOf).drop (m := j) (by omega); simpa using this)
            have HslT := Lib.hid hslT; have HslD := Lib.hid hslD
            clear hslT hslD
            have hba : Below (we).heap.size (we) (we).drew := (Below.refl _ _).drew
            obtain ⟨wa, hwa⟩ : ∃ W, (we).drew = W := ⟨_, rfl⟩
            rw [hwa] at hba
            have HSt := Lib.hid fun (w9 : World) (hb : Below wa.heap.size wa w9) => (show (fun w' : World => Below wa.heap.size wa w' ∧ w'.cell? ⟨yb, yo + k * 2, none⟩ = some (.int .i64 d.au) ∧ w'.cell? ⟨yb, yo + k * 2 + 1, none⟩ = some (.int .i64 d.nu)) w9 from ⟨hb, cell_later hb (cell_later hba y0), cell_later hb (cell_later hba y1)⟩)
            have hHeld := HSt.out wa (Below.refl _ _)
            refine wp_region_S 13 (fun w' : World => Below wa.heap.size wa w' ∧ w'.cell? ⟨yb, yo + k * 2, none⟩ = some (.int .i64 d.au) ∧ w'.cell? ⟨yb, yo + k * 2 + 1, none⟩ = some (.int .i64 d.nu)) (by kernel_rfl) (by decide) ?_
            rw [hwa]
            clear hwa
            refine wpAnyS_takeD 0 (some 49) (.slice (some ⟨g, 0, none⟩) out.length cap) (by rfl) (by rfl) (by kernel_rfl) (by exact fun _ _ _ h => h) (by rfl) (fun w' hS => by go_simp) hHeld ?_
            simp only [Act.put, List.setIfInBounds_toArray, List.set_cons_succ, List.set_cons_zero]
            refine wpAnyS_takeD 1 (some 50) (.int .i64 j) (by rfl) (by rfl) (by kernel_rfl) (by exact fun _ _ _ h => h) (by rfl) (fun w' hS => by go_simp) hHeld ?_
            simp only [Act.put, List.setIfInBounds_toArray, List.set_cons_succ, List.set_cons_zero]
            refine wpAnyS_takeD 2 (some 51) (.int .i64 j) (by rfl) (by rfl) (by kernel_rfl) (by exact fun _ _ _ h => h) (by rfl) (fun w' hS => by go_simp) hHeld ?_
            simp only [Act.put, List.setIfInBounds_toArray, List.set_cons_succ, List.set_cons_zero]
            refine wpAnyS_takeD 3 (some 52) (.slice (some ⟨g, 0, none⟩) j j) (by rfl) (by rfl) (by kernel_rfl) (by exact fun _ _ _ h => h) (by rfl) (fun w' hS => by go_simp) hHeld ?_
            simp only [Act.put, List.setIfInBounds_toArray, List.set_cons_succ, List.set_cons_zero]
            refine wpAnyS_takeD 4 (some 53) (.slice (some ⟨yb, yo, none⟩) ys.length yc) (by rfl) (by rfl) (by kernel_rfl) (by exact fun _ _ _ h => h) (by rfl) (fun w' hS => by go_simp) hHeld ?_
            simp only [Act.put, List.setIfInBounds_toArray, List.set_cons_succ, List.set_cons_zero]
            refine wpAnyS_takeD 5 (some 54) (.int .i64 k) (by rfl) (by rfl) (by kernel_rfl) (by exact fun _ _ _ h => h) (by rfl) (fun w' hS => by go_simp) hHeld ?_
            simp only [Act.put, List.setIfInBounds_toArray, List.set_cons_succ, List.set_cons_zero]
            refine wpAnyS_takeD 6 (some 55) (.pointer (some ⟨yb, yo + k * 2, none⟩)) (by rfl) (by rfl) (by kernel_rfl) (by exact fun _ _ _ h => h) (by rfl) (fun w' hS => by go_simp) hHeld ?_
            simp only [Act.put, List.setIfInBounds_toArray, List.set_cons_succ, List.set_cons_zero]
            refine wpAnyS_takeD 7 (some 56) (.agg #[.int .i64 d.au, .int .i64 d.nu]) (by rfl) (by rfl) (by kernel_rfl) (by exact fun _ _ _ h => h) (by rfl) (fun w' hS => by (obtain ⟨_, x0, x1⟩ := hS; go_simp)) hHeld ?_
            simp only [Act.put, List.setIfInBounds_toArray, List.set_cons_succ, List.set_cons_zero]
            refine wpAnyS_takeD 9 (some 58) (.slice (some ⟨g, 0, none⟩) out.length cap) (by rfl) (by rfl) (by kernel_rfl) (by exact fun _ _ _ h => h) (by rfl) (fun w' hS => by go_simp) hHeld ?_
            simp only [Act.put, List.setIfInBounds_toArray, List.set_cons_succ, List.set_cons_zero]
            refine wpAnyS_takeD 10 (some 59) (.int .i64 j) (by rfl) (by rfl) (by kernel_rfl) (by exact fun _ _ _ h => h) (by rfl) (fun w' hS => by go_simp) hHeld ?_
            simp only [Act.put, List.setIfInBounds_toArray, List.set_cons_succ, List.set_cons_zero]
            refine wpAnyS_takeD 11 (some 60) (.slice (some ⟨g, j * 2, none⟩) (out.length - j) (cap - j)) (by rfl) (by rfl) (by kernel_rfl) (by exact fun _ _ _ h => h) (by rfl) (fun w' hS => by go_simp) hHeld ?_
            simp only [Act.put, List.setIfInBounds_toArray, List.set_cons_succ, List.set_cons_zero]
            clear hHeld
            refine wpAnyS_one 8 (by kernel_rfl) (by rfl) (by decide) (fun K hK => ?_)
            have HK := Lib.hid hK; clear hK
            rw [if_pos (by rfl)]
            go_simp
            obtain ⟨w5, hw5⟩ : ∃ z, World.alloc wa (.cells #[.int .i64 d.au, .int .i64 d.nu] 35) = z := ⟨_, rfl⟩
            have hb5 : Below wa.heap.size wa w5 := by rw [← hw5]; exact (Below.refl _ _).alloc (Nat.le_refl _) _
            have hk5 : w5.heap[wa.heap.size]? = some (.cells (encMk d).toArray 35 (0, 0)) := by rw [← hw5]; exact heap_alloc_new _ _
            rw [hw5]
            refine HK.out _ _ (HSt.out _ hb5) ?_
            clear HK hw5
            have ho5 : OwnMk wa.heap.size w5 (.slice (some ⟨wa.heap.size, 0, none⟩) 1 1) [d] := own_unit lenMk hk5 (Nat.le_refl _)
            have hc5 := below_trans hba hb5
            have hsl5 := HslD.out.below hc5
            have hz5 : wa.heap.size ≤ w5.heap.size := hb5.size
            have hol : out.length ≤ 1000 := by omega
            have hdl := Lib.hid (show out.length - j = (out.drop j).length by simp)
            have hjl' := Lib.hid (show j = (out.take j).length by simp; omega)
            clear hk5
            refine wpAnyS_one 12 (by kernel_rfl) (by rfl) (by decide) (fun K hK => ?_)
            have HK := Lib.hid hK; clear hK
            rw [if_pos (by rfl)]
            refine wp_append_sl (.tmp 57) (.tmp 60) _ rfl iM _ 16 Tryz.underlying45 hiM hzM hkM hbM rfl (by decide) oneMk rfl ho5 _ _ _ (out.drop j) rfl hdl.out hsl5 (by simp; omega) (by simp; omega) hz5 ?_
            intro v6 w6 ho6 hg6 ha6
            have hb6 := hb5.grown hg6 hz5 (fun q e => (ho5.lt q e).1)
            obtain ⟨A6, c6, e6, _⟩ := id ho6.slOf
            obtain ⟨n6, hn6⟩ : ∃ z, ([d] ++ out.drop j).length = z := ⟨_, rfl⟩
            rw [hn6] at e6
            have Hn6 := Lib.hid hn6
            clear hn6
            subst e6
            have hsl6 := SlOf.sl' ho6.slOf
            refine HK.out _ _ (HSt.out _ hb6) ?_
            clear HK
            have hc6 := below_trans hba hb6
            have hslT6 := HslT.out.below hc6
            refine (show tailOf _ _ _ _ _ _ _ _ from ⟨by kernel_rfl, ?_⟩)
            simp only [List.drop_succ_cons, List.drop_zero]
            refine wpList_append_full rfl (.tmp 52) (.tmp 61) _ rfl iM _ 16 Tryz.underlying45 hiM hzM hkM hbM rfl oneMk lenMk (some ⟨g, 0, none⟩) j (out.take j) rfl hjl'.out hslT6 A6 n6 c6 ([d] ++ out.drop j) rfl Hn6.out.symm hsl6 (by simp) (by simp; omega) (by simp; omega) ?_
            intro v7 w7 ho7 hb7
            have H7 := Lib.hid ho7
            have hb57 := below_trans hc6 hb7
            obtain ⟨A7, c7, e7, _⟩ := id ho7.slOf
            obtain ⟨n7, hn7⟩ : ∃ z, (out.take j ++ ([d] ++ out.drop j)).length = z := ⟨_, rfl⟩
            have hn8 : n7 ≠ 0 := by rw [← hn7]; simp
            rw [hn7] at e7
            subst e7
            have hnn7 : (Value.slice A7 n7 c7).ownBlock ≠ none := fun h => by
              rcases H7.out.cases with ⟨h9, _⟩ | ⟨g9, cap9, h9, _⟩
              · cases h9
                omega
              · rw [h9] at h
                cases h
            clear ho7 hn7
            go_wp2
            refine ⟨?rel, ?measure⟩
            case rel =>
              refine ⟨k + 1, _, out.take j ++ ([d] ++ out.drop j), by omega, rfl, by go_num, H7.out.base ?_, hnn7, HS.out.2, HS.out.1, by simp; omega, hb.trans ((below_trans hwe hb57).mono hb.size)⟩
              have h1 := hb.size; have h2 := (hwe).size; have h3 := hc6.size
              omega
            case measure => simp [intOf]; omega
        · have hje : j = ahd id out d := by omega
          have hfn : d ∉ out := atM_none HSo.out (fun o' ho' => by rw [← hje] at ho'; have := lt_of_get ho'; omega)
          have HS : Hid (mrksF xs (ys.take (k + 1)) = (out.take j ++ ([d] ++ out.drop j)) ∧ SrtM (out.take j ++ ([d] ++ out.drop j))) := by
            have e : out.take j ++ ([d] ++ out.drop j) = insF id out d := by rw [hje]; exact at_other (f := id) (fun x hx e => hfn (by rw [← show x = d from e]; exact hx)) HSo.out d rfl
            rw [e]
            exact ⟨by rw [mrksF_snoc Hd.out, HF.out, stepM, if_neg hfn], insF_srt id HSo.out⟩
          have d0 : decide ((j : Int) < (out.length : Int)) = false := by simp; omega
          have dn : ((j : Int) == (out.length : Int)) = true := by simp <;> omega
          have dn' : decide ((j : Int) = (out.length : Int)) = true := by simp <;> omega
          have hjx := Lib.hid (show j = out.length by omega)
          clear hfn hje
          go_wp2
          refine wp_region_later (by kernel_rfl) (by kernel_rfl) ?_
          repeat (go_big_quiet_step (first | fail))
          refine wpQuiet_nil ?_
          intro _ hw'
          obtain ⟨xq, hw''⟩ := hw'
          subst hw''
          have hbc := xq.h
          generalize xq.to = wc at hbc ⊢
          have hwc := below_trans hbq hbc
          go_wp2
          refine wp_region_later (by kernel_rfl) (by kernel_rfl) ?_
          repeat (go_big_quiet_step (first | fail))
          refine wpQuiet_nil ?_
          intro _ hw'
          obtain ⟨xq, hw''⟩ := hw'
          subst hw''
          have hbe := xq.h
          generalize xq.to = we at hbe ⊢
          have hwe := below_trans hwc hbe
          obtain ⟨y0, y1⟩ := Hcc.out we hwe
          have HOc := Lib.hid (HO.out.below hwe)
          by_cases hcj : cap = j
          · have Hcj := Lib.hid hcj
            go_wp2
            have hj1 : (j : Int) ≤ (out.length : Int) := by omega
            have hj3 : (out.length : Int) ≤ (cap : Int) := by omega
            have hj4 : (j : Int) ≤ (cap : Int) := by omega
            have hslT : Sl we 2 (some ⟨g, 0, none⟩) (out.take j).length ((out.take j).flatMap encMk) := by
              rw [flat_take encMk 2 lenMk, List.length_take, Nat.min_eq_left (by omega)]; exact (SlOf.sl' HOc.out.slOf).take (by omega)
            have hslD : Sl we 2 (some ⟨g, 0, none⟩) (out.drop j).length ((out.drop j).flatMap encMk) := by
              (rw [List.drop_eq_nil_of_le (by have := hjx.out; omega)]; exact Sl.nil _ _ _)
            have HslT := Lib.hid hslT; have HslD := Lib.hid hslD
            clear hslT hslD
            have hba : Below (we).heap.size (we) (we).drew := (Below.refl _ _).drew
            obtain ⟨wa, hwa⟩ : ∃ W, (we).drew = W := ⟨_, rfl⟩
            rw [hwa] at hba
            have HSt := Lib.hid fun (w9 : World) (hb : Below wa.heap.size wa w9) => (show (fun w' : World => Below wa.heap.size wa w' ∧ w'.cell? ⟨yb, yo + k * 2, none⟩ = some (.int .i64 d.au) ∧ w'.cell? ⟨yb, yo + k * 2 + 1, none⟩ = some (.int .i64 d.nu)) w9 from ⟨hb, cell_later hb (cell_later hba y0), cell_later hb (cell_later hba y1)⟩)
            have hHeld := HSt.out wa (Below.refl _ _)
            refine wp_region_S 13 (fun w' : World => Below wa.heap.size wa w' ∧ w'.cell? ⟨yb, yo + k * 2, none⟩ = some (.int .i64 d.au) ∧ w'.cell? ⟨yb, yo + k * 2 + 1, none⟩ = some (.int .i64 d.nu)) (by kernel_rfl) (by decide) ?_
            rw [hwa]
            clear hwa
            refine wpAnyS_takeD 0 (some 49) (.slice (some ⟨g, 0, none⟩) out.length cap) (by rfl) (by rfl) (by kernel_rfl) (by exact fun _ _ _ h => h) (by rfl) (fun w' hS => by go_simp) hHeld ?_
            simp only [Act.put, List.setIfInBounds_toArray, List.set_cons_succ, List.set_cons_zero]
            refine wpAnyS_takeD 1 (some 50) (.int .i64 j) (by rfl) (by rfl) (by kernel_rfl) (by exact fun _ _ _ h => h) (by rfl) (fun w' hS => by go_simp) hHeld ?_
            simp only [Act.put, List.setIfInBounds_toArray, List.set_cons_succ, List.set_cons_zero]
            refine wpAnyS_takeD 2 (some 51) (.int .i64 j) (by rfl) (by rfl) (by kernel_rfl) (by exact fun _ _ _ h => h) (by rfl) (fun w' hS => by go_simp) hHeld ?_
            simp only [Act.put, List.setIfInBounds_toArray, List.set_cons_succ, List.set_cons_zero]
            refine wpAnyS_takeD 3 (some 52) (.slice (some ⟨g, 0, none⟩) j j) (by rfl) (by rfl) (by kernel_rfl) (by exact fun _ _ _ h => h) (by rfl) (fun w' hS => by go_simp) hHeld ?_
            simp only [Act.put, List.setIfInBounds_toArray, List.set_cons_succ, List.set_cons_zero]
            refine wpAnyS_takeD 4 (some 53) (.slice (some ⟨yb, yo, none⟩) ys.length yc) (by rfl) (by rfl) (by kernel_rfl) (by exact fun _ _ _ h => h) (by rfl) (fun w' hS => by go_simp) hHeld ?_
            simp only [Act.put, List.setIfInBounds_toArray, List.set_cons_succ, List.set_cons_zero]
            refine wpAnyS_takeD 5 (some 54) (.int .i64 k) (by rfl) (by rfl) (by kernel_rfl) (by exact fun _ _ _ h => h) (by rfl) (fun w' hS => by go_simp) hHeld ?_
            simp only [Act.put, List.setIfInBounds_toArray, List.set_cons_succ, List.set_cons_zero]
            refine wpAnyS_takeD 6 (some 55) (.pointer (some ⟨yb, yo + k * 2, none⟩)) (by rfl) (by rfl) (by kernel_rfl) (by exact fun _ _ _ h => h) (by rfl) (fun w' hS => by go_simp) hHeld ?_
            simp only [Act.put, List.setIfInBounds_toArray, List.set_cons_succ, List.set_cons_zero]
            refine wpAnyS_takeD 7 (some 56) (.agg #[.int .i64 d.au, .int .i64 d.nu]) (by rfl) (by rfl) (by kernel_rfl) (by exact fun _ _ _ h => h) (by rfl) (fun w' hS => by (obtain ⟨_, x0, x1⟩ := hS; go_simp)) hHeld ?_
            simp only [Act.put, List.setIfInBounds_toArray, List.set_cons_succ, List.set_cons_zero]
            refine wpAnyS_takeD 9 (some 58) (.slice (some ⟨g, 0, none⟩) out.length cap) (by rfl) (by rfl) (by kernel_rfl) (by exact fun _ _ _ h => h) (by rfl) (fun w' hS => by go_simp) hHeld ?_
            simp only [Act.put, List.setIfInBounds_toArray, List.set_cons_succ, List.set_cons_zero]
            refine wpAnyS_takeD 10 (some 59) (.int .i64 j) (by rfl) (by rfl) (by kernel_rfl) (by exact fun _ _ _ h => h) (by rfl) (fun w' hS => by go_simp) hHeld ?_
            simp only [Act.put, List.setIfInBounds_toArray, List.set_cons_succ, List.set_cons_zero]
            refine wpAnyS_takeD 11 (some 60) (.slice (some ⟨g, 0, none⟩) (out.length - j) (cap - j)) (by rfl) (by rfl) (by kernel_rfl) (by exact fun _ _ _ h => h) (by rfl) (fun w' hS => by go_simp) hHeld ?_
            simp only [Act.put, List.setIfInBounds_toArray, List.set_cons_succ, List.set_cons_zero]
            clear hHeld
            refine wpAnyS_one 8 (by kernel_rfl) (by rfl) (by decide) (fun K hK => ?_)
            have HK := Lib.hid hK; clear hK
            rw [if_pos (by rfl)]
            go_simp
            obtain ⟨w5, hw5⟩ : ∃ z, World.alloc wa (.cells #[.int .i64 d.au, .int .i64 d.nu] 35) = z := ⟨_, rfl⟩
            have hb5 : Below wa.heap.size wa w5 := by rw [← hw5]; exact (Below.refl _ _).alloc (Nat.le_refl _) _
            have hk5 : w5.heap[wa.heap.size]? = some (.cells (encMk d).toArray 35 (0, 0)) := by rw [← hw5]; exact heap_alloc_new _ _
            rw [hw5]
            refine HK.out _ _ (HSt.out _ hb5) ?_
            clear HK hw5
            have ho5 : OwnMk wa.heap.size w5 (.slice (some ⟨wa.heap.size, 0, none⟩) 1 1) [d] := own_unit lenMk hk5 (Nat.le_refl _)
            have hc5 := below_trans hba hb5
            have hsl5 := HslD.out.below hc5
            have hz5 : wa.heap.size ≤ w5.heap.size := hb5.size
            have hol : out.length ≤ 1000 := by omega
            have hdl := Lib.hid (show out.length - j = (out.drop j).length by simp)
            have hjl' := Lib.hid (show j = (out.take j).length by simp; omega)
            clear hk5
            refine wpAnyS_one 12 (by kernel_rfl) (by rfl) (by decide) (fun K hK => ?_)
            have HK := Lib.hid hK; clear hK
            rw [if_pos (by rfl)]
            refine wp_append_sl (.tmp 57) (.tmp 60) _ rfl iM _ 16 Tryz.underlying45 hiM hzM hkM hbM rfl (by decide) oneMk rfl ho5 _ _ _ (out.drop j) rfl hdl.out hsl5 (by simp; omega) (by simp; omega) hz5 ?_
            intro v6 w6 ho6 hg6 ha6
            have hb6 := hb5.grown hg6 hz5 (fun q e => (ho5.lt q e).1)
            obtain ⟨A6, c6, e6, _⟩ := id ho6.slOf
            obtain ⟨n6, hn6⟩ : ∃ z, ([d] ++ out.drop j).length = z := ⟨_, rfl⟩
            rw [hn6] at e6
            have Hn6 := Lib.hid hn6
            clear hn6
            subst e6
            have hsl6 := SlOf.sl' ho6.slOf
            refine HK.out _ _ (HSt.out _ hb6) ?_
            clear HK
            have hc6 := below_trans hba hb6
            have hslT6 := HslT.out.below hc6
            refine (show tailOf _ _ _ _ _ _ _ _ from ⟨by kernel_rfl, ?_⟩)
            simp only [List.drop_succ_cons, List.drop_zero]
            refine wpList_append_full rfl (.tmp 52) (.tmp 61) _ rfl iM _ 16 Tryz.underlying45 hiM hzM hkM hbM rfl oneMk lenMk (some ⟨g, 0, none⟩) j (out.take j) rfl hjl'.out hslT6 A6 n6 c6 ([d] ++ out.drop j) rfl Hn6.out.symm hsl6 (by simp) (by simp; omega) (by simp; omega) ?_
            intro v7 w7 ho7 hb7
            have H7 := Lib.hid ho7
            have hb57 := below_trans hc6 hb7
            obtain ⟨A7, c7, e7, _⟩ := id ho7.slOf
            obtain ⟨n7, hn7⟩ : ∃ z, (out.take j ++ ([d] ++ out.drop j)).length = z := ⟨_, rfl⟩
            have hn8 : n7 ≠ 0 := by rw [← hn7]; simp
            rw [hn7] at e7
            subst e7
            have hnn7 : (Value.slice A7 n7 c7).ownBlock ≠ none := fun h => by
              rcases H7.out.cases with ⟨h9, _⟩ | ⟨g9, cap9, h9, _⟩
              · cases h9
                omega
              · rw [h9] at h
                cases h
            clear ho7 hn7
            go_wp2
            refine ⟨?rel, ?measure⟩
            case rel =>
              refine ⟨k + 1, _, out.take j ++ ([d] ++ out.drop j), by omega, rfl, by go_num, H7.out.base ?_, hnn7, HS.out.2, HS.out.1, by simp; omega, hb.trans ((below_trans hwe hb57).mono hb.size)⟩
              have h1 := hb.size; have h2 := (hwe).size; have h3 := hc6.size
              omega
            case measure => simp [intOf]; omega
          · go_wp2
            have hj1 : (j : Int) ≤ (out.length : Int) := by omega
            have hj3 : (out.length : Int) ≤ (cap : Int) := by omega
            have hj4 : (j : Int) ≤ (cap : Int) := by omega
            have hslT : Sl we 2 (some ⟨g, 0, none⟩) (out.take j).length ((out.take j).flatMap encMk) := by
              rw [flat_take encMk 2 lenMk, List.length_take, Nat.min_eq_left (by omega)]; exact (SlOf.sl' HOc.out.slOf).take (by omega)
            have hslD : Sl we 2 (some ⟨g, j * 2, none⟩) (out.drop j).length ((out.drop j).flatMap encMk) := by
              (rw [List.drop_eq_nil_of_le (by have := hjx.out; omega)]; exact Sl.nil _ _ _)
            have HslT := Lib.hid hslT; have HslD := Lib.hid hslD
            clear hslT hslD
            have hba : Below (we).heap.size (we) (we).drew := (Below.refl _ _).drew
            obtain ⟨wa, hwa⟩ : ∃ W, (we).drew = W := ⟨_, rfl⟩
            rw [hwa] at hba
            have HSt := Lib.hid fun (w9 : World) (hb : Below wa.heap.size wa w9) => (show (fun w' : World => Below wa.heap.size wa w' ∧ w'.cell? ⟨yb, yo + k * 2, none⟩ = some (.int .i64 d.au) ∧ w'.cell? ⟨yb, yo + k * 2 + 1, none⟩ = some (.int .i64 d.nu)) w9 from ⟨hb, cell_later hb (cell_later hba y0), cell_later hb (cell_later hba y1)⟩)
            have hHeld := HSt.out wa (Below.refl _ _)
            refine wp_region_S 13 (fun w' : World => Below wa.heap.size wa w' ∧ w'.cell? ⟨yb, yo + k * 2, none⟩ = some (.int .i64 d.au) ∧ w'.cell? ⟨yb, yo + k * 2 + 1, none⟩ = some (.int .i64 d.nu)) (by kernel_rfl) (by decide) ?_
            rw [hwa]
            clear hwa
            refine wpAnyS_takeD 0 (some 49) (.slice (some ⟨g, 0, none⟩) out.length cap) (by rfl) (by rfl) (by kernel_rfl) (by exact fun _ _ _ h => h) (by rfl) (fun w' hS => by go_simp) hHeld ?_
            simp only [Act.put, List.setIfInBounds_toArray, List.set_cons_succ, List.set_cons_zero]
            refine wpAnyS_takeD 1 (some 50) (.int .i64 j) (by rfl) (by rfl) (by kernel_rfl) (by exact fun _ _ _ h => h) (by rfl) (fun w' hS => by go_simp) hHeld ?_
            simp only [Act.put, List.setIfInBounds_toArray, List.set_cons_succ, List.set_cons_zero]
            refine wpAnyS_takeD 2 (some 51) (.int .i64 j) (by rfl) (by rfl) (by kernel_rfl) (by exact fun _ _ _ h => h) (by rfl) (fun w' hS => by go_simp) hHeld ?_
            simp only [Act.put, List.setIfInBounds_toArray, List.set_cons_succ, List.set_cons_zero]
            refine wpAnyS_takeD 3 (some 52) (.slice (some ⟨g, 0, none⟩) j j) (by rfl) (by rfl) (by kernel_rfl) (by exact fun _ _ _ h => h) (by rfl) (fun w' hS => by go_simp) hHeld ?_
            simp only [Act.put, List.setIfInBounds_toArray, List.set_cons_succ, List.set_cons_zero]
            refine wpAnyS_takeD 4 (some 53) (.slice (some ⟨yb, yo, none⟩) ys.length yc) (by rfl) (by rfl) (by kernel_rfl) (by exact fun _ _ _ h => h) (by rfl) (fun w' hS => by go_simp) hHeld ?_
            simp only [Act.put, List.setIfInBounds_toArray, List.set_cons_succ, List.set_cons_zero]
            refine wpAnyS_takeD 5 (some 54) (.int .i64 k) (by rfl) (by rfl) (by kernel_rfl) (by exact fun _ _ _ h => h) (by rfl) (fun w' hS => by go_simp) hHeld ?_
            simp only [Act.put, List.setIfInBounds_toArray, List.set_cons_succ, List.set_cons_zero]
            refine wpAnyS_takeD 6 (some 55) (.pointer (some ⟨yb, yo + k * 2, none⟩)) (by rfl) (by rfl) (by kernel_rfl) (by exact fun _ _ _ h => h) (by rfl) (fun w' hS => by go_simp) hHeld ?_
            simp only [Act.put, List.setIfInBounds_toArray, List.set_cons_succ, List.set_cons_zero]
            refine wpAnyS_takeD 7 (some 56) (.agg #[.int .i64 d.au, .int .i64 d.nu]) (by rfl) (by rfl) (by kernel_rfl) (by exact fun _ _ _ h => h) (by rfl) (fun w' hS => by (obtain ⟨_, x0, x1⟩ := hS; go_simp)) hHeld ?_
            simp only [Act.put, List.setIfInBounds_toArray, List.set_cons_succ, List.set_cons_zero]
            refine wpAnyS_takeD 9 (some 58) (.slice (some ⟨g, 0, none⟩) out.length cap) (by rfl) (by rfl) (by kernel_rfl) (by exact fun _ _ _ h => h) (by rfl) (fun w' hS => by go_simp) hHeld ?_
            simp only [Act.put, List.setIfInBounds_toArray, List.set_cons_succ, List.set_cons_zero]
            refine wpAnyS_takeD 10 (some 59) (.int .i64 j) (by rfl) (by rfl) (by kernel_rfl) (by exact fun _ _ _ h => h) (by rfl) (fun w' hS => by go_simp) hHeld ?_
            simp only [Act.put, List.setIfInBounds_toArray, List.set_cons_succ, List.set_cons_zero]
            refine wpAnyS_takeD 11 (some 60) (.slice (some ⟨g, j * 2, none⟩) (out.length - j) (cap - j)) (by rfl) (by rfl) (by kernel_rfl) (by exact fun _ _ _ h => h) (by rfl) (fun w' hS => by go_simp) hHeld ?_
            simp only [Act.put, List.setIfInBounds_toArray, List.set_cons_succ, List.set_cons_zero]
            clear hHeld
            refine wpAnyS_one 8 (by kernel_rfl) (by rfl) (by decide) (fun K hK => ?_)
            have HK := Lib.hid hK; clear hK
            rw [if_pos (by rfl)]
            go_simp
            obtain ⟨w5, hw5⟩ : ∃ z, World.alloc wa (.cells #[.int .i64 d.au, .int .i64 d.nu] 35) = z := ⟨_, rfl⟩
            have hb5 : Below wa.heap.size wa w5 := by rw [← hw5]; exact (Below.refl _ _).alloc (Nat.le_refl _) _
            have hk5 : w5.heap[wa.heap.size]? = some (.cells (encMk d).toArray 35 (0, 0)) := by rw [← hw5]; exact heap_alloc_new _ _
            rw [hw5]
            refine HK.out _ _ (HSt.out _ hb5) ?_
            clear HK hw5
            have ho5 : OwnMk wa.heap.size w5 (.slice (some ⟨wa.heap.size, 0, none⟩) 1 1) [d] := own_unit lenMk hk5 (Nat.le_refl _)
            have hc5 := below_trans hba hb5
            have hsl5 := HslD.out.below hc5
            have hz5 : wa.heap.size ≤ w5.heap.size := hb5.size
            have hol : out.length ≤ 1000 := by omega
            have hdl := Lib.hid (show out.length - j = (out.drop j).length by simp)
            have hjl' := Lib.hid (show j = (out.take j).length by simp; omega)
            clear hk5
            refine wpAnyS_one 12 (by kernel_rfl) (by rfl) (by decide) (fun K hK => ?_)
            have HK := Lib.hid hK; clear hK
            rw [if_pos (by rfl)]
            refine wp_append_sl (.tmp 57) (.tmp 60) _ rfl iM _ 16 Tryz.underlying45 hiM hzM hkM hbM rfl (by decide) oneMk rfl ho5 _ _ _ (out.drop j) rfl hdl.out hsl5 (by simp; omega) (by simp; omega) hz5 ?_
            intro v6 w6 ho6 hg6 ha6
            have hb6 := hb5.grown hg6 hz5 (fun q e => (ho5.lt q e).1)
            obtain ⟨A6, c6, e6, _⟩ := id ho6.slOf
            obtain ⟨n6, hn6⟩ : ∃ z, ([d] ++ out.drop j).length = z := ⟨_, rfl⟩
            rw [hn6] at e6
            have Hn6 := Lib.hid hn6
            clear hn6
            subst e6
            have hsl6 := SlOf.sl' ho6.slOf
            refine HK.out _ _ (HSt.out _ hb6) ?_
            clear HK
            have hc6 := below_trans hba hb6
            have hslT6 := HslT.out.below hc6
            refine (show tailOf _ _ _ _ _ _ _ _ from ⟨by kernel_rfl, ?_⟩)
            simp only [List.drop_succ_cons, List.drop_zero]
            refine wpList_append_full rfl (.tmp 52) (.tmp 61) _ rfl iM _ 16 Tryz.underlying45 hiM hzM hkM hbM rfl oneMk lenMk (some ⟨g, 0, none⟩) j (out.take j) rfl hjl'.out hslT6 A6 n6 c6 ([d] ++ out.drop j) rfl Hn6.out.symm hsl6 (by simp) (by simp; omega) (by simp; omega) ?_
            intro v7 w7 ho7 hb7
            have H7 := Lib.hid ho7
            have hb57 := below_trans hc6 hb7
            obtain ⟨A7, c7, e7, _⟩ := id ho7.slOf
            obtain ⟨n7, hn7⟩ : ∃ z, (out.take j ++ ([d] ++ out.drop j)).length = z := ⟨_, rfl⟩
            have hn8 : n7 ≠ 0 := by rw [← hn7]; simp
            rw [hn7] at e7
            subst e7
            have hnn7 : (Value.slice A7 n7 c7).ownBlock ≠ none := fun h => by
              rcases H7.out.cases with ⟨h9, _⟩ | ⟨g9, cap9, h9, _⟩
              · cases h9
                omega
              · rw [h9] at h
                cases h
            clear ho7 hn7
            go_wp2
            refine ⟨?rel, ?measure⟩
            case rel =>
              refine ⟨k + 1, _, out.take j ++ ([d] ++ out.drop j), by omega, rfl, by go_num, H7.out.base ?_, hnn7, HS.out.2, HS.out.1, by simp; omega, hb.trans ((below_trans hwe hb57).mono hb.size)⟩
              have h1 := hb.size; have h2 := (hwe).size; have h3 := hc6.size
              omega
            case measure => simp [intOf]; omega
    · have he : ys.take k = ys := List.take_of_length_le (by omega)
      have HF2 : Hid (mrksF xs ys = out) := by have := HF.out; rw [he] at this; exact this
      clear he
      go_wp2
      go_ret
      exact ⟨_, rfl, by rw [HF2.out]; exact HO.out, hb⟩
end Go.Proofs.YthnckicnnhkkaaaGreat
/- The reference of layer 11: New, Make, Withdraw, Standing, Made, Withdrawn. Condition: the ledger reads as such. -/
namespace Go.Proofs.YthnckicnnhkkaaaGreat
open Go.RowKit Go.Maps Go.Shelf

/-! ### Plain -/
section
variable {D out : List Dec} {d : Dec} {W : List Mrk} {m : Mrk}
theorem decsF_one (D : List Dec) (d : Dec) : decsF D [d] = stepD D d := by
  rw [decsF]
  cases stepD D d <;> rfl
theorem make_none (hd : decB d = true) (h : stepD D d = none) : makeE D d = 10 := by
  unfold stepD at h
  rw [makeE, if_pos hd]
  cases hf : findD D (mkOf d) with
  | none => rw [hf] at h; cases h
  | some o =>
    rw [hf] at h
    by_cases e : o = d
    · simp [e] at h
    · exact if_neg e
theorem make_full (hd : decB d = true) (h : stepD D d = some out) (hl : 200 < out.length) (hD : D.length ≤ 200) : makeE D d = 6 := by
  unfold stepD at h
  rw [makeE, if_pos hd]
  cases hf : findD D (mkOf d) with
  | none =>
    rw [hf] at h
    cases h
    rw [insF_len mkOf (find_none.1 hf)] at hl
    exact if_pos (by omega)
  | some o =>
    rw [hf] at h
    by_cases e : o = d
    · simp [e] at h
      subst h
      omega
    · simp [e] at h
theorem make_okay (hd : decB d = true) (h : stepD D d = some out) (hl : out.length ≤ 200) : makeE D d = 0 ∧ makeL D d = out := by
  unfold stepD at h
  cases hf : findD D (mkOf d) with
  | none =>
    rw [hf] at h
    cases h
    have hl' := hl
    rw [insF_len mkOf (find_none.1 hf)] at hl'
    have he : makeE D d = 0 := by rw [makeE, if_pos hd, hf]; exact if_neg (by omega)
    exact ⟨he, by rw [makeL, if_pos ⟨he, hf⟩]⟩
  | some o =>
    rw [hf] at h
    by_cases e : o = d
    · simp [e] at h
      subst h
      exact ⟨by rw [makeE, if_pos hd, hf]; exact if_pos e, makeL_no (.inr (by rw [hf]; simp))⟩
    · simp [e] at h
theorem draw_full (hm : mrkB m = true) (hl : 200 < (stepM W m).length) (hW : W.length ≤ 200) : drawE W m = 6 := by
  unfold stepM at hl
  by_cases h : m ∈ W
  · rw [if_pos h] at hl; omega
  · rw [if_neg h, insF_len id (fun x hx e => h (by rw [← show x = m from e]; exact hx))] at hl
    rw [drawE, if_pos hm, if_neg h, if_pos (by omega)]
theorem draw_okay (hm : mrkB m = true) (hl : (stepM W m).length ≤ 200) : drawE W m = 0 ∧ drawL W m = stepM W m := by
  by_cases h : m ∈ W
  · exact ⟨by rw [drawE, if_pos hm, if_pos h], by rw [drawL_no (.inr h), stepM, if_pos h]⟩
  · have e : stepM W m = insF id W m := by rw [stepM, if_neg h]
    rw [e, insF_len id (fun x hx e => h (by rw [← show x = m from e]; exact hx))] at hl
    have he : drawE W m = 0 := by rw [drawE, if_pos hm, if_neg h, if_neg (by omega)]
    exact ⟨he, by rw [drawL, if_pos ⟨he, h⟩, e]⟩
end

/-! ### A reference ledger -/
structure RLed (w : World) (T : List Nat) (q : Nat) (vd vw : Value) (D : List Dec) (W : List Mrk) : Prop where
  row : w.heap[q]? = some (.cells [vd, vw].toArray 128 (0, 0))
  dec : Decs w vd D
  mrk : Mrks w vw W
  mem : q ∈ T ∧ (∀ j, vd.ownBlock = some j → j ∈ T) ∧ ∀ j, vw.ownBlock = some j → j ∈ T
  ne : (∀ j, vd.ownBlock = some j → j ≠ q) ∧ ∀ j, vw.ownBlock = some j → j ≠ q
  lt : ∀ b ∈ T, b < w.heap.size
  srtD : SrtD D
  srtW : SrtM W
  lenD : D.length ≤ 200
  lenW : W.length ≤ 200
section
variable {w w' : World} {T S : List Nat} {q : Nat} {vd vw : Value} {D : List Dec} {W : List Mrk}
theorem RLed.off (h : RLed w T q vd vw D W) (ht : Touch w w' S) (hn : ∀ b ∈ T, b ∉ S) : RLed w' T q vd vw D W :=
  ⟨(ht.block q (h.lt q h.mem.1) (hn q h.mem.1)).trans h.row, slOf_off h.dec ht fun j hj => hn j (h.mem.2.1 j hj), slOf_off h.mrk ht fun j hj => hn j (h.mem.2.2 j hj), h.mem, h.ne, fun b hb => Nat.lt_of_lt_of_le (h.lt b hb) ht.size, h.srtD, h.srtW, h.lenD, h.lenW⟩
theorem RLed.below (h : RLed w T q vd vw D W) (hb : Below w.heap.size w w') : RLed w' T q vd vw D W := h.off (touch_below hb []) (by simp)
/-- A reference ledger at block q; T: all its blocks. -/
def RLedA (w : World) (T : List Nat) (q : Nat) (D : List Dec) (W : List Mrk) : Prop := ∃ vd vw, RLed w T q vd vw D W
theorem RLedA.off (h : RLedA w T q D W) (ht : Touch w w' S) (hn : ∀ b ∈ T, b ∉ S) : RLedA w' T q D W := by obtain ⟨vd, vw, h⟩ := h; exact ⟨vd, vw, h.off ht hn⟩
theorem RLedA.below (h : RLedA w T q D W) (hb : Below w.heap.size w w') : RLedA w' T q D W := by obtain ⟨vd, vw, h⟩ := h; exact ⟨vd, vw, h.below hb⟩
theorem heap_set2a {w : World} {g : Nat} {a b x : Value} {t : TypeId} (h : w.heap[g]? = some (.cells [a, b].toArray t (0, 0))) : (w.setCell ⟨g, 0, none⟩ x).heap[g]? = some (.cells [x, b].toArray t (0, 0)) := heap_setCell_same w g 0 _ t x h
theorem heap_set2b {w : World} {g : Nat} {a b x : Value} {t : TypeId} (h : w.heap[g]? = some (.cells [a, b].toArray t (0, 0))) : (w.setCell ⟨g, 1, none⟩ x).heap[g]? = some (.cells [a, x].toArray t (0, 0)) := heap_setCell_same w g 1 _ t x h
theorem RLed.putD (h : RLed w T q vd vw D W) {z : Value} {D' : List Dec} {B : Nat} (hz : OwnDc B w z D') (hB : ∀ b ∈ T, b < B) (hs : SrtD D') (hl : D'.length ≤ 200) : RLed (w.setCell ⟨q, 0, none⟩ z) (blk z ++ T) q z vw D' W ∧ Touch w (w.setCell ⟨q, 0, none⟩ z) T := by
  have ht : Touch w (w.setCell ⟨q, 0, none⟩ z) [q] := touch_set rfl (by simp)
  have hq := hB q h.mem.1
  have hzb : ∀ j, z.ownBlock = some j → B ≤ j ∧ j < w.heap.size := hz.lt
  refine ⟨⟨heap_set2a h.row, slOf_off hz.slOf ht fun j hj => by have := hzb j hj; simp; omega, slOf_off h.mrk ht fun j hj => by simpa using h.ne.2 j hj, ⟨List.mem_append_right _ h.mem.1, fun j hj => List.mem_append_left _ (mem_blk.2 hj), fun j hj => List.mem_append_right _ (h.mem.2.2 j hj)⟩, ⟨fun j hj => by have := hzb j hj; omega, h.ne.2⟩, fun b hb => Nat.lt_of_lt_of_le ?_ ht.size, hs, h.srtW, hl, h.lenW⟩, touch_set rfl h.mem.1⟩
  rcases List.mem_append.1 hb with hb | hb
  · exact (hzb b (mem_blk.1 hb)).2
  · exact h.lt b hb
theorem RLed.putW (h : RLed w T q vd vw D W) {z : Value} {W' : List Mrk} {B : Nat} (hz : OwnMk B w z W') (hB : ∀ b ∈ T, b < B) (hs : SrtM W') (hl : W'.length ≤ 200) : RLed (w.setCell ⟨q, 1, none⟩ z) (blk z ++ T) q vd z D W' ∧ Touch w (w.setCell ⟨q, 1, none⟩ z) T := by
  have ht : Touch w (w.setCell ⟨q, 1, none⟩ z) [q] := touch_set rfl (by simp)
  have hq := hB q h.mem.1
  have hzb : ∀ j, z.ownBlock = some j → B ≤ j ∧ j < w.heap.size := hz.lt
  refine ⟨⟨heap_set2b h.row, slOf_off h.dec ht fun j hj => by simpa using h.ne.1 j hj, slOf_off hz.slOf ht fun j hj => by have := hzb j hj; simp; omega, ⟨List.mem_append_right _ h.mem.1, fun j hj => List.mem_append_right _ (h.mem.2.1 j hj), fun j hj => List.mem_append_left _ (mem_blk.2 hj)⟩, ⟨h.ne.1, fun j hj => by have := hzb j hj; omega⟩, fun b hb => Nat.lt_of_lt_of_le ?_ ht.size, h.srtD, hs, h.lenD, hl⟩, touch_set rfl h.mem.1⟩
  rcases List.mem_append.1 hb with hb | hb
  · exact (hzb b (mem_blk.1 hb)).2
  · exact h.lt b hb
end
set_option maxHeartbeats 8000000 in
set_option maxRecDepth 100000 in
theorem rMake_ok (T : List Nat) (q : Nat) (vd vw : Value) (D : List Dec) (W : List Mrk) (d : Dec) (w : World) (h : RLed w T q vd vw D W) :
    Calls Tryz.prog 104 #[.pointer (some ⟨q, 0, none⟩), .agg #[.int .i64 d.au, .int .i64 d.nu, .int .i64 d.ki, .int .i64 d.a, .int .i64 d.b]] w fun e w' =>
      e = .returned (.int .i64 (makeE D d)) ∧ ∃ T', RLedA w' T' q (makeL D d) W ∧ Touch w w' T ∧ ∀ b ∈ T', b ∈ T ∨ w.heap.size ≤ b := by
  have HNo : Hid (∀ w1, Below w.heap.size w w1 → makeE D d ≠ 0 → ∃ T', RLedA w1 T' q (makeL D d) W ∧ Touch w w1 T ∧ ∀ b ∈ T', b ∈ T ∨ w.heap.size ≤ b) := Lib.hid fun w1 hb he => ⟨T, by rw [makeL_no (.inl he)]; exact ⟨vd, vw, h.below hb⟩, touch_below hb T, fun b hb => .inl hb⟩
  obtain ⟨X, hX, HzX, hbX, hltX, _⟩ := boxed w #[.int .i64 (d).au, .int .i64 (d).nu, .int .i64 (d).ki, .int .i64 (d).a, .int .i64 (d).b] 33
  have hkX : (X).heap[(w).heap.size]? = some (.cells [.int .i64 (d).au, .int .i64 (d).nu, .int .i64 (d).ki, .int .i64 (d).a, .int .i64 (d).b].toArray 33 (0, 0)) := by rw [← hX]; exact heap_alloc_new _ _
  have HX := Lib.hid (h.below hbX)
  have hV := rValid_ok d X
  have Hk := Lib.hid hkX
  obtain ⟨V, hVd⟩ : ∃ z, decB d = z := ⟨_, rfl⟩
  rw [hVd] at hV
  obtain ⟨⟨c0, c1, c2, c3, c4⟩, _⟩ := cellsD5 hkX
  have HV := Lib.hid hV; have HVd := Lib.hid hVd; have H := Lib.hid h
  obtain ⟨Ad, cd, hvd, hld, hcd, _⟩ := (h.dec).cells
  clear hkX hV hVd h
  cases V
  · have HE : Hid (makeE D d = 1) := Lib.hid (by rw [makeE, if_neg (by rw [HVd.out]; simp)])
    go_enter Tryz.func104, Tryz.ntmps104
    go_wp2_with fail
    refine HV.out.mono ?_
    rintro e w1 ⟨rfl, hb1⟩
    go_wp2_with fail
    go_ret
    exact ⟨ret_i64 HE.out.symm, HNo.out _ (below_trans hbX hb1) (by rw [HE.out]; decide)⟩
  subst hvd
  go_enter Tryz.func104, Tryz.ntmps104
  go_wp2_with fail
  refine HV.out.mono ?_
  rintro e w1 ⟨rfl, hb1⟩
  have hw1 := below_trans hbX hb1
  clear c0 c1 c2 c3 c4 HV
  obtain ⟨⟨c0, c1, c2, c3, c4⟩, _⟩ := cellsD5 (heap_below Hk.out hb1 (heap_lt Hk.out))
  obtain ⟨⟨r0, r1⟩, _⟩ := cellsM (H.out.below hw1).row
  go_wp2_with fail
  have hba : Below (w1).heap.size (w1) (w1).drew := (Below.refl _ _).drew
  obtain ⟨wa, hwa⟩ : ∃ W, (w1).drew = W := ⟨_, rfl⟩
  rw [hwa] at hba
  have HSt := Lib.hid fun (w9 : World) (hb : Below wa.heap.size wa w9) => (show (fun w' : World => Below wa.heap.size wa w' ∧ w'.cell? ⟨q, 0, none⟩ = some (.slice Ad D.length cd) ∧ w'.cell? ⟨w.heap.size, 0, none⟩ = some (.int .i64 d.au) ∧ w'.cell? ⟨w.heap.size, 1, none⟩ = some (.int .i64 d.nu) ∧ w'.cell? ⟨w.heap.size, 2, none⟩ = some (.int .i64 d.ki) ∧ w'.cell? ⟨w.heap.size, 3, none⟩ = some (.int .i64 d.a) ∧ w'.cell? ⟨w.heap.size, 4, none⟩ = some (.int .i64 d.b)) w9 from ⟨hb, cell_later hb (cell_later hba r0), cell_later hb (cell_later hba c0), cell_later hb (cell_later hba c1), cell_later hb (cell_later hba c2), cell_later hb (cell_later hba c3), cell_later hb (cell_later hba c4)⟩)
  have hHeld := HSt.out wa (Below.refl _ _)
  refine wp_region_S 11 (fun w' : World => Below wa.heap.size wa w' ∧ w'.cell? ⟨q, 0, none⟩ = some (.slice Ad D.length cd) ∧ w'.cell? ⟨w.heap.size, 0, none⟩ = some (.int .i64 d.au) ∧ w'.cell? ⟨w.heap.size, 1, none⟩ = some (.int .i64 d.nu) ∧ w'.cell? ⟨w.heap.size, 2, none⟩ = some (.int .i64 d.ki) ∧ w'.cell? ⟨w.heap.size, 3, none⟩ = some (.int .i64 d.a) ∧ w'.cell? ⟨w.heap.size, 4, none⟩ = some (.int .i64 d.b)) (by kernel_rfl) (by decide) ?_
  rw [hwa]
  clear hwa
  refine wpAnyS_takeD 0 (some 15) (.pointer (some ⟨q, 0, none⟩)) (by rfl) (by rfl) (by kernel_rfl) (by exact fun _ _ _ h => h) (by rfl) (fun w' hS => by go_simp) hHeld ?_
  simp only [Act.put, List.setIfInBounds_toArray, List.set_cons_succ, List.set_cons_zero]
  refine wpAnyS_takeD 1 (some 16) (.pointer (some ⟨q, 0, none⟩)) (by rfl) (by rfl) (by kernel_rfl) (by exact fun _ _ _ h => h) (by rfl) (fun w' hS => by go_simp) hHeld ?_
  simp only [Act.put, List.setIfInBounds_toArray, List.set_cons_succ, List.set_cons_zero]
  refine wpAnyS_takeD 2 (some 17) (.pointer (some ⟨q, 0, none⟩)) (by rfl) (by rfl) (by kernel_rfl) (by exact fun _ _ _ h => h) (by rfl) (fun w' hS => by go_simp) hHeld ?_
  simp only [Act.put, List.setIfInBounds_toArray, List.set_cons_succ, List.set_cons_zero]
  refine wpAnyS_takeD 3 (some 18) (.slice Ad D.length cd) (by rfl) (by rfl) (by kernel_rfl) (by exact fun _ _ _ h => h) (by rfl) (fun w' hS => by (obtain ⟨_, x0, _⟩ := hS; go_simp)) hHeld ?_
  simp only [Act.put, List.setIfInBounds_toArray, List.set_cons_succ, List.set_cons_zero]
  refine wpAnyS_takeD 4 (some 19) (.agg #[.int .i64 d.au, .int .i64 d.nu, .int .i64 d.ki, .int .i64 d.a, .int .i64 d.b]) (by rfl) (by rfl) (by kernel_rfl) (by exact fun _ _ _ h => h) (by rfl) (fun w' hS => by (obtain ⟨_, _, x0, x1, x2, x3, x4⟩ := hS; go_simp)) hHeld ?_
  simp only [Act.put, List.setIfInBounds_toArray, List.set_cons_succ, List.set_cons_zero]
  clear hHeld
  refine wpAnyS_one 5 (by kernel_rfl) (by rfl) (by decide) (fun K hK => ?_)
  have HK := Lib.hid hK; clear hK
  rw [if_pos (by rfl)]
  go_simp
  obtain ⟨w5, hw5⟩ : ∃ z, World.alloc wa (.cells #[.int .i64 d.au, .int .i64 d.nu, .int .i64 d.ki, .int .i64 d.a, .int .i64 d.b] 33) = z := ⟨_, rfl⟩
  have hb5 : Below wa.heap.size wa w5 := by rw [← hw5]; exact (Below.refl _ _).alloc (Nat.le_refl _) _
  have hk5 : w5.heap[wa.heap.size]? = some (.cells (encDc d).toArray 33 (0, 0)) := by rw [← hw5]; exact heap_alloc_new _ _
  rw [hw5]
  refine HK.out _ _ (HSt.out _ hb5) ?_
  clear HK hw5
  have hw5' := below_trans hw1 (below_trans hba hb5)
  have HD := Lib.hid (decisions_ok (.slice Ad D.length cd) (.slice (some ⟨wa.heap.size, 0, none⟩) 1 1) D [d] w5 (H.out.below hw5').dec (own_unit lenDc hk5 (Nat.le_refl _)).slOf H.out.srtD (by have := H.out.lenD; omega) (by simp))
  clear hk5
  refine wpAnyS_one 6 (by kernel_rfl) (by rfl) (by decide) (fun K hK => ?_)
  have HK := Lib.hid hK; clear hK
  rw [if_pos (by rfl)]
  go_simp
  refine HD.out.mono ?_
  rintro e w6 ⟨z, bz, rfl, hR, hb6⟩
  have hw6 := below_trans hw5' hb6
  have hHeld := HSt.out _ (below_trans hb5 hb6)
  refine HK.out _ _ (HSt.out _ (below_trans hb5 hb6)) ?_
  clear HK
  refine wpAnyS_takeD 7 (some 14) (.tuple #[z, .bool bz]) (by rfl) (by rfl) (by kernel_rfl) (by exact fun _ _ _ h => h) (by rfl) (fun w' hS => by go_simp) hHeld ?_
  simp only [Act.put, List.setIfInBounds_toArray, List.set_cons_succ, List.set_cons_zero]
  refine wpAnyS_takeD 8 (some 22) z (by rfl) (by rfl) (by kernel_rfl) (by exact fun _ _ _ h => h) (by rfl) (fun w' hS => by go_simp) hHeld ?_
  simp only [Act.put, List.setIfInBounds_toArray, List.set_cons_succ, List.set_cons_zero]
  refine wpAnyS_takeD 10 (some 5) z (by rfl) (by rfl) (by kernel_rfl) (by exact fun _ _ _ h => h) (by rfl) (fun w' hS => by go_simp) hHeld ?_
  simp only [Act.put, List.setIfInBounds_toArray, List.set_cons_succ, List.set_cons_zero]
  refine wpAnyS_takeD 9 (some 23) (.bool bz) (by rfl) (by rfl) (by kernel_rfl) (by exact fun _ _ _ h => h) (by rfl) (fun w' hS => by go_simp) hHeld ?_
  simp only [Act.put, List.setIfInBounds_toArray, List.set_cons_succ, List.set_cons_zero]
  clear hHeld
  refine (show tailOf _ _ _ _ _ _ _ _ from ⟨by kernel_rfl, ?_⟩)
  simp only [List.drop_succ_cons, List.drop_zero]
  rw [decsF_one] at hR
  rcases hR with ⟨out, hso, rfl, hoz⟩ | ⟨hso, rfl⟩
  · have Hso := Lib.hid hso
    have hH6 := Lib.hid (H.out.below hw6)
    obtain ⟨⟨r0', r1'⟩, f0, f1⟩ := cellsM hH6.out.row
    obtain ⟨Az, cz, ez, _⟩ := id hoz.slOf
    obtain ⟨nz, hnz⟩ : ∃ z, out.length = z := ⟨_, rfl⟩
    rw [hnz] at ez
    have Hoz := Lib.hid hoz; have Hnz := Lib.hid hnz
    clear hso hoz hnz
    subst ez
    by_cases hf : 200 < nz
    · have t : decide ((200 : Int) < (nz : Int)) = true := by simp; omega
      have HE : Hid (makeE D d = 6) := Lib.hid (make_full HVd.out Hso.out (by rw [Hnz.out]; exact hf) H.out.lenD)
      clear hf
      go_wp2_with fail
      go_ret
      exact ⟨ret_i64 HE.out.symm, HNo.out _ hw6 (by rw [HE.out]; decide)⟩
    · have t : decide ((200 : Int) < (nz : Int)) = false := by simp; omega
      have HE := Lib.hid (make_okay HVd.out Hso.out (by rw [Hnz.out]; omega))
      clear hf
      go_wp2_with fail
      go_ret
      obtain ⟨k1, k2⟩ := hH6.out.putD Hoz.out (fun b hb => by have := H.out.lt b hb; have := hw5'.size; omega) (stepD_srt H.out.srtD Hso.out) (by have := Hnz.out; have := t; simp at this; omega)
      exact ⟨ret_i64 HE.out.1.symm, _, by rw [HE.out.2]; exact ⟨_, _, k1⟩, (touch_below hw6 T).trans k2, fun b hb => by
        rcases List.mem_append.1 hb with hb | hb
        · have := (Hoz.out.lt b (mem_blk.1 hb)).1; have := hw5'.size; exact .inr (by omega)
        · exact .inl hb⟩
  · have HE : Hid (makeE D d = 10) := Lib.hid (make_none HVd.out hso)
    clear hso
    go_wp2_with fail
    go_ret
    exact ⟨ret_i64 HE.out.symm, HNo.out _ hw6 (by rw [HE.out]; decide)⟩
end Go.Proofs.YthnckicnnhkkaaaGreat
/- The reference of layer 11: New, Withdraw, Standing, Made, Withdrawn. Condition: the ledger reads as such. -/
namespace Go.Proofs.YthnckicnnhkkaaaGreat
open Go.RowKit Go.Maps Go.Shelf

set_option maxHeartbeats 8000000 in
set_option maxRecDepth 100000 in
theorem rDraw_ok (T : List Nat) (q : Nat) (D : List Dec) (W : List Mrk) (d : Mrk) (w : World) (h : RLedA w T q D W) :
    Calls Tryz.prog 105 #[.pointer (some ⟨q, 0, none⟩), .agg #[.int .i64 d.au, .int .i64 d.nu]] w fun e w' =>
      e = .returned (.int .i64 (drawE W d)) ∧ ∃ T', RLedA w' T' q D (drawL W d) ∧ Touch w w' T ∧ ∀ b ∈ T', b ∈ T ∨ w.heap.size ≤ b := by
  have HNo : Hid (∀ w1, Below w.heap.size w w1 → drawE W d ≠ 0 → ∃ T', RLedA w1 T' q D (drawL W d) ∧ Touch w w1 T ∧ ∀ b ∈ T', b ∈ T ∨ w.heap.size ≤ b) := Lib.hid fun w1 hb he => ⟨T, by rw [drawL_no (.inl he)]; exact h.below hb, touch_below hb T, fun b hb => .inl hb⟩
  obtain ⟨vd, vw, h⟩ := h
  obtain ⟨X, hX, HzX, hbX, hltX, _⟩ := boxed w #[.int .i64 (d).au, .int .i64 (d).nu] 35
  have hkX : (X).heap[(w).heap.size]? = some (.cells [.int .i64 (d).au, .int .i64 (d).nu].toArray 35 (0, 0)) := by rw [← hX]; exact heap_alloc_new _ _
  have HX := Lib.hid (h.below hbX)
  have hV := bMark_ok d X
  have Hk := Lib.hid hkX
  obtain ⟨V, hVd⟩ : ∃ z, mrkB d = z := ⟨_, rfl⟩
  rw [hVd] at hV
  obtain ⟨⟨c0, c1⟩, _⟩ := cellsM hkX
  have HV := Lib.hid hV; have HVd := Lib.hid hVd; have H := Lib.hid h
  obtain ⟨Ad, cd, hvd, hld, hcd, _⟩ := (h.mrk).cells
  clear hkX hV hVd h
  cases V
  · have HE : Hid (drawE W d = 1) := Lib.hid (by rw [drawE, if_neg (by rw [HVd.out]; simp)])
    go_enter Tryz.func105, Tryz.ntmps105
    go_wp2_with fail
    refine HV.out.mono ?_
    rintro e w1 ⟨rfl, hb1⟩
    go_wp2_with fail
    go_ret
    exact ⟨ret_i64 HE.out.symm, HNo.out _ (below_trans hbX hb1) (by rw [HE.out]; decide)⟩
  subst hvd
  go_enter Tryz.func105, Tryz.ntmps105
  go_wp2_with fail
  refine HV.out.mono ?_
  rintro e w1 ⟨rfl, hb1⟩
  have hw1 := below_trans hbX hb1
  clear c0 c1 HV
  obtain ⟨⟨c0, c1⟩, _⟩ := cellsM (heap_below Hk.out hb1 (heap_lt Hk.out))
  obtain ⟨⟨r0, r1⟩, _⟩ := cellsM (H.out.below hw1).row
  go_wp2_with fail
  have hba : Below (w1).heap.size (w1) (w1).drew := (Below.refl _ _).drew
  obtain ⟨wa, hwa⟩ : ∃ W, (w1).drew = W := ⟨_, rfl⟩
  rw [hwa] at hba
  have HSt := Lib.hid fun (w9 : World) (hb : Below wa.heap.size wa w9) => (show (fun w' : World => Below wa.heap.size wa w' ∧ w'.cell? ⟨q, 1, none⟩ = some (.slice Ad W.length cd) ∧ w'.cell? ⟨w.heap.size, 0, none⟩ = some (.int .i64 d.au) ∧ w'.cell? ⟨w.heap.size, 1, none⟩ = some (.int .i64 d.nu)) w9 from ⟨hb, cell_later hb (cell_later hba r1), cell_later hb (cell_later hba c0), cell_later hb (cell_later hba c1)⟩)
  have hHeld := HSt.out wa (Below.refl _ _)
  refine wp_region_S 6 (fun w' : World => Below wa.heap.size wa w' ∧ w'.cell? ⟨q, 1, none⟩ = some (.slice Ad W.length cd) ∧ w'.cell? ⟨w.heap.size, 0, none⟩ = some (.int .i64 d.au) ∧ w'.cell? ⟨w.heap.size, 1, none⟩ = some (.int .i64 d.nu)) (by kernel_rfl) (by decide) ?_
  rw [hwa]
  clear hwa
  refine wpAnyS_takeD 0 (some 13) (.pointer (some ⟨q, 0, none⟩)) (by rfl) (by rfl) (by kernel_rfl) (by exact fun _ _ _ h => h) (by rfl) (fun w' hS => by go_simp) hHeld ?_
  simp only [Act.put, List.setIfInBounds_toArray, List.set_cons_succ, List.set_cons_zero]
  refine wpAnyS_takeD 1 (some 14) (.pointer (some ⟨q, 0, none⟩)) (by rfl) (by rfl) (by kernel_rfl) (by exact fun _ _ _ h => h) (by rfl) (fun w' hS => by go_simp) hHeld ?_
  simp only [Act.put, List.setIfInBounds_toArray, List.set_cons_succ, List.set_cons_zero]
  refine wpAnyS_takeD 2 (some 15) (.pointer (some ⟨q, 1, none⟩)) (by rfl) (by rfl) (by kernel_rfl) (by exact fun _ _ _ h => h) (by rfl) (fun w' hS => by go_simp) hHeld ?_
  simp only [Act.put, List.setIfInBounds_toArray, List.set_cons_succ, List.set_cons_zero]
  refine wpAnyS_takeD 3 (some 16) (.slice Ad W.length cd) (by rfl) (by rfl) (by kernel_rfl) (by exact fun _ _ _ h => h) (by rfl) (fun w' hS => by (obtain ⟨_, x0, _⟩ := hS; go_simp)) hHeld ?_
  simp only [Act.put, List.setIfInBounds_toArray, List.set_cons_succ, List.set_cons_zero]
  refine wpAnyS_takeD 4 (some 17) (.agg #[.int .i64 d.au, .int .i64 d.nu]) (by rfl) (by rfl) (by kernel_rfl) (by exact fun _ _ _ h => h) (by rfl) (fun w' hS => by (obtain ⟨_, _, x0, x1⟩ := hS; go_simp)) hHeld ?_
  simp only [Act.put, List.setIfInBounds_toArray, List.set_cons_succ, List.set_cons_zero]
  clear hHeld
  refine wpAnyS_one 5 (by kernel_rfl) (by rfl) (by decide) (fun K hK => ?_)
  have HK := Lib.hid hK; clear hK
  rw [if_pos (by rfl)]
  go_simp
  obtain ⟨w5, hw5⟩ : ∃ z, World.alloc wa (.cells #[.int .i64 d.au, .int .i64 d.nu] 35) = z := ⟨_, rfl⟩
  have hb5 : Below wa.heap.size wa w5 := by rw [← hw5]; exact (Below.refl _ _).alloc (Nat.le_refl _) _
  have hk5 : w5.heap[wa.heap.size]? = some (.cells (encMk d).toArray 35 (0, 0)) := by rw [← hw5]; exact heap_alloc_new _ _
  rw [hw5]
  refine HK.out _ _ (HSt.out _ hb5) ?_
  clear HK hw5
  have hw5' := below_trans hw1 (below_trans hba hb5)
  have HD := Lib.hid (marks_ok (.slice Ad W.length cd) (.slice (some ⟨wa.heap.size, 0, none⟩) 1 1) W [d] w5 (H.out.below hw5').mrk (own_unit lenMk hk5 (Nat.le_refl _)).slOf H.out.srtW (by have := H.out.lenW; omega) (by simp))
  clear hk5
  refine (show tailOf _ _ _ _ _ _ _ _ from ⟨by kernel_rfl, ?_⟩)
  simp only [List.drop_succ_cons, List.drop_zero]
  go_wp2_with fail
  refine HD.out.mono ?_
  rintro e w6 ⟨z, rfl, hoz, hb6⟩
  have hw6 := below_trans hw5' hb6
  have hoz : OwnMk w5.heap.size w6 z (stepM W d) := hoz
  have hH6 := Lib.hid (H.out.below hw6)
  obtain ⟨⟨r0', r1'⟩, f0, f1⟩ := cellsM hH6.out.row
  obtain ⟨Az, cz, ez, _⟩ := id hoz.slOf
  obtain ⟨nz, hnz⟩ : ∃ z, (stepM W d).length = z := ⟨_, rfl⟩
  rw [hnz] at ez
  have Hoz := Lib.hid hoz; have Hnz := Lib.hid hnz
  clear hoz hnz
  subst ez
  by_cases hf : 200 < nz
  · have t : decide ((200 : Int) < (nz : Int)) = true := by simp; omega
    have HE : Hid (drawE W d = 6) := Lib.hid (draw_full HVd.out (by rw [Hnz.out]; exact hf) H.out.lenW)
    clear hf
    go_wp2_with fail
    go_ret
    exact ⟨ret_i64 HE.out.symm, HNo.out _ hw6 (by rw [HE.out]; decide)⟩
  · have t : decide ((200 : Int) < (nz : Int)) = false := by simp; omega
    have HE := Lib.hid (draw_okay HVd.out (by rw [Hnz.out]; omega))
    clear hf
    go_wp2_with fail
    go_ret
    obtain ⟨k1, k2⟩ := hH6.out.putW Hoz.out (fun b hb => by have := H.out.lt b hb; have := hw5'.size; omega) (stepM_srt H.out.srtW d) (by have := Hnz.out; have := t; simp at this; omega)
    exact ⟨ret_i64 HE.out.1.symm, _, by rw [HE.out.2]; exact ⟨_, _, k1⟩, (touch_below hw6 T).trans k2, fun b hb => by
      rcases List.mem_append.1 hb with hb | hb
      · have := (Hoz.out.lt b (mem_blk.1 hb)).1; have := hw5'.size; exact .inr (by omega)
      · exact .inl hb⟩
set_option maxHeartbeats 2000000 in
theorem rNew_ok (w : World) : Calls Tryz.prog 49 #[] w fun e w' => ∃ q, e = .returned (.pointer (some ⟨q, 0, none⟩)) ∧ RLedA w' [q] q [] [] ∧ w.heap.size ≤ q ∧ Below w.heap.size w w' := by
  have HF : Hid (∀ w2, w.alloc (.cells #[.slice none 0 0, .slice none 0 0] 128) = w2 → RLedA w2 [w.heap.size] w.heap.size [] [] ∧ Below w.heap.size w w2) := Lib.hid fun w2 hw2 => by
    have hb : Below w.heap.size w w2 := by rw [← hw2]; exact (Below.refl _ _).alloc (Nat.le_refl _) _
    have hs : w2.heap.size = w.heap.size + 1 := by rw [← hw2]; simp
    exact ⟨⟨_, _, ⟨by rw [← hw2]; exact heap_alloc_new _ _, (own_nil (enc := encDc) (k := 5) (e := 33) 0 w2).slOf, (own_nil (enc := encMk) (k := 2) (e := 35) 0 w2).slOf, ⟨by simp, fun j hj => (by cases hj), fun j hj => (by cases hj)⟩, ⟨fun j hj => (by cases hj), fun j hj => (by cases hj)⟩, fun b hb' => by simp at hb'; omega, List.Pairwise.nil, List.Pairwise.nil, by simp, by simp⟩⟩, hb⟩
  go_enter Tryz.func49, Tryz.ntmps49
  go_wp2
  go_ret
  obtain ⟨h1, h2⟩ := HF.out _ rfl
  exact ⟨_, rfl, h1, Nat.le_refl _, h2⟩
set_option maxHeartbeats 2000000 in
theorem rMade_ok (T : List Nat) (q : Nat) (D : List Dec) (W : List Mrk) (w : World) (h : RLedA w T q D W) :
    Calls Tryz.prog 32 #[.pointer (some ⟨q, 0, none⟩)] w fun e w' => ∃ v, e = .returned v ∧ Decs w' v D ∧ Below w.heap.size w w' := by
  obtain ⟨vd, vw, h⟩ := h
  obtain ⟨⟨r0, r1⟩, _⟩ := cellsM h.row
  have H := Lib.hid h
  obtain ⟨Ad, cd, hvd, hld, hcd, _⟩ := (h.dec).cells
  subst hvd
  clear h
  go_enter Tryz.func32, Tryz.ntmps32
  go_wp2
  go_ret
  exact ⟨_, rfl, H.out.dec, Below.refl _ _⟩
set_option maxHeartbeats 2000000 in
theorem rDrawn_ok (T : List Nat) (q : Nat) (D : List Dec) (W : List Mrk) (w : World) (h : RLedA w T q D W) :
    Calls Tryz.prog 56 #[.pointer (some ⟨q, 0, none⟩)] w fun e w' => ∃ v, e = .returned v ∧ Mrks w' v W ∧ Below w.heap.size w w' := by
  obtain ⟨vd, vw, h⟩ := h
  obtain ⟨⟨r0, r1⟩, _⟩ := cellsM h.row
  have H := Lib.hid h
  obtain ⟨Ad, cd, hvd, hld, hcd, _⟩ := (h.mrk).cells
  subst hvd
  clear h
  go_enter Tryz.func56, Tryz.ntmps56
  go_wp2
  go_ret
  exact ⟨_, rfl, H.out.mrk, Below.refl _ _⟩
theorem stand_step {D : List Dec} {W : List Mrk} {k : Nat} {d : Dec} (hd : D[k]? = some d) : standL (D.take (k + 1)) W = standL (D.take k) W ++ (if mkOf d ∈ W then [] else [d]) := by
  rw [take_snoc' hd]
  unfold standL
  rw [List.filter_append]
  by_cases h : mkOf d ∈ W <;> simp [h]
theorem mem_step {W : List Mrk} {k : Nat} {m x : Mrk} (hm : W[k]? = some m) : decide (x ∈ W.take (k + 1)) = (decide (x ∈ W.take k) || decide (m = x)) := by
  rw [take_snoc' hm, Bool.eq_iff_iff]
  simp only [Bool.or_eq_true, decide_eq_true_eq, List.mem_append, List.mem_singleton]
  exact ⟨fun h => h.imp id Eq.symm, fun h => h.imp id Eq.symm⟩
set_option maxHeartbeats 16000000 in
set_option maxRecDepth 100000 in
theorem rStand_ok (T : List Nat) (q : Nat) (D : List Dec) (W : List Mrk) (w : World) (h : RLedA w T q D W) :
    Calls Tryz.prog 34 #[.pointer (some ⟨q, 0, none⟩)] w fun e w' => ∃ v, e = .returned v ∧ OwnDc w.heap.size w' v (standL D W) ∧ Below w.heap.size w w' := by
  obtain ⟨vd, vw, h⟩ := h
  obtain ⟨⟨r0, r1⟩, _⟩ := cellsM h.row
  obtain ⟨Ad, cd, rfl, hld, hcd, hcl⟩ := (h.dec).cells
  obtain ⟨Am, cm, rfl, hlm, hcm, hcm2⟩ := (h.mrk).cells
  obtain ⟨iD, hiD, hzD, hkD, hbD⟩ := info_parts infoDc
  have HD := Lib.hid hcl; have HM := Lib.hid hcm2
  have R0 := Lib.hid r0; have R1 := Lib.hid r1
  have qm := fun (o : Mrk) (d : Dec) (w : World) => (show (binOp .eql 35 (.agg #[.int .i64 o.au, .int .i64 o.nu]) (.agg #[.int .i64 d.au, .int .i64 d.nu])).run Tryz.prog w = .ok (.bool (eqB o (mkOf d))) w from eqlMrk_ o (mkOf d) w)
  have hlD : D.length ≤ 200 := h.lenD
  clear h hcl hcm2 r0 r1
  go_enter Tryz.func34, Tryz.ntmps34
  go_wp2
  go_loopw [3, 4] (fun t3 t4 wr => ∃ (i : Nat) (v : Value), i ≤ D.length ∧ t3 = v ∧ t4 = .int .i64 i ∧ OwnDc w.heap.size wr v (standL (D.take i) W) ∧ Below w.heap.size w wr) (fun _ t _ => D.length - (intOf t).toNat)
  case atStart => exact ⟨0, _, Nat.zero_le _, rfl, rfl, own_nil _ _ _ _ _, Below.refl _ _⟩
  case round =>
    obtain ⟨i, v, hi, rfl, rfl, hown, hb⟩ := hrel
    have q0 := cell_later hb R0.out; have q1 := cell_later hb R1.out
    obtain ⟨A8, c8, e8, _⟩ := id hown.slOf
    subst e8
    by_cases hlt : i < D.length
    · obtain ⟨d, hd⟩ := get_of_lt hlt
      obtain ⟨db, dof, rfl, _, hcc⟩ := HD.out _ (lt_of_get hd)
      have Hcc := Lib.hid fun (w9 : World) (hb9 : Below w.heap.size w w9) => hcc w9 hb9 i d hd
      have HO := Lib.hid hown; have Hd := Lib.hid hd
      have hl1 : (i : Int) < (D.length : Int) := by omega
      have hb0 := hb
      clear hcc hown hd
      generalize hwo : wr = wo at *
      clear hwo wr
      go_wp2
      go_loopw [5, 6] (fun t5 t6 wr => ∃ k : Nat, k ≤ W.length ∧ t5 = .bool (decide (mkOf d ∈ W.take k)) ∧ t6 = .int .i64 k ∧ Below wo.heap.size wo wr) (fun _ t _ => W.length - (intOf t).toNat)
      case atStart => exact ⟨0, Nat.zero_le _, by simp, rfl, Below.refl _ _⟩
      case round =>
        obtain ⟨k, hk, rfl, rfl, hbk⟩ := hrel
        have hbw := below_trans hb0 hbk
        have p0 := cell_later hbw R0.out; have p1 := cell_later hbw R1.out
        obtain ⟨T1, hT1⟩ : ∃ z, decide (mkOf d ∈ W.take k) = z := ⟨_, rfl⟩
        rw [hT1]
        have HT1 := Lib.hid hT1
        clear hT1 q0 q1
        obtain ⟨y0, y1, y2, y3, y4⟩ := Hcc.out wr hbw
        by_cases hlk : k < W.length
        · obtain ⟨m, hm⟩ := get_of_lt hlk
          obtain ⟨ma, mo, rfl, _, hcm⟩ := HM.out _ (lt_of_get hm)
          obtain ⟨x0, x1⟩ := hcm wr hbw k m hm
          have Hst := Lib.hid (mem_step (x := mkOf d) hm)
          have hl2 : (k : Int) < (W.length : Int) := by omega
          have H1 := Lib.hid fun (y : Later wr) => rmark_ok d y.to
          have X0 := Later.cell_all x0; have X1 := Later.cell_all x1
          have Y0 := Later.cell_all y0; have Y1 := Later.cell_all y1; have Y2 := Later.cell_all y2; have Y3 := Later.cell_all y3; have Y4 := Later.cell_all y4
          have P0 := Later.cell_all p0; have P1 := Later.cell_all p1
          have qmd := qm m d
          clear hcm x0 x1 y0 y1 y2 y3 y4 hm
          cases T1
          · have HR : Hid (decide (mkOf d ∈ W.take (k + 1)) = eqB m (mkOf d)) := by show _ = _; rw [Hst.out, HT1.out, Bool.false_or]; rfl
            go_wp2
            refine wp_region_later (by kernel_rfl) (by kernel_rfl) ?_
            repeat (go_big_quiet_step (first | (go_at_call 86; with_reducible exact calls_later (H1.out _))))
            refine wpQuiet_nil ?_
            intro _ hw'
            obtain ⟨xq, hw''⟩ := hw'
            subst hw''
            have hbc := xq.h
            generalize xq.to = wc at hbc ⊢
            clear X0 X1 Y0 Y1 Y2 Y3 Y4 P0 P1
            go_wp2
            refine ⟨?rel, ?measure⟩
            case rel => exact ⟨k + 1, by omega, by rw [HR.out], by go_num, below_trans hbk hbc⟩
            case measure => simp [intOf]; omega
          · have HR : Hid (decide (mkOf d ∈ W.take (k + 1)) = true) := by show _ = _; rw [Hst.out, HT1.out]; simp
            go_wp2
            refine wp_region_later (by kernel_rfl) (by kernel_rfl) ?_
            repeat (go_big_quiet_step (first | (go_at_call 86; with_reducible exact calls_later (H1.out _))))
            refine wpQuiet_nil ?_
            intro _ hw'
            obtain ⟨xq, hw''⟩ := hw'
            subst hw''
            have hbc := xq.h
            generalize xq.to = wc at hbc ⊢
            clear X0 X1 Y0 Y1 Y2 Y3 Y4 P0 P1
            go_wp2
            refine ⟨?rel, ?measure⟩
            case rel => exact ⟨k + 1, by omega, by rw [HR.out], by go_num, below_trans hbk hbc⟩
            case measure => simp [intOf]; omega
        · have he : W.take k = W := List.take_of_length_le (by omega)
          have HT2 : Hid (decide (mkOf d ∈ W) = T1) := by have := HT1.out; rw [he] at this; exact this
          clear he
          have hOk := Lib.hid (HO.out.below hbk)
          cases T1
          · have hS : standL (D.take (i + 1)) W = standL (D.take i) W ++ [d] := by
              rw [stand_step Hd.out, if_neg (by have := HT2.out; simpa using this)]
            have HS := Lib.hid hS
            have hrl : (standL (D.take i) W).length ≤ i := Nat.le_trans (List.length_filter_le _ _) (by rw [List.length_take]; omega)
            have hzz : w.heap.size ≤ wr.heap.size := hbw.size
            have hl1' : (i : Int) < (D.length : Int) := by omega
            clear hS
            go_wp2_with (at_builtin; refine wpList_append1 (enc := encDc) (size := 5) (B := w.heap.size) rfl (.tmp 48) (.tmp 56) _ rfl 33 iD _ 40 Tryz.underlying48 hiD hzD hkD hbD rfl (by decide) rfl hOk.out (d : Dec) _ rfl lenDc oneDc _ rfl rfl (by omega) (by omega) (by omega) ?_; intro v' wq hown' hgrow hat)
            obtain ⟨Av, cv9, rfl, _⟩ := id hown'.slOf
            rw [← HS.out] at hown'
            have HOq := Lib.hid hown'; have HGq := Lib.hid hgrow
            have e9 := congrArg List.length HS.out
            rw [← e9]
            clear hown' hgrow hat e9
            go_wp2
            refine ⟨?rel, ?measure⟩
            case rel => exact ⟨i + 1, _, by omega, rfl, by go_num, HOq.out, hbw.grown HGq.out hzz (fun j e => (hOk.out.lt j e).1)⟩
            case measure => simp [intOf]; omega
          · have hS : standL (D.take (i + 1)) W = standL (D.take i) W := by
              rw [stand_step Hd.out, if_pos (by have := HT2.out; simpa using this), List.append_nil]
            have HS := Lib.hid hS
            clear hS
            go_wp2
            refine ⟨?rel, ?measure⟩
            case rel => exact ⟨i + 1, _, by omega, rfl, by go_num, by rw [HS.out]; exact hOk.out, hbw⟩
            case measure => simp [intOf]; omega
    · have he : D.take i = D := List.take_of_length_le (by omega)
      rw [he] at hown ⊢
      have HO := Lib.hid hown
      clear he hown
      go_wp2
      go_ret
      exact ⟨_, rfl, HO.out, hb⟩
end Go.Proofs.YthnckicnnhkkaaaGreat
