/- slices.Delete of one specimen, slices.Insert of one specimen. Condition: the slice is the call's own. -/
import Derived.Test.YthnckicnnhkkaaaGreatCovT
import Derived.Deep.RegionLaw
import Derived.Test.YthnckicnnhkkaaaGreatCorP
import Derived.Test.YthnckicnnhkkaaaGreatShelf
import Derived.Test.YthnckicnnhkkaaaGreatSpecA
namespace Go.Proofs.YthnckicnnhkkaaaGreat
open Go.RowKit Go.Maps Go.Shelf

/-- The block of a slice. -/
def blk (v : Value) : List Nat := v.ownBlock.toList
theorem mem_blk {v : Value} {j : Nat} : j ∈ blk v ↔ v.ownBlock = some j := by unfold blk; cases v.ownBlock <;> simp [eq_comm]
theorem blk_some (g o n c : Nat) : blk (.slice (some ⟨g, o, none⟩) n c) = [g] := rfl
def zeroSp : Value := .agg #[.int .i64 0, .int .i64 0, .int .i64 0, .int .i64 0, .int .i64 0, .int .i64 0, .int .i64 0]
theorem zeroSp_run (w : World) : (zeroValue 31).run Tryz.prog w = .ok zeroSp w := by unfold zeroSp; kernel_rfl
theorem setCells_touch (g o : Nat) (vs : List Value) (w : World) : Touch w (w.setCells g o vs) [g] := grown_touch (setCells_grown g vs w o) (by simp)
theorem drew_touch (w : World) (S : List Nat) : Touch w w.drew S := ⟨rfl, rfl, rfl, Nat.le_refl _, fun _ _ _ => rfl⟩
set_option maxHeartbeats 8000000 in
set_option maxRecDepth 100000 in
theorem deleteAt_ok (g cap i : Nat) (l : List Spec) (w : World) (h : OwnS 0 w (.slice (some ⟨g, 0, none⟩) l.length cap) l) (hi : i < l.length) (hl : l.length ≤ 1000) :
    Calls Tryz.prog 100 #[.slice (some ⟨g, 0, none⟩) l.length cap, .int .i64 i, .int .i64 ((i : Int) + 1)] w fun e w' =>
      e = .returned (.slice (some ⟨g, 0, none⟩) (l.length - 1) cap) ∧ OwnS 0 w' (.slice (some ⟨g, 0, none⟩) (l.length - 1) cap) (l.take i ++ l.drop (i + 1)) ∧ Touch w w' [g] := by
  obtain ⟨cur, _, hg, h1, h2, h3, h4⟩ := h.row rfl
  obtain ⟨i0, hi0, hz0, hk0, hb0⟩ := info_parts infoS
  obtain ⟨news, hnews⟩ : ∃ z, z = (l.drop (i + 1)).flatMap encS := ⟨_, rfl⟩
  have hlen : news.length = (l.length - (i + 1)) * 7 := by rw [hnews, flat_len encS 7 lenS, List.length_drop]
  obtain ⟨A, hA, hsrc⟩ : ∃ A : Addr, (if cap = i + 1 then (some (⟨g, 0, none⟩ : Addr)) else some ⟨g, (i + 1) * 7, none⟩) = some A ∧ Hid (∀ t u, news[t]? = some u → w.drew.cell? (A.add t) = some u) := by
    by_cases hc : cap = i + 1
    · refine ⟨⟨g, 0, none⟩, by simp [hc], fun t u hu => ?_⟩
      have h0 : news.length = 0 := by rw [hlen, show l.length - (i + 1) = 0 by omega]
      rw [List.length_eq_zero_iff.1 h0] at hu
      simp at hu
    · refine ⟨⟨g, (i + 1) * 7, none⟩, by simp [hc], fun t u hu => ?_⟩
      rw [hnews, flat_drop_get lenS] at hu
      rw [Addr.add_lit]
      exact h.cell_at lenS rfl hu
  have s1 : Hid (news.length = (l.length - (i + 1)) * 7) := hlen
  have s2 : Hid (∀ u ∈ news, u.oneCell' = true) := by
    intro u hu
    rw [hnews] at hu
    obtain ⟨x, _, hx⟩ := List.mem_flatMap.1 hu
    exact oneS x u hx
  have s3 : Hid (∀ t, t < news.length → (w.drew.cell? ⟨g, 0 + i * 7 + t, none⟩).isSome = true ∧ w.drew.frozen? ⟨g, 0 + i * 7 + t, none⟩ = false) := by
    intro t ht
    rw [hlen] at ht
    exact h.cell_lt rfl (by omega)
  obtain ⟨W1, hW1⟩ : ∃ W1, W1 = w.drew.setCells g (0 + i * 7) news := ⟨_, rfl⟩
  have own1 : OwnS 0 W1 (.slice (some ⟨g, 0, none⟩) (i + (l.length - (i + 1))) cap) (l.take i ++ l.drop (i + 1)) := by
    have := (show OwnS 0 w.drew _ _ from h).over lenS rfl (i := i) (ys := l.drop (i + 1)) (by omega) (by rw [List.length_drop]; omega)
    rw [List.length_drop, ← hnews, ← Nat.zero_add (i * 7), ← hW1] at this
    exact this
  have hcl := fun ty => run_clear_rows (P := Tryz.prog) W1 51 31 ty zeroSp Tryz.underlying51 zeroSp_run (by simp [zeroSp, Value.cells, Value.oneCell']) g ((i + (l.length - (i + 1))) * 7) (l.length - (i + (l.length - (i + 1)))) (cap - (i + (l.length - (i + 1)))) (by omega)
    (fun t ht => (own1.cell_lt (by simp; omega) (by simp [zeroSp, Value.cells] at ht; omega)).1) (fun t ht => (own1.cell_lt (by simp; omega) (by simp [zeroSp, Value.cells] at ht; omega)).2)
  obtain ⟨Z, hZ⟩ : ∃ Z, (Builtin.zeroCells zeroSp.cells (l.length - (i + (l.length - (i + 1))))).toList = Z := ⟨_, rfl⟩
  have hZl : Z.length = (l.length - (i + (l.length - (i + 1)))) * 7 := by rw [← hZ, zeros_len]; rfl
  simp only [hZ] at hcl
  have HF : Hid (OwnS 0 (W1.setCells g ((i + (l.length - (i + 1))) * 7) Z) (.slice (some ⟨g, 0, none⟩) (l.length - 1) cap) (l.take i ++ l.drop (i + 1)) ∧ Touch w (W1.setCells g ((i + (l.length - (i + 1))) * 7) Z) [g]) := Lib.hid (by
    refine ⟨?_, ?_⟩
    · have := own1.putTail lenS (by simp; omega) (o := (i + (l.length - (i + 1))) * 7) (Nat.le_refl _) Z (by rw [hZl]; omega)
      rw [show i + (l.length - (i + 1)) = l.length - 1 by omega] at this ⊢
      exact this
    · rw [hW1]
      exact ((drew_touch w [g]).trans (setCells_touch _ _ _ _)).trans (setCells_touch _ _ _ _))
  have hW : Hid (W1 = w.drew.setCells g (0 + i * 7) news) := hW1
  have hr1 : Hid (i + (l.length - (i + 1)) = l.length - 1) := Lib.hid (by omega)
  have hic : i ≤ cap := by omega
  have hjc : i + 1 ≤ cap := by omega
  have hmx' : (cap : Int) ≤ 9223372036854775807 := by simp only [maxLen] at h2; omega
  have e1 : ((i : Int) == (i : Int) + 1) = false := by simp <;> omega
  have e2 : ((i : Int) + 1).toNat = i + 1 := by omega
  have e3 : (i : Int) ≤ (i : Int) + 1 := by omega
  have e4 : (i : Int) + 1 ≤ (l.length : Int) := by omega
  have e5 : (0 : Int) ≤ (i : Int) + 1 := by omega
  have e6 : (l.length : Int) ≤ (cap : Int) := by omega
  clear hW1 own1 hnews hlen hZ hZl h h4 hg h3
  go_enter Tryz.func100, Tryz.ntmps100
  go_wp2_with fail
  go_region_law (refine step_append_room rfl (.tmp 22) (.tmp 25) 51 rfl 31 i0 7 Tryz.underlying51 hi0 hk0 g 0 i cap (by simp [Act.eval, Act.put]) A (l.length - (i + 1)) (cap - (i + 1)) news (by simp [Act.eval, Act.put]) s1.out hsrc.out s2.out (by omega) s3.out ?_; rw [← hW.out])
  go_wp2
  go_ret
  refine ⟨?_, HF.out.1, HF.out.2⟩
  rw [← hr1.out]
  rfl

set_option maxHeartbeats 8000000 in
set_option maxRecDepth 100000 in
theorem insertEnd_ok (v : Value) (l : List Spec) (s : Spec) (vb : Nat) (w : World) (h : OwnS 0 w v l) (hl : l.length ≤ 1000) (hv : w.heap[vb]? = some (.cells (encS s).toArray 31 (0, 0))) :
    Calls Tryz.prog 72 #[v, .int .i64 l.length, .slice (some ⟨vb, 0, none⟩) 1 1] w fun e w' => ∃ u, e = .returned u ∧ OwnS 0 w' u (l ++ [s]) ∧ Touch w w' (blk v) ∧ (u.ownBlock = v.ownBlock ∨ u.ownBlock = some w.heap.size) := by
  obtain ⟨i0, hi0, hz0, hk0, hb0⟩ := info_parts infoS
  have hsl : Sl w 7 (some ⟨vb, 0, none⟩) [s].length ([s].flatMap encS) := sl_one rfl hv
  have hcap : ∃ A c, v = .slice A l.length c ∧ (A = none → l.length = 0) ∧ l.length ≤ c ∧ (c : Int) ≤ 9223372036854775807 := by
    rcases h.cases with ⟨rfl, rfl⟩ | ⟨g, cap, rfl, _, _, h1, h2⟩
    · exact ⟨none, 0, rfl, fun _ => rfl, by simp, by omega⟩
    · exact ⟨some ⟨g, 0, none⟩, cap, rfl, by simp, h1, by simp only [maxLen] at h2; omega⟩
  obtain ⟨A, c, rfl, hA, hlc, hcm⟩ := hcap
  have e1 : (l.length : Int) ≤ (c : Int) := by omega
  have HF : Hid (∀ w', w.grownBy w' (Value.slice A l.length c).ownBlock → Touch w w' (blk (.slice A l.length c))) := Lib.hid (fun w' hg => by
    unfold blk
    cases hb : (Value.slice A l.length c).ownBlock with
    | none => rw [hb] at hg; exact ⟨hg.os, hg.tape, hg.output, hg.size, fun i hi _ => hg.block i hi (by simp)⟩
    | some g => rw [hb] at hg; exact grown_touch hg (by simp))
  clear hA
  cases A with
  | none =>
    go_enter Tryz.func72, Tryz.ntmps72
    go_wp2_with (at_builtin; refine wpList_append_sl rfl (.tmp 23) (.tmp 24) _ rfl i0 _ 56 Tryz.underlying51 hi0 hz0 hk0 hb0 rfl (by decide) oneS rfl h _ _ _ [s] rfl rfl hsl (by simp; omega) (by simp; omega) (Nat.zero_le _) ?_; intro v' w' ho hg ha)
    go_ret
    exact ⟨_, rfl, ho, HF.out _ hg, ha⟩
  | some a =>
    obtain ⟨ab, ao, asp⟩ := a
    go_enter Tryz.func72, Tryz.ntmps72
    go_wp2_with (at_builtin; refine wpList_append_sl rfl (.tmp 23) (.tmp 24) _ rfl i0 _ 56 Tryz.underlying51 hi0 hz0 hk0 hb0 rfl (by decide) oneS rfl h _ _ _ [s] rfl rfl hsl (by simp; omega) (by simp; omega) (Nat.zero_le _) ?_; intro v' w' ho hg ha)
    all_goals
      go_ret
      exact ⟨_, rfl, ho, HF.out _ hg, ha⟩

set_option maxHeartbeats 8000000 in
set_option maxRecDepth 100000 in
theorem insertShift_ok (g cap i : Nat) (l : List Spec) (s : Spec) (vb : Nat) (w : World) (h : OwnS 0 w (.slice (some ⟨g, 0, none⟩) l.length cap) l) (hi : i < l.length) (hroom : l.length + 1 ≤ cap) (hne : vb ≠ g)
    (hv : w.heap[vb]? = some (.cells (encS s).toArray 31 (0, 0))) :
    Calls Tryz.prog 72 #[.slice (some ⟨g, 0, none⟩) l.length cap, .int .i64 i, .slice (some ⟨vb, 0, none⟩) 1 1] w fun e w' =>
      e = .returned (.slice (some ⟨g, 0, none⟩) (l.length + 1) cap) ∧ OwnS 0 w' (.slice (some ⟨g, 0, none⟩) (l.length + 1) cap) (l.take i ++ s :: l.drop i) ∧ Touch w w' [g] := by
  obtain ⟨cur, _, hg, h1, h2, h3, h4⟩ := h.row rfl
  obtain ⟨i0, hi0, hz0, hk0, hb0⟩ := info_parts infoS
  have hsz : (Tryz.prog.info? 31).map (·.size) = some 7 := by rw [hi0]; simp [hk0]
  have hov : ∀ lb cb, (callFunc 119 #[.slice (some ⟨vb, 0, none⟩) 1 1, .slice (some ⟨g, (i + 1) * 7, none⟩) lb cb]).run Tryz.prog w = .ok (.value (.bool false)) w := fun lb cb => by
    rw [run_callFunc_extern Tryz.func119 (by kernel_rfl) (by kernel_rfl) (by kernel_rfl) (e := Extern.SlicesOverlaps.overlaps #[51, 51] #[4]) (by kernel_rfl),
      Lib.run_overlaps_apart w 51 4 31 Tryz.underlying51 7 Tryz.sizeOf31 ⟨vb, 0, none⟩ ⟨g, (i + 1) * 7, none⟩ 1 1 lb cb hne 31 31 (encS s).toArray.size cur.size (by simp [World.shape?, hv]) (by simp [World.shape?, hg]) (by omega) (heap_free hv) (heap_free hv)]
    rfl
  obtain ⟨news, hnews⟩ : ∃ z, z = (l.drop i).flatMap encS := ⟨_, rfl⟩
  have hlen : news.length = (l.length - i) * 7 := by rw [hnews, flat_len encS 7 lenS, List.length_drop]
  have hone : ∀ u ∈ news, u.oneCell' = true := by
    intro u hu
    rw [hnews] at hu
    obtain ⟨x, _, hx⟩ := List.mem_flatMap.1 hu
    exact oneS x u hx
  have hcp1 : ∀ ty dc sc, (Builtin.copy_ #[51, 51] ty #[.slice (some ⟨g, (i + 1) * 7, none⟩) (l.length + 1 - (i + 1)) dc, .slice (some ⟨g, i * 7, none⟩) (l.length + 1 - i) sc]).run Tryz.prog w.drew = .ok (goInt ((l.length - i : Nat))) (w.drew.setCells g ((i + 1) * 7) news) := fun ty dc sc =>
    run_copy_rows w.drew _ _ ty 31 7 g ((i + 1) * 7) (l.length + 1 - (i + 1)) dc ⟨g, i * 7, none⟩ (l.length + 1 - i) sc (l.length - i) news Tryz.underlying51 hsz (by simp only [Nat.min_def]; split <;> omega) hlen
      (fun j v hj => by rw [Addr.add_lit]; rw [hnews, flat_drop_get lenS] at hj; exact h.cell_at lenS rfl hj)
      (fun j hj => (h.cell_lt rfl (by omega)).1) (fun j hj => (h.cell_lt rfl (by omega)).2) hone
  obtain ⟨W1, hW1⟩ : ∃ W1, W1 = w.drew.setCells g ((i + 1) * 7) news := ⟨_, rfl⟩
  have own1 : OwnS 0 W1 (.slice (some ⟨g, 0, none⟩) (l.length + 1) cap) (l.take (i + 1) ++ l.drop i) := by
    have := (show OwnS 0 w.drew _ _ from h).over lenS rfl (i := i + 1) (ys := l.drop i) (by omega) (by rw [List.length_drop]; omega)
    rw [List.length_drop, ← hnews, ← hW1, show i + 1 + (l.length - i) = l.length + 1 by omega] at this
    exact this
  have hv1 : W1.heap[vb]? = some (.cells (encS s).toArray 31 (0, 0)) := by
    rw [hW1]
    exact ((setCells_grown g news w.drew ((i + 1) * 7)).block vb (heap_lt hv) (by simpa using hne)).trans hv
  have own1l : (l.take (i + 1) ++ l.drop i).length = l.length + 1 := by simp; omega
  have hcp2 : ∀ ty dc, (Builtin.copy_ #[51, 51] ty #[.slice (some ⟨g, i * 7, none⟩) (l.length + 1 - i) dc, .slice (some ⟨vb, 0, none⟩) 1 1]).run Tryz.prog W1 = .ok (goInt 1) (W1.setCells g (i * 7) (encS s)) := fun ty dc =>
    run_copy_rows W1 _ _ ty 31 7 g (i * 7) (l.length + 1 - i) dc ⟨vb, 0, none⟩ 1 1 1 (encS s) Tryz.underlying51 hsz (by simp only [Nat.min_def]; split <;> omega) rfl
      (fun j v hj => by rw [Addr.add_lit, heap_cell hv1]; simpa using hj)
      (fun j hj => (own1.cell_lt own1l.symm (by rw [lenS] at hj; omega)).1) (fun j hj => (own1.cell_lt own1l.symm (by rw [lenS] at hj; omega)).2) (oneS s)
  have HF : Hid (OwnS 0 (W1.setCells g (i * 7) (encS s)) (.slice (some ⟨g, 0, none⟩) (l.length + 1) cap) (l.take i ++ s :: l.drop i) ∧ Touch w (W1.setCells g (i * 7) (encS s)) [g]) := Lib.hid (by
    refine ⟨?_, ?_⟩
    · have h5 := own1.put lenS (by omega) own1l.symm (i := i) (by omega) s
      have e : (l.take (i + 1) ++ l.drop i).set i s = l.take i ++ s :: l.drop i := by
        obtain ⟨x, hx⟩ := get_of_lt hi
        rw [take_snoc' hx, List.append_assoc, List.set_append_right _ _ (by simp; omega)]
        simp [show i - min i l.length = 0 by omega]
      rw [e] at h5
      exact h5
    · rw [hW1]
      exact ((drew_touch w [g]).trans (setCells_touch _ _ _ _)).trans (setCells_touch _ _ _ _))
  have hW : Hid (W1 = w.drew.setCells g ((i + 1) * 7) news) := hW1
  rw [← hW1] at hcp1
  have e1 : ((i : Int) == (l.length : Int)) = false := by simp <;> omega
  have e2 : ((i : Int) + 1).toNat = i + 1 := by omega
  have e3 : (i : Int) ≤ (l.length : Int) + 1 := by omega
  have e4 : (i : Int) + 1 ≤ (l.length : Int) + 1 := by omega
  have e5 : (0 : Int) ≤ (i : Int) + 1 := by omega
  have e6 : (l.length : Int) + 1 ≤ (cap : Int) := by omega
  have e7 : ¬ (cap = i) := by omega
  have e8 : ¬ (cap = i + 1) := by omega
  have e9 : decide ((cap : Int) < (l.length : Int) + 1) = false := by simp; omega
  have e10 : (i : Int) ≤ (l.length : Int) := by omega
  have e11 : ((l.length : Int) + 1).toNat = l.length + 1 := by omega
  have e12 : (cap : Int) ≤ 9223372036854775807 := by simp only [maxLen] at h2; omega
  have e13 : IntKind.i64.wrap ((i : Int) + 1) = (i : Int) + 1 := by rw [IntKind.wrap_i64]; simp only [maxLen] at h2; omega
  clear hW1 own1 own1l hnews hlen h h4 hg h3 hv hv1 hone
  go_enter Tryz.func72, Tryz.ntmps72
  go_wp2_with (simp only [hov])
  go_region_law (refine step_copy_runI rfl _ _ 51 51 rfl (.slice (some ⟨g, (i + 1) * 7, none⟩) (l.length + 1 - (i + 1)) (cap - (i + 1))) (.slice (some ⟨g, i * 7, none⟩) (l.length + 1 - i) (cap - i)) (by simp [Act.eval, Act.put]) (by simp [Act.eval, Act.put]) (hcp1 _ _ _) ?_)
  go_wp2_with (at_builtin; refine wpList_copy_runI _ rfl _ _ 51 51 rfl _ _ rfl rfl (hcp2 _ _) ?_)
  go_ret
  exact ⟨rfl, HF.out.1, HF.out.2⟩
end Go.Proofs.YthnckicnnhkkaaaGreat
/- slices.Insert of one specimen into a new row. Condition: the slice is the call's own. -/
namespace Go.Proofs.YthnckicnnhkkaaaGreat
open Go.RowKit Go.Maps Go.Shelf

set_option maxHeartbeats 8000000 in
set_option maxRecDepth 100000 in
theorem insertGrow_ok (g cap i : Nat) (l : List Spec) (s : Spec) (vb : Nat) (w : World) (h : OwnS 0 w (.slice (some ⟨g, 0, none⟩) l.length cap) l) (hi : i < l.length) (hl : l.length ≤ 1000) (hroom : cap < l.length + 1)
    (hv : w.heap[vb]? = some (.cells (encS s).toArray 31 (0, 0))) :
    Calls Tryz.prog 72 #[.slice (some ⟨g, 0, none⟩) l.length cap, .int .i64 i, .slice (some ⟨vb, 0, none⟩) 1 1] w fun e w' => ∃ G,
      e = .returned (.slice (some ⟨w.heap.size, 0, none⟩) (l.length + 1) G) ∧ OwnS 0 w' (.slice (some ⟨w.heap.size, 0, none⟩) (l.length + 1) G) (l.take i ++ s :: l.drop i) ∧ Touch w w' [] := by
  obtain ⟨cur, _, hg, h1, h2, h3, h4⟩ := h.row rfl
  obtain ⟨vs, hvs⟩ : ∃ z, z = encS s := ⟨_, rfl⟩
  have hvl : vs.length = 7 := by rw [hvs]; rfl
  have hv1' : ∀ v ∈ vs, v.oneCell' = true := by rw [hvs]; exact oneS s
  rw [← hvs] at hv
  obtain ⟨i0, hi0, hz0, hk0, hb0⟩ := info_parts infoS
  have hz0 : i0.zero = some zeroSp := hz0
  have hsz : (Tryz.prog.info? 31).map (·.size) = some 7 := by rw [hi0]; simp [hk0]
  have hkk : (l.length : Int) + 1 - (i : Int) = ((l.length + 1 - i : Nat) : Int) := by omega
  have hik : i + (l.length + 1 - i) = l.length + 1 := by omega
  obtain ⟨olds, holds⟩ : ∃ z, z = (l.take i).flatMap encS := ⟨_, rfl⟩
  have hol : olds.length = i * 7 := by rw [holds, flat_len encS 7 lenS, List.length_take, Nat.min_eq_left (by omega)]
  have hold : (Builtin.firstCells i0.size i (.slice (some ⟨g, 0, none⟩) i cap)).run Tryz.prog w.drew = .ok olds.toArray w.drew := by
    rw [hk0]
    exact run_firstCells_some w.drew 7 i ⟨g, 0, none⟩ i cap olds hol (fun j v hj => by
      rw [Addr.add_lit, Nat.zero_add]
      rw [holds, flat_take encS 7 lenS, List.getElem?_take] at hj
      split at hj
      · exact h.cell_at lenS rfl hj
      · cases hj)
  obtain ⟨G, hG⟩ : ∃ G, G = grownCap w (l.length + 1) cap 31 := ⟨_, rfl⟩
  have hGn : l.length + 1 ≤ G := by rw [hG]; exact grownCap_ge w _ _ _
  have hGm : G ≤ maxLen := by rw [hG]; exact grownCap_le_maxLen w _ _ _ (by simp only [maxLen]; omega)
  obtain ⟨ROW, hROW⟩ : ∃ ROW : Array Value, ROW = olds.toArray ++ Builtin.zeroCells zeroSp.cells (l.length + 1 - i) ++ Builtin.zeroCells zeroSp.cells (G - (l.length + 1)) := ⟨_, rfl⟩
  have hRs : ROW.size = G * 7 := by
    have z1 := zeros_len zeroSp.cells (l.length + 1 - i); have z2 := zeros_len zeroSp.cells (G - (l.length + 1))
    rw [show zeroSp.cells.size = 7 from rfl] at z1 z2
    rw [hROW, Array.size_append, Array.size_append, ← Array.length_toList (xs := Builtin.zeroCells zeroSp.cells (l.length + 1 - i)), ← Array.length_toList (xs := Builtin.zeroCells zeroSp.cells (G - (l.length + 1))), z1, z2]
    simp only [List.size_toArray, hol]
    omega
  have hrz : ∀ ty, (Builtin.append_ #[51, 3] ty #[.slice (some ⟨g, 0, none⟩) i cap, .int .i64 ((l.length : Int) + 1 - (i : Int))]).run Tryz.prog w =
      .ok (.slice (some ⟨w.heap.size, 0, none⟩) (l.length + 1) G) (w.drew.alloc (.cells ROW 31)) := fun ty => by
    have h := Lib.run_append_grow_zeros w 51 3 ty 31 i0 zeroSp .i64 .i64 Tryz.underlying51 Tryz.underlying3 hi0 hz0 (some ⟨g, 0, none⟩) i cap olds hold (l.length + 1 - i) (by omega) (by omega) (by omega) (by omega) (by rw [hb0]; omega) (by rw [hb0, hik]; exact growslice_fits hroom (by omega))
    rw [hik] at h
    rw [hkk, hROW, hG]
    exact h
  obtain ⟨W1, hW1⟩ : ∃ W1, W1 = w.drew.alloc (.cells ROW 31) := ⟨_, rfl⟩
  have hb1 : Below w.heap.size w W1 := by rw [hW1]; exact Below.alloc (⟨rfl, rfl, rfl, Nat.le_refl _, fun _ _ => rfl⟩ : Below w.heap.size w w.drew) (Nat.le_refl _) _
  have hrow1 : W1.heap[w.heap.size]? = some (.cells ROW 31 (0, 0)) := by rw [hW1]; exact heap_alloc_new w.drew _
  have own1 : OwnS 0 W1 (.slice (some ⟨w.heap.size, 0, none⟩) i G) (l.take i) := by
    refine Own.ofRow lenS (Nat.zero_le _) hrow1 (by omega) hGm hRs ?_ (by simp; omega)
    rw [hROW, ← holds]
    simp only [Array.toList_append, List.append_assoc]
    rw [List.take_left' hol]
  have hvW : ∀ W, Touch W1 W [w.heap.size] → W.heap[vb]? = some (.cells vs.toArray 31 (0, 0)) := fun W ht => by
    have hlt := heap_lt hv
    exact (ht.block vb (Nat.lt_of_lt_of_le hlt hb1.size) (by simp; omega)).trans ((hb1.block vb hlt).trans hv)
  have hcA : ∀ (W : World), (∀ x, W.cell? x = W1.cell? x) → (∀ x, W.frozen? x = W1.frozen? x) → ∀ ty dc, (Builtin.copy_ #[51, 51] ty #[.slice (some ⟨w.heap.size, i * 7, none⟩) (l.length + 1 - i) dc, .slice (some ⟨vb, 0, none⟩) 1 1]).run Tryz.prog W = .ok (goInt 1) (W.setCells w.heap.size (i * 7) vs) := fun W hWc hWf ty dc =>
    run_copy_rows W _ _ ty 31 7 w.heap.size (i * 7) (l.length + 1 - i) dc ⟨vb, 0, none⟩ 1 1 1 vs Tryz.underlying51 hsz (by simp only [Nat.min_def]; split <;> omega) (by rw [hvl])
      (fun j v hj => by rw [Addr.add_lit, hWc, heap_cell (hvW W1 (Touch.refl _ _))]; simpa using hj)
      (fun j hj => by rw [hWc]; exact (own1.cell_lt (by simp; omega) (by rw [hvl] at hj; omega)).1) (fun j hj => by rw [hWf]; exact (own1.cell_lt (by simp; omega) (by rw [hvl] at hj; omega)).2) hv1'
  obtain ⟨W2, hW2⟩ : ∃ W2, W2 = W1.setCells w.heap.size (i * 7) vs := ⟨_, rfl⟩
  have own2 : OwnS 0 W2 (.slice (some ⟨w.heap.size, 0, none⟩) (i + 1) G) (l.take i ++ [s]) := by
    have := own1.over lenS (by simp; omega) (i := i) (ys := [s]) (Nat.le_refl _) (by simp; omega)
    rw [hW2, show vs = [s].flatMap encS by rw [hvs]; simp]
    simpa [List.take_take] using this
  have t12 : Touch W1 W2 [w.heap.size] := by rw [hW2]; exact setCells_touch _ _ _ _
  obtain ⟨news, hnews⟩ : ∃ z, z = (l.drop i).flatMap encS := ⟨_, rfl⟩
  have hlen : news.length = (l.length - i) * 7 := by rw [hnews, flat_len encS 7 lenS, List.length_drop]
  have hone : ∀ u ∈ news, u.oneCell' = true := by
    intro u hu
    rw [hnews] at hu
    obtain ⟨x, _, hx⟩ := List.mem_flatMap.1 hu
    exact oneS x u hx
  have hgw : g < w.heap.size := heap_lt hg
  have hg2 : W2.heap[g]? = w.heap[g]? := (t12.block g (Nat.lt_of_lt_of_le hgw hb1.size) (by simp; omega)).trans (hb1.block g hgw)
  have ownO : OwnS 0 W2 (.slice (some ⟨g, 0, none⟩) l.length cap) l := Own.ofRow lenS (Nat.zero_le _) (hg2.trans hg) h1 h2 h3 h4 rfl
  have hcB : ∀ (W : World), (∀ x, W.cell? x = W2.cell? x) → (∀ x, W.frozen? x = W2.frozen? x) → ∀ ty dc sc, (Builtin.copy_ #[51, 51] ty #[.slice (some ⟨w.heap.size, (i + 1) * 7, none⟩) (l.length + 1 - (i + 1)) dc, .slice (some ⟨g, i * 7, none⟩) (l.length - i) sc]).run Tryz.prog W = .ok (goInt ((l.length - i : Nat))) (W.setCells w.heap.size ((i + 1) * 7) news) := fun W hWc hWf ty dc sc =>
    run_copy_rows W _ _ ty 31 7 w.heap.size ((i + 1) * 7) (l.length + 1 - (i + 1)) dc ⟨g, i * 7, none⟩ (l.length - i) sc (l.length - i) news Tryz.underlying51 hsz (by simp only [Nat.min_def]; split <;> omega) hlen
      (fun j v hj => by rw [Addr.add_lit, hWc]; rw [hnews, flat_drop_get lenS] at hj; exact ownO.cell_at lenS rfl hj)
      (fun j hj => by rw [hWc]; exact (own2.cell_lt (by simp; omega) (by omega)).1) (fun j hj => by rw [hWf]; exact (own2.cell_lt (by simp; omega) (by omega)).2) hone
  have HF : Hid (∀ W : World, W.heap = W2.heap → Touch w W [] → OwnS 0 (W.setCells w.heap.size ((i + 1) * 7) news) (.slice (some ⟨w.heap.size, 0, none⟩) (l.length + 1) G) (l.take i ++ s :: l.drop i) ∧ Touch w (W.setCells w.heap.size ((i + 1) * 7) news) []) := Lib.hid (fun W hW ht => by
    refine ⟨?_, ?_⟩
    · have hO : OwnS 0 W (.slice (some ⟨w.heap.size, 0, none⟩) (i + 1) G) (l.take i ++ [s]) := by
        obtain ⟨c2, a1, a2, a3, a4, a5, a6⟩ := own2.row (by simp; omega)
        exact Own.ofRow lenS a1 (by rw [hW]; exact a2) a3 a4 a5 a6 (by simp; omega)
      have := hO.over lenS (by simp; omega) (i := i + 1) (ys := l.drop i) (Nat.le_refl _) (by simp; omega)
      rw [← hnews, List.take_of_length_le (by simp; omega), List.append_assoc, List.length_drop, show i + 1 + (l.length - i) = l.length + 1 by omega] at this
      exact this
    · exact ht.fresh (setCells_touch _ _ _ _) (fun b hb => by simp at hb; subst hb; exact .inr (Nat.le_refl _)))
  have hT1 : Touch w W1 [] := touch_below hb1 _
  have hT2 : Touch w W2 [] := hT1.fresh t12 (fun b hb => by simp at hb; subst hb; exact .inr (Nat.le_refl _))
  have HT : Hid (∀ W : World, W.heap = W2.heap → W.os = W2.os → W.tape = W2.tape → W.output = W2.output → Touch w W []) := Lib.hid (fun W e1 e2 e3 e4 => ⟨e2.trans hT2.os, e3.trans hT2.tape, e4.trans hT2.output, by rw [e1]; exact hT2.size, fun k hk hn => by rw [e1]; exact hT2.block k hk hn⟩)
  have e1 : ((i : Int) == (l.length : Int)) = false := by simp <;> omega
  have e2 : ((i : Int) + 1).toNat = i + 1 := by omega
  have e3 : (i : Int) ≤ (l.length : Int) + 1 := by omega
  have e4 : (i : Int) + 1 ≤ (l.length : Int) + 1 := by omega
  have e5 : (0 : Int) ≤ (i : Int) + 1 := by omega
  have e7 : ¬ (cap = i) := by omega
  have e8 : ¬ (G = i + 1) := by omega
  have e8' : ¬ (G = i) := by omega
  have e9 : decide ((cap : Int) < (l.length : Int) + 1) = true := by simp; omega
  have e10 : (i : Int) ≤ (l.length : Int) := by omega
  have e12 : (cap : Int) ≤ 9223372036854775807 := by simp only [maxLen] at h2; omega
  have e13 : IntKind.i64.wrap ((i : Int) + 1) = (i : Int) + 1 := by rw [IntKind.wrap_i64]; omega
  have e14 : (G : Int) ≤ 9223372036854775807 := by simp only [maxLen] at hGm; omega
  have e15 : (i : Int) ≤ (cap : Int) := by omega
  have hcA' := fun ty dc => hcA W1 (fun _ => rfl) (fun _ => rfl) ty dc
  rw [← hW2] at hcA'
  obtain ⟨W3, hW3⟩ : ∃ W3, W3 = W2.drew.setCells w.heap.size ((i + 1) * 7) news := ⟨_, rfl⟩
  have hcB' := fun ty dc sc => hcB W2.drew (fun _ => rfl) (fun _ => rfl) ty dc sc
  rw [← hW3] at hcB'
  rw [← hW1] at hrz
  have HFin := Lib.hid (HF.out W2.drew rfl (HT.out _ rfl rfl rfl rfl))
  rw [← hW3] at HFin
  clear hcA hcB HF HT
  clear hkk hik hold hROW hG hRs own1 own2 ownO t12 hnews hlen h h4 hg h3 hv hvW hone hT1 hT2 hb1 hrow1 hg2 hgw hol holds hW1 hW2 hW3 hvs hvl hv1'
  go_enter Tryz.func72, Tryz.ntmps72
  go_wp2_with (first
    | (at_builtin; refine Lib.wpList_append_run _ rfl _ _ _ _ rfl _ _ rfl rfl _ _ (hrz _) ?_)
    | (at_builtin; refine wpList_copy_runI _ rfl _ _ 51 51 rfl _ _ rfl rfl (hcA' _ _) ?_)
    | (at_builtin; refine wpList_copy_runI _ rfl _ _ 51 51 rfl _ _ rfl rfl (hcB' _ _ _) ?_))
  go_region_law (refine step_copy_runI rfl _ _ 51 51 rfl (.slice (some ⟨w.heap.size, (i + 1) * 7, none⟩) (l.length + 1 - (i + 1)) (G - (i + 1))) (.slice (some ⟨g, i * 7, none⟩) (l.length - i) (cap - i)) (by simp [Act.eval, Act.put]) (by simp [Act.eval, Act.put]) (hcB' 3 (G - (i + 1)) (cap - i)) ?_)
  go_wp2
  go_ret
  exact ⟨G, rfl, HFin.out.1, HFin.out.2⟩
end Go.Proofs.YthnckicnnhkkaaaGreat
/- Package corpus: byId and the search for an Id. Condition: the list reads as specimens by Id. -/
namespace Go.Proofs.YthnckicnnhkkaaaGreat
open Go.RowKit Go.Shelf

set_option maxHeartbeats 1000000 in
theorem byId_ok (s : Spec) (i : Int) (W : World) : Calls Tryz.prog 71 #[valS s, .int .i64 i] W fun e w' => e = .returned (.int .i64 (Lib.compareInt s.id i)) ∧ Below W.heap.size W w' := by
  have hcon := fun W' => AnyG.cmp_Compare_int Tryz.layCmp s.id i W'
  change ∀ W', Calls Tryz.prog 83 _ _ _ at hcon
  generalize Lib.compareInt s.id i = r at hcon ⊢
  go_enter Tryz.func71, Tryz.ntmps71
  go_wp2_with (go_at_call 83; refine (hcon _).mono ?_; rintro e w' ⟨rfl, rfl⟩)
  go_ret
  exact ⟨rfl, (Below.refl _ _).alloc (Nat.le_refl _) _⟩
theorem cmp_lt (a b : Int) : decide (Lib.compareInt a b < 0) = decide (a < b) := by
  unfold Lib.compareInt
  by_cases h1 : a < b
  · simp [h1]
  · by_cases h2 : b < a <;> simp [h1, h2]
theorem cmp_eq (a b : Int) : (Lib.compareInt a b == 0) = decide (a = b) := by
  unfold Lib.compareInt
  by_cases h1 : a < b
  · simp [h1]; omega
  · by_cases h2 : b < a
    · simp [h1, h2]; omega
    · have : a = b := by omega
      simp [this]
set_option maxHeartbeats 4000000 in
set_option maxRecDepth 100000 in
theorem search_ok (v : Value) (l : List Spec) (i : Int) (w : World) (h : Specs w v l) (hs : SrtS l) (hn : l.length ≤ 1000) :
    Calls Tryz.prog 70 #[v, .int .i64 i, .func (.func 71) #[] #[]] w fun e w' =>
      e = .returned (.tuple #[.int .i64 (posI l i : Nat), .bool (decide (i ∈ l.map Spec.id))]) ∧ Below w.heap.size w w' := by
  obtain ⟨A, c, rfl, hlc, hcm, hcl⟩ := h.cells
  have Hs := Lib.hid hs
  have Hcl := Lib.hid hcl
  have HS := Lib.hid h
  obtain ⟨T, hT⟩ : ∃ T, decide (i ∈ l.map Spec.id) = T := ⟨_, rfl⟩
  obtain ⟨n, hN⟩ : ∃ n, posI l i = n := ⟨_, rfl⟩
  rw [hT, hN]
  have HT := Lib.hid hT; have HN := Lib.hid hN
  clear h hs hcl hT hN
  go_enter Tryz.func70, Tryz.ntmps70
  go_wp2
  go_loopw [9, 10] (fun t9 t10 wr => ∃ lo hi : Nat, t9 = .int .i64 lo ∧ t10 = .int .i64 hi ∧ lo ≤ hi ∧ hi ≤ l.length ∧ Hid (∀ t s, t < lo → l[t]? = some s → s.id < i) ∧ Hid (∀ t s, hi ≤ t → l[t]? = some s → i ≤ s.id) ∧ Below w.heap.size w wr) (fun t9 t10 _ => (intOf t10).toNat - (intOf t9).toNat)
  case atStart => exact ⟨0, l.length, rfl, rfl, Nat.zero_le _, Nat.le_refl _, (fun t s h => by omega), (fun t s h1 h2 => by have := lt_of_get h2; omega), Below.refl _ _⟩
  case round =>
    obtain ⟨lo, hi, rfl, rfl, hlh, hin, H1, H2, hb⟩ := hrel
    by_cases hlt : lo < hi
    · obtain ⟨y, hy⟩ := get_of_lt (show (lo + hi) / 2 < l.length by omega)
      obtain ⟨b, o, rfl, _, hcc⟩ := Hcl.out _ (lt_of_get hy)
      obtain ⟨c0, c1, c2, c3, c4, c5, c6⟩ := hcc wr hb ((lo + hi) / 2) y hy
      clear hcc Hcl HS
      have Hy := Lib.hid hy; clear hy
      have hB := byId_ok y i wr
      have hc := cmp_lt y.id i
      by_cases hyx : y.id < i
      · have hc' : decide (Lib.compareInt y.id i < 0) = true := by rw [hc]; simpa using hyx
        clear hc
        generalize Lib.compareInt y.id i = r at hB hc'
        go_wp2_with fail
        refine hB.mono ?_
        rintro e w1 ⟨rfl, hb1⟩
        go_wp2_with fail
        refine ⟨?rel, ?measure⟩
        case rel => exact ⟨(lo + hi) / 2 + 1, hi, by go_num, rfl, by omega, hin, (fun t s h1 h2 => by
          rcases Nat.lt_or_ge t lo with h | h
          · exact H1.out t s h h2
          · have h3 := (pos_lt (i := i) Hs.out Hy.out).1 hyx
            exact (pos_lt Hs.out h2).2 (by omega)), H2, below_trans hb hb1⟩
        case measure => simp [intOf]; omega
      · have hc' : decide (Lib.compareInt y.id i < 0) = false := by rw [hc]; simpa using hyx
        clear hc
        generalize Lib.compareInt y.id i = r at hB hc'
        go_wp2_with fail
        refine hB.mono ?_
        rintro e w1 ⟨rfl, hb1⟩
        go_wp2_with fail
        refine ⟨?rel, ?measure⟩
        case rel => exact ⟨lo, (lo + hi) / 2, rfl, by go_num, by omega, by omega, H1, (fun t s h1 h2 => by
          refine Int.not_lt.1 fun h3 => ?_
          have h4 := (pos_lt Hs.out h2).1 h3
          have h5 := (pos_lt (i := i) Hs.out Hy.out).2 (by omega)
          omega), below_trans hb hb1⟩
        case measure => simp [intOf]; omega
    · obtain rfl : hi = lo := by omega
      have hp : posI l i = hi := pos_is Hs.out H1.out (fun t s h1 h2 => Int.not_lt.2 (H2.out t s h1 h2)) hin
      obtain rfl : n = hi := by rw [← HN.out, hp]
      have Hp := Lib.hid hp; clear hp
      by_cases hn' : n < l.length
      · obtain ⟨y, hy⟩ := get_of_lt hn'
        obtain ⟨b, o, rfl, _, hcc⟩ := Hcl.out _ (lt_of_get hy)
        obtain ⟨c0, c1, c2, c3, c4, c5, c6⟩ := hcc wr hb n y hy
        clear hcc Hcl HS
        have hB := byId_ok y i wr
        have hc := cmp_eq y.id i
        have hm : T = decide (y.id = i) := by
          rw [← HT.out, Bool.eq_iff_iff, decide_eq_true_eq, decide_eq_true_eq]
          constructor
          · intro h
            obtain ⟨s, h1, h2⟩ := pos_there Hs.out h
            rw [Hp.out, hy] at h1
            cases h1
            exact h2
          · intro h; exact List.mem_map.2 ⟨y, List.mem_of_getElem? hy, h⟩
        rw [← hm] at hc
        clear hm hy
        generalize Lib.compareInt y.id i = r at hB hc
        go_wp2_with fail
        refine hB.mono ?_
        rintro e w1 ⟨rfl, hb1⟩
        cases T
        · go_wp2_with fail
          go_ret2
          exact ⟨rfl, below_trans hb hb1⟩
        · go_wp2_with fail
          go_ret2
          exact ⟨rfl, below_trans hb hb1⟩
      · have hm : T = false := by
          rw [← HT.out]
          simp only [decide_eq_false_iff_not]
          intro h
          obtain ⟨s, h1, h2⟩ := pos_there Hs.out h
          have := lt_of_get h1
          have := Hp.out
          omega
        subst hm
        go_wp2_with fail
        go_ret2
        exact ⟨rfl, hb⟩
end Go.Proofs.YthnckicnnhkkaaaGreat
