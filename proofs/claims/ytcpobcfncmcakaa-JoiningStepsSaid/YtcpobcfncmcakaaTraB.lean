/- The tracker of package joining: Clone, Undo; specimen.Find. Condition: the tracker in its memory. -/
import Derived.Test.YtcpobcfncmcakaaTraA
namespace Go.Proofs.Ytcpobcfncmcakaa
open Go.RowKit Go.Maps

theorem SlOf.cut {α : Type} {enc : α → List Value} {k : Nat} {w : World} {A : Option Addr} {n c m : Nat} {xs : List α} (h : SlOf enc k w (.slice A n c) xs) (hk : ∀ x, (enc x).length = k) (hm : m ≤ n) : SlOf enc k w (.slice A m c) (xs.take m) := by
  obtain ⟨A', c', e, h1, h2, h3, h4⟩ := h
  cases e
  have hl : (xs.take m).length = m := by rw [List.length_take]; omega
  have hfl := flat_len enc k hk
  refine ⟨A, c, by rw [hl], by omega, h2, by rw [hfl], fun hp => ?_⟩
  obtain ⟨b, o, e, hb, hc⟩ := h4 (by omega)
  refine ⟨b, o, e, hb, fun j u hu => hc j u ?_⟩
  have : xs.flatMap enc = (xs.take m).flatMap enc ++ (xs.drop m).flatMap enc := by rw [← List.flatMap_append, List.take_append_drop]
  rw [this, List.getElem?_append_left (List.getElem?_eq_some_iff.1 hu).1]
  exact hu
set_option maxHeartbeats 1000000 in
theorem CloneN_ok (w : World) : Calls Try.prog 17 #[.pointer none] w fun e w' => e = .returned (.pointer none) ∧ Below w.heap.size w w' := by
  go_enter Try.func17, Try.ntmps17
  go_wp2_with fail
  go_ret
  exact ⟨rfl, Below.refl _ _⟩
set_option maxHeartbeats 1000000 in
theorem Clone_ok (q : Nat) (l : List Spec) (w : World) (h : TrAt w q l) : Calls Try.prog 17 #[.pointer (some ⟨q, 0, none⟩)] w fun e w' => ∃ p, e = .returned (.pointer (some ⟨p, 0, none⟩)) ∧ TrAt w' p l ∧ w.heap.size ≤ p ∧ Below w.heap.size w w' := by
  have hll := h.len
  have hE := Lib.hid h.ok
  obtain ⟨A, c, hq, hS⟩ := h.ex
  have q0 : w.cell? ⟨q, 0, none⟩ = some (.slice A l.length c) := heap_cell hq
  go_enter Try.func17, Try.ntmps17
  go_wp2_with fail
  refine (cloneS_ok _ l _ hS (by omega)).mono ?_
  rintro e w1 ⟨x, rfl, hx, hb1⟩
  have hx' : Specs w1 x l := hx.slOf
  obtain ⟨Ax, cx, rfl, _⟩ := id hx'
  obtain ⟨W, hW, Hz, hbW, hltW, _⟩ := boxed w1 #[.slice Ax l.length cx] 68
  have hk : W.heap[w1.heap.size]? = some (.cells #[.slice Ax l.length cx] 68 (0, 0)) := by rw [← hW]; exact heap_alloc_new _ _
  have HT := Lib.hid (⟨⟨Ax, cx, hk, hx'.below hbW⟩, hE.out⟩ : TrAt W w1.heap.size l)
  have hsz := hb1.size
  clear hk q0 hq hS hx hx'
  go_wp2_with fail
  go_ret
  exact ⟨_, rfl, HT.out, hsz, below_trans hb1 hbW⟩

set_option maxHeartbeats 1000000 in
theorem UndoN_ok (w : World) : Calls Try.prog 16 #[.pointer none] w fun e w' => e = .returned (.int .i64 1) ∧ Below w.heap.size w w' := by
  go_enter Try.func16, Try.ntmps16
  go_wp2_with fail
  go_ret
  exact ⟨rfl, Below.refl _ _⟩
set_option maxHeartbeats 1000000 in
theorem Undo0_ok (q : Nat) (w : World) (h : TrAt w q []) : Calls Try.prog 16 #[.pointer (some ⟨q, 0, none⟩)] w fun e w' => e = .returned (.int .i64 7) ∧ Below w.heap.size w w' := by
  obtain ⟨A, c, hq, hS⟩ := h.ex
  have q0 : w.cell? ⟨q, 0, none⟩ = some (.slice A 0 c) := heap_cell hq
  clear hq hS
  go_enter Try.func16, Try.ntmps16
  go_wp2_with fail
  go_ret
  exact ⟨rfl, Below.refl _ _⟩
set_option maxHeartbeats 1000000 in
theorem Undo_ok (q : Nat) (l : List Spec) (s : Spec) (w : World) (h : TrAt w q (l ++ [s])) : Calls Try.prog 16 #[.pointer (some ⟨q, 0, none⟩)] w fun e w' => e = .returned (.int .i64 0) ∧ TrAt w' q l ∧ Touch w w' [q] := by
  have hE := Lib.hid h.ok
  have hll := h.len
  obtain ⟨A, c, hq, hS⟩ := h.ex
  have q0' : w.cell? ⟨q, 0, none⟩ = some (.slice A (l ++ [s]).length c) := heap_cell hq
  obtain ⟨n, hn⟩ : ∃ n, l.length = n := ⟨_, rfl⟩
  have e1 : (l ++ [s]).length = n + 1 := by simp [hn]
  rw [e1] at q0' hll
  have q0 := Later.cell_all q0'
  have hcn : n + 1 ≤ c := by obtain ⟨_, _, e9, h9, _⟩ := id hS; cases e9; omega
  have hcm : (c : Int) ≤ 9223372036854775807 := by obtain ⟨_, _, e9, _, h9, _⟩ := hS.cells; cases e9; exact h9
  have n1 : ((n : Int) + 1) ≤ 64 := by omega
  have n0 : (0 : Int) ≤ (n : Int) := by omega
  have HS := Lib.hid hS; have HQ := Lib.hid hq
  clear hS hq h
  go_enter Try.func16, Try.ntmps16
  go_wp2_with fail
  refine wp_region_later_tail 14 (by kernel_rfl) (by kernel_rfl) ?_
  simp only [List.take_succ_cons, List.take_zero, List.drop_succ_cons, List.drop_zero]
  repeat (go_big_quiet_step (first | fail))
  refine wpQuiet_nil ?_
  intro _ hw'
  obtain ⟨xq, hw''⟩ := hw'
  subst hw''
  have hba := xq.h
  generalize xq.to = wa at hba ⊢
  have hqa := heap_below HQ.out hba (heap_lt HQ.out)
  have q1 : wa.cell? ⟨q, 0, none⟩ = some (.slice A (l ++ [s]).length c) := heap_cell hqa
  have f1 : wa.frozen? ⟨q, 0, none⟩ = false := heap_free hqa
  have HQA := Lib.hid hqa
  clear hqa q0 q0'
  go_wp2_with fail
  go_ret
  have hset : Touch wa (wa.setCell ⟨q, 0, none⟩ (.slice A n c)) [q] := touch_set rfl (by simp)
  have hone : ∀ x ∈ [q], ∃ y t, wa.heap[x]? = some (.cells #[y] t (0, 0)) := fun x hx => by
    rw [List.mem_singleton] at hx
    subst hx
    exact ⟨_, _, HQA.out⟩
  refine ⟨rfl, ⟨⟨A, c, ?_, ?_⟩, ?_⟩, (touch_below hba [q]).trans hset⟩
  · have r1 := heap_setCell_same wa q 0 _ _ (.slice A n c) HQA.out
    rw [hn]
    simpa using r1
  · have := ((HS.out.below hba).touch1 hset hone).cut (m := n) lenS (by simp; omega)
    rw [List.take_left' hn] at this
    rw [hn]
    exact this
  · have := of_take hE.out n
    rwa [List.take_left' hn] at this

theorem heap_set7 {w : World} {g : Nat} {a b c d e f k x0 x1 x2 x3 x4 x5 x6 : Value} {t : TypeId} (h : w.heap[g]? = some (.cells [a, b, c, d, e, f, k].toArray t (0, 0))) :
    (((((((w.setCell ⟨g, 0, none⟩ x0).setCell ⟨g, 1, none⟩ x1).setCell ⟨g, 2, none⟩ x2).setCell ⟨g, 3, none⟩ x3).setCell ⟨g, 4, none⟩ x4).setCell ⟨g, 5, none⟩ x5).setCell ⟨g, 6, none⟩ x6).heap[g]? = some (.cells #[x0, x1, x2, x3, x4, x5, x6] t (0, 0)) := heap_setCells [x0, x1, x2, x3, x4, x5, x6] [] [a, b, c, d, e, f, k] w h rfl
theorem below_set7 {B g : Nat} {a w : World} {x0 x1 x2 x3 x4 x5 x6 : Value} (h : Below B a w) (hg : B ≤ g) (hB : B ≤ w.heap.size) : Below B a (((((((w.setCell ⟨g, 0, none⟩ x0).setCell ⟨g, 1, none⟩ x1).setCell ⟨g, 2, none⟩ x2).setCell ⟨g, 3, none⟩ x3).setCell ⟨g, 4, none⟩ x4).setCell ⟨g, 5, none⟩ x5).setCell ⟨g, 6, none⟩ x6) :=
  h.grown (setCells_grown g [x0, x1, x2, x3, x4, x5, x6] w 0) hB (fun j e => by cases e; exact hg)
set_option maxHeartbeats 4000000 in
set_option maxRecDepth 100000 in
theorem Find_ok (v : Value) (l : List Spec) (id : Int) (w : World) (h : Specs w v l) :
    Calls Try.prog 33 #[v, .int .i64 id] w fun e w' => ∃ s : Spec, e = .returned (.tuple #[valS s, .bool (decide (id ∈ l.map Spec.id))]) ∧ Below w.heap.size w w' := by
  obtain ⟨A, c, rfl, _, _, hc⟩ := h.cells
  obtain ⟨W, hW, Hz, hbW, hltW, _⟩ := boxed w #[.int .i64 0, .int .i64 0, .int .i64 0, .int .i64 0, .int .i64 0, .int .i64 0, .int .i64 0] 30
  have hk : W.heap[w.heap.size]? = some (.cells [.int .i64 0, .int .i64 0, .int .i64 0, .int .i64 0, .int .i64 0, .int .i64 0, .int .i64 0].toArray 30 (0, 0)) := by rw [← hW]; exact heap_alloc_new _ _
  have Hk := Lib.hid hk; clear hk
  go_enter Try.func33, Try.ntmps33
  go_wp2_with fail
  clear hW
  go_loopw [10] (fun i wr => ∃ k : Nat, k ≤ l.length ∧ i = .int .i64 k ∧ Below W.heap.size W wr ∧ ∀ s ∈ l.take k, s.id ≠ id) (fun i _ => l.length - (intOf i).toNat)
  case atStart => exact ⟨0, Nat.zero_le _, rfl, Below.refl _ _, fun s hs => by simp at hs⟩
  case round =>
    obtain ⟨k, hk, rfl, hb, hno⟩ := hrel
    have HN := Lib.hid hno; clear hno
    have Hkr := Lib.hid (heap_below Hk.out hb hltW)
    have hbw := below_trans hbW hb
    by_cases hlt : k < l.length
    · obtain ⟨bo, o, rfl, hbb, hc⟩ := hc k hlt
      obtain ⟨x, hx⟩ := get_of_lt hlt
      obtain ⟨y0, y1, y2, y3, y4, y5, y6⟩ := hc wr hbw k x hx
      obtain ⟨V1, V2, hV1, hV2, HzV2, hkV1, hkV2, hbV2, hltV2⟩ := fresh wr [.int .i64 0, .int .i64 0, .int .i64 0, .int .i64 0, .int .i64 0, .int .i64 0, .int .i64 0] [.int .i64 (x).id, .int .i64 (x).obv, .int .i64 (x).rev, .int .i64 (x).os, .int .i64 (x).rs, .int .i64 (x).ax, .int .i64 (x).wt] 30 rfl
      have hsV2 : ((((((V1.setCell ⟨wr.heap.size, 0, none⟩ (.int .i64 (x).id)).setCell ⟨wr.heap.size, 1, none⟩ (.int .i64 (x).obv)).setCell ⟨wr.heap.size, 2, none⟩ (.int .i64 (x).rev)).setCell ⟨wr.heap.size, 3, none⟩ (.int .i64 (x).os)).setCell ⟨wr.heap.size, 4, none⟩ (.int .i64 (x).rs)).setCell ⟨wr.heap.size, 5, none⟩ (.int .i64 (x).ax)).setCell ⟨wr.heap.size, 6, none⟩ (.int .i64 (x).wt) = V2 := hV2
      clear hV2
      obtain ⟨⟨z0, z1, z2, z3, z4, z5, z6⟩, f0, f1, f2, f3, f4, f5, f6⟩ := cellsS hkV1
      clear hkV1
      obtain ⟨⟨s0, s1, s2, s3, s4, s5, s6⟩, _⟩ := cellsS hkV2
      have Hx := Lib.hid hx
      clear hx hc
      cases hid : (x.id == id)
      · have hne : x.id ≠ id := by simpa using hid
        have Hne := Lib.hid hne; clear hne
        go_wp2_with fail
        refine ⟨?rel, ?measure⟩
        case rel => exact ⟨k + 1, by omega, by go_num, below_trans hb hbV2, fun s hs => by rw [take_snoc' Hx.out, List.mem_append, List.mem_singleton] at hs; rcases hs with hs | rfl; exact HN.out s hs; exact Hne.out⟩
        case measure => simp [intOf]; omega
      · have he : x.id = id := by simpa using hid
        have hin : decide (id ∈ l.map Spec.id) = true := by rw [decide_eq_true_eq, ← he]; exact List.mem_map_of_mem (f := Spec.id) (List.mem_of_getElem? Hx.out)
        have Hin := Lib.hid hin; clear hin he
        have hk2 := heap_below Hkr.out hbV2 (heap_lt Hkr.out)
        have Hk2 := Lib.hid hk2
        obtain ⟨⟨r0, r1, r2, r3, r4, r5, r6⟩, g0, g1, g2, g3, g4, g5, g6⟩ := cellsS hk2
        clear hk2
        go_wp2_with fail
        refine bodyPost_ret (results_cell_tmp_row rfl _ _ w.heap.size 30 #[.int .i64 x.id, .int .i64 x.obv, .int .i64 x.rev, .int .i64 x.os, .int .i64 x.rs, .int .i64 x.ax, .int .i64 x.wt] (0, 0) _ (by simp) (heap_set7 Hk2.out) Try.underlying30 rfl (by kernel_rfl)) rfl ⟨x, ?_, below_set7 (below_trans hbw hbV2) (Nat.le_refl _) (below_trans hbw hbV2).size⟩
        rw [Hin.out]; rfl
    · have hin : decide (id ∈ l.map Spec.id) = false := by
        rw [decide_eq_false_iff_not]
        intro hm
        obtain ⟨s, hs, e⟩ := List.mem_map.1 hm
        exact HN.out s (by rw [List.take_of_length_le (by omega)]; exact hs) e
      have Hin := Lib.hid hin; clear hin hc
      obtain ⟨⟨r0, r1, r2, r3, r4, r5, r6⟩, g0, g1, g2, g3, g4, g5, g6⟩ := cellsS Hkr.out
      go_wp2_with fail
      refine bodyPost_ret (results_cell_tmp_row rfl _ _ w.heap.size 30 #[.int .i64 0, .int .i64 0, .int .i64 0, .int .i64 0, .int .i64 0, .int .i64 0, .int .i64 0] (0, 0) _ (by simp) (heap_set7 Hkr.out) Try.underlying30 rfl (by kernel_rfl)) rfl ⟨⟨0, 0, 0, 0, 0, 0, 0⟩, ?_, below_set7 hbw (Nat.le_refl _) hbw.size⟩
      rw [Hin.out]; rfl
end Go.Proofs.Ytcpobcfncmcakaa
