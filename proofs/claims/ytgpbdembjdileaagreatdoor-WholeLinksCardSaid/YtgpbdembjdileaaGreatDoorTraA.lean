/- The tracker of package joining: NewTracker, growth, Components, Joined. Condition: the tracker in its memory. -/
import Derived.Test.YtgpbdembjdileaaGreatDoorGroD
import Derived.Deep.DeepCutAuto
namespace Go.Proofs.YtgpbdembjdileaaGreatDoor
open Go.RowKit Go.Maps

/-- A tracker in its memory. -/
structure TrAt (w : World) (p : Nat) (l : List Spec) : Prop where
  ex : ∃ A c, w.heap[p]? = some (.cells #[.slice A l.length c] 77 (0, 0)) ∧ Specs w (.slice A l.length c) l
  ok : ofE l = 0
section
variable {w w' : World} {p : Nat} {l : List Spec}
theorem Specs.touch1 {v : Value} {S : List Nat} (h : Specs w v l) (ht : Touch w w' S) (hS : ∀ q ∈ S, ∃ x t, w.heap[q]? = some (.cells #[x] t (0, 0))) : Specs w' v l := by
  obtain ⟨A, c, e, h1, h2, h3, h4⟩ := h
  refine ⟨A, c, e, h1, h2, h3, fun hp => ?_⟩
  obtain ⟨b, o, e, hb, hc⟩ := h4 hp
  have hn : b ∉ S := fun hm => by
    obtain ⟨x, t, hx⟩ := hS b hm
    cases l with
    | nil => simp at hp
    | cons s l =>
      have := hc 1 (.int .i64 s.obv) rfl
      have h6 : w.cell? ⟨b, o + 1, none⟩ = some (.int .i64 s.obv) := this
      rw [heap_cell hx] at h6
      simp at h6
  exact ⟨b, o, e, Nat.lt_of_lt_of_le hb ht.size, fun j u hu => cell_off ht hn (hc j u hu)⟩
theorem TrAt.below (h : TrAt w p l) (hb : Below w.heap.size w w') : TrAt w' p l := by
  obtain ⟨A, c, h1, h2⟩ := h.ex
  exact ⟨⟨A, c, heap_below h1 hb (heap_lt h1), h2.below hb⟩, h.ok⟩
theorem TrAt.one (h : TrAt w p l) : ∃ x t, w.heap[p]? = some (.cells #[x] t (0, 0)) := by
  obtain ⟨A, c, h1, _⟩ := h.ex
  exact ⟨_, _, h1⟩
theorem TrAt.lt (h : TrAt w p l) : p < w.heap.size := by
  obtain ⟨A, c, h1, _⟩ := h.ex
  exact heap_lt h1
theorem TrAt.touch {q : Nat} (h : TrAt w p l) (ht : Touch w w' [q]) (hq : ∃ x t, w.heap[q]? = some (.cells #[x] t (0, 0))) (hne : p ≠ q) : TrAt w' p l := by
  obtain ⟨A, c, h1, h2⟩ := h.ex
  exact ⟨⟨A, c, (ht.block p (heap_lt h1) (by simpa using hne)).trans h1, h2.touch1 ht (by simpa using hq)⟩, h.ok⟩
theorem TrAt.spec (h : TrAt w p l) {k : Nat} {s : Spec} (hs : l[k]? = some s) : specB s = true ∧ l.length ≤ 64 := ofE_spec h.ok hs
theorem TrAt.len (h : TrAt w p l) : l.length ≤ 64 := (checkE_zero (ofE_zero h.ok).1).1
end
theorem ofE_nil : ofE [] = 0 := by decide
set_option maxHeartbeats 1000000 in
theorem NewTracker_ok (w : World) : Calls Tryz.prog 10 #[] w fun e w' => ∃ p, e = .returned (.pointer (some ⟨p, 0, none⟩)) ∧ TrAt w' p [] ∧ w.heap.size ≤ p ∧ Below w.heap.size w w' := by
  obtain ⟨W, hW, Hz, hb, hlt, _⟩ := boxed w #[.slice none 0 0] 77
  have hk : W.heap[w.heap.size]? = some (.cells #[.slice none 0 0] 77 (0, 0)) := by rw [← hW]; exact heap_alloc_new _ _
  have HT := Lib.hid (⟨⟨none, 0, hk, (own_nil _ _ 0 0 _).slOf⟩, ofE_nil⟩ : TrAt W w.heap.size [])
  clear hk
  go_enter Tryz.func10, Tryz.ntmps10
  go_wp2_with fail
  go_ret
  exact ⟨_, rfl, HT.out, Nat.le_refl _, hb⟩

set_option maxHeartbeats 1000000 in
theorem growthN_ok (w : World) : Calls Tryz.prog 34 #[.pointer none] w fun e w' => ∃ p b, e = .returned (.pointer (some ⟨p, 0, none⟩)) ∧ GrAt w' p b (growL []) ∧ w.heap.size ≤ p ∧ w.heap.size ≤ b ∧ Below w.heap.size w w' := by
  go_enter Tryz.func34, Tryz.ntmps34
  go_wp2_with fail
  refine (begin_ok _).mono ?_
  rintro e w3 ⟨p, b, rfl, hG, hp0, hb0, hb3⟩
  go_wp2_with fail
  go_ret
  exact ⟨_, _, rfl, hG, hp0, hb0, hb3⟩
set_option maxHeartbeats 4000000 in
set_option maxRecDepth 100000 in
theorem growth_ok (q : Nat) (l : List Spec) (w : World) (h : TrAt w q l) : Calls Tryz.prog 34 #[.pointer (some ⟨q, 0, none⟩)] w fun e w' => ∃ p b, e = .returned (.pointer (some ⟨p, 0, none⟩)) ∧ GrAt w' p b (growL l) ∧ w.heap.size ≤ p ∧ w.heap.size ≤ b ∧ Below w.heap.size w w' := by
  have hE := Lib.hid h.ok
  obtain ⟨A, c, hq, hS⟩ := h.ex
  clear h
  go_enter Tryz.func34, Tryz.ntmps34
  go_wp2_with fail
  refine (begin_ok _).mono ?_
  rintro e w3 ⟨p, b, rfl, hG, hp0, hb0, hb3⟩
  have q0 : w3.cell? ⟨q, 0, none⟩ = some (.slice A l.length c) := heap_cell (heap_below hq hb3 (heap_lt hq))
  obtain ⟨_, _, e9, _, _, hc⟩ := hS.cells
  cases e9
  have hpl := heap_lt hG.blk; have hbl := hG.map.lt
  go_wp2_with fail
  clear q0 hS hq
  go_loopw [14] (fun i wr => ∃ k : Nat, k ≤ l.length ∧ i = .int .i64 k ∧ GrAt wr p b (growL (l.take k)) ∧ Below w.heap.size w wr ∧ Touch w3 wr [p, b]) (fun i _ => l.length - (intOf i).toNat)
  case atStart => exact ⟨0, Nat.zero_le _, rfl, hG, hb3, Touch.refl _ _⟩
  case round =>
    obtain ⟨k, hk, rfl, hGr, hwr, hT⟩ := hrel
    by_cases hlt : k < l.length
    · obtain ⟨bo, o, rfl, hbb, hc⟩ := hc k hlt
      obtain ⟨x, hx⟩ := get_of_lt hlt
      obtain ⟨y0, y1, y2, y3, y4, y5, y6⟩ := hc wr hwr k x hx
      obtain ⟨V1, V2, hV1, hV2, HzV2, hkV1, hkV2, hbV2, hltV2⟩ := fresh wr [.int .i64 0, .int .i64 0, .int .i64 0, .int .i64 0, .int .i64 0, .int .i64 0, .int .i64 0] [.int .i64 (x).id, .int .i64 (x).obv, .int .i64 (x).rev, .int .i64 (x).os, .int .i64 (x).rs, .int .i64 (x).ax, .int .i64 (x).wt] 47 rfl
      have hsV2 : ((((((V1.setCell ⟨wr.heap.size, 0, none⟩ (.int .i64 (x).id)).setCell ⟨wr.heap.size, 1, none⟩ (.int .i64 (x).obv)).setCell ⟨wr.heap.size, 2, none⟩ (.int .i64 (x).rev)).setCell ⟨wr.heap.size, 3, none⟩ (.int .i64 (x).os)).setCell ⟨wr.heap.size, 4, none⟩ (.int .i64 (x).rs)).setCell ⟨wr.heap.size, 5, none⟩ (.int .i64 (x).ax)).setCell ⟨wr.heap.size, 6, none⟩ (.int .i64 (x).wt) = V2 := hV2
      clear hV2
      obtain ⟨⟨z0, z1, z2, z3, z4, z5, z6⟩, f0, f1, f2, f3, f4, f5, f6⟩ := cellsS hkV1
      clear hkV1
      obtain ⟨⟨s0, s1, s2, s3, s4, s5, s6⟩, _⟩ := cellsS hkV2
      have hspec := ofE_spec hE.out hx
      have hG2 := hGr.below hbV2
      have HT := Lib.hid (hT.trans (touch_below hbV2 [p, b]))
      have HW := Lib.hid (below_trans hwr hbV2)
      have Hx := Lib.hid hx
      have hk4 : (l.take k).length ≤ 100 := by simp; omega
      clear hGr hT hx hc hG hwr
      go_wp2_with fail
      refine (step_ok p b (l.take k) x V2 hG2 hspec.1 hk4).mono ?_
      rintro e w5 ⟨rfl, hG5, hT5⟩
      rw [← take_snoc' Hx.out] at hG5
      have HG5 := Lib.hid hG5; have HW5 := Lib.hid ((touch_below HW.out [p, b]).trans hT5 |>.below (by simp; omega) (Nat.le_refl _)); have HT5 := Lib.hid (HT.out.trans hT5)
      clear hG5 hT5 hG2 s0 s1 s2 s3 s4 s5 s6 z0 z1 z2 z3 z4 z5 z6 f0 f1 f2 f3 f4 f5 f6 y0 y1 y2 y3 y4 y5 y6
      go_wp2_with fail
      refine ⟨?rel, ?measure⟩
      case rel => exact ⟨k + 1, by omega, by go_num, HG5.out, HW5.out, HT5.out⟩
      case measure => simp [intOf]; omega
    · have e1 : l.take k = l := List.take_of_length_le (by omega)
      rw [e1] at hGr
      have HG := Lib.hid hGr
      clear hc hGr e1 hG
      go_wp2_with fail
      go_ret
      exact ⟨_, _, rfl, HG.out, hp0, hb0, hwr⟩
set_option maxHeartbeats 1000000 in
theorem ComponentsN_ok (w : World) : Calls Tryz.prog 12 #[.pointer none] w fun e w' => e = .returned (.int .i64 (growL []).count) ∧ Below w.heap.size w w' := by
  go_enter Tryz.func12, Tryz.ntmps12
  go_wp2_with fail
  refine (growthN_ok _).mono ?_
  rintro e w1 ⟨p, b, rfl, hG, hp0, hb0, hb1⟩
  obtain ⟨_, _, q2, _, _⟩ := blk_cells hG.blk
  clear hG
  go_wp2_with fail
  go_ret
  exact ⟨rfl, hb1⟩
set_option maxHeartbeats 1000000 in
theorem Components_ok (q : Nat) (l : List Spec) (w : World) (h : TrAt w q l) : Calls Tryz.prog 12 #[.pointer (some ⟨q, 0, none⟩)] w fun e w' => e = .returned (.int .i64 (growL l).count) ∧ Below w.heap.size w w' := by
  go_enter Tryz.func12, Tryz.ntmps12
  go_wp2_with fail
  refine (growth_ok q l _ h).mono ?_
  rintro e w1 ⟨p, b, rfl, hG, hp0, hb0, hb1⟩
  obtain ⟨_, _, q2, _, _⟩ := blk_cells hG.blk
  clear hG
  go_wp2_with fail
  go_ret
  exact ⟨rfl, hb1⟩
set_option maxHeartbeats 4000000 in
theorem JoinedN_ok (da db : Die) (w : World) (hda : wfD da) (hdb : wfD db) : Calls Tryz.prog 14 #[.pointer none, vlD da, vlD db] w fun e w' => e = .returned (.bool (joinB (edgesS []) da db)) ∧ Below w.heap.size w w' := by
  obtain ⟨X0, hX0, HzX0, hbX0, hltX0, hcX0⟩ := boxed w #[.int .i64 da.side, .int .i64 da.num] 24
  obtain ⟨X1, hX1, HzX1, hbX1, hltX1, hcX1⟩ := boxed X0 #[.int .i64 db.side, .int .i64 db.num] 24
  have hX := below_trans hbX0 hbX1
  have a0 := cell_later hbX1 (hcX0 0 _ rfl); have a1 := cell_later hbX1 (hcX0 1 _ rfl)
  have b0 := hcX1 0 _ rfl; have b1 := hcX1 1 _ rfl
  clear hcX0 hcX1
  go_enter Tryz.func14, Tryz.ntmps14
  go_wp2_with fail
  have hba : Below X1.heap.size X1 X1.drew := (Below.refl _ _).drew
  obtain ⟨wa, hwa⟩ : ∃ W, X1.drew = W := ⟨_, rfl⟩
  rw [hwa] at hba
  have a0 := cell_later hba a0; have a1 := cell_later hba a1; have b0 := cell_later hba b0; have b1 := cell_later hba b1
  have hHeld : wa.cell? ⟨w.heap.size, 0, none⟩ = some (.int .i64 da.side) ∧ wa.cell? ⟨w.heap.size, 1, none⟩ = some (.int .i64 da.num) ∧ wa.cell? ⟨X0.heap.size, 0, none⟩ = some (.int .i64 db.side) ∧ wa.cell? ⟨X0.heap.size, 1, none⟩ = some (.int .i64 db.num) := ⟨a0, a1, b0, b1⟩
  have HS := Lib.hid hHeld
  have HB := Lib.hid (below_trans hX hba)
  refine wp_region_S 5 (fun w' => w'.cell? ⟨w.heap.size, 0, none⟩ = some (.int .i64 da.side) ∧ w'.cell? ⟨w.heap.size, 1, none⟩ = some (.int .i64 da.num) ∧ w'.cell? ⟨X0.heap.size, 0, none⟩ = some (.int .i64 db.side) ∧ w'.cell? ⟨X0.heap.size, 1, none⟩ = some (.int .i64 db.num)) (by kernel_rfl) (by decide) ?_
  rw [hwa]
  clear hwa hX0 hX1 a0 a1 b0 b1
  refine wpAnyS_takeD 0 (some 7) (.pointer none) (by rfl) (by rfl) (by kernel_rfl) (by exact fun _ _ _ h => h) (by rfl) (fun w' hS => by go_simp) hHeld ?_
  simp only [Act.put, List.setIfInBounds_toArray, List.set_cons_succ, List.set_cons_zero]
  refine wpAnyS_takeD 2 (some 9) (vlD da) (by rfl) (by rfl) (by kernel_rfl) (by exact fun _ _ _ h => h) (by rfl) (fun w' hS => by (obtain ⟨x0, x1, x2, x3⟩ := hS; go_simp)) hHeld ?_
  simp only [Act.put, List.setIfInBounds_toArray, List.set_cons_succ, List.set_cons_zero]
  refine wpAnyS_takeD 3 (some 10) (vlD db) (by rfl) (by rfl) (by kernel_rfl) (by exact fun _ _ _ h => h) (by rfl) (fun w' hS => by (obtain ⟨x0, x1, x2, x3⟩ := hS; go_simp)) hHeld ?_
  simp only [Act.put, List.setIfInBounds_toArray, List.set_cons_succ, List.set_cons_zero]
  clear hHeld
  refine wpAnyS_one 1 (by kernel_rfl) (by rfl) (by decide) (fun K hK => ?_)
  have HK := Lib.hid hK; clear hK
  rw [if_pos (by rfl)]
  go_simp
  refine (growthN_ok _).mono ?_
  rintro e w1 ⟨p, b, rfl, hG, hp0, hb0, hb1⟩
  obtain ⟨y0, y1, y2, y3⟩ := HS.out
  have z0 := cell_later hb1 y0; have z1 := cell_later hb1 y1; have z2 := cell_later hb1 y2; have z3 := cell_later hb1 y3
  refine HK.out _ _ ⟨z0, z1, z2, z3⟩ ?_
  have HB1 := Lib.hid (below_trans HB.out hb1)
  clear HK HS HB y0 y1 y2 y3
  refine wpAnyS_one 4 (by kernel_rfl) (by rfl) (by decide) (fun K hK => ?_)
  have HK := Lib.hid hK; clear hK
  rw [if_pos (by rfl)]
  go_simp
  refine (joined_ok p b da db _ w1 hG hda hdb).mono ?_
  rintro e w2 ⟨rfl, hb2⟩
  refine HK.out _ _ ⟨cell_later hb2 z0, cell_later hb2 z1, cell_later hb2 z2, cell_later hb2 z3⟩ ?_
  rw [← (ninv_list []).joined]
  clear HK z0 z1 z2 z3 hG
  refine (show tailOf _ _ _ _ _ _ _ _ from ⟨by kernel_rfl, ?_⟩)
  simp only [List.drop_succ_cons, List.drop_zero]
  go_wp2_with fail
  go_ret
  exact ⟨rfl, below_trans HB1.out hb2⟩
set_option maxHeartbeats 4000000 in
theorem Joined_ok (q : Nat) (l : List Spec) (da db : Die) (w : World) (h : TrAt w q l) (hda : wfD da) (hdb : wfD db) : Calls Tryz.prog 14 #[.pointer (some ⟨q, 0, none⟩), vlD da, vlD db] w fun e w' => e = .returned (.bool (joinB (edgesS l) da db)) ∧ Below w.heap.size w w' := by
  obtain ⟨X0, hX0, HzX0, hbX0, hltX0, hcX0⟩ := boxed w #[.int .i64 da.side, .int .i64 da.num] 24
  obtain ⟨X1, hX1, HzX1, hbX1, hltX1, hcX1⟩ := boxed X0 #[.int .i64 db.side, .int .i64 db.num] 24
  have hX := below_trans hbX0 hbX1
  have a0 := cell_later hbX1 (hcX0 0 _ rfl); have a1 := cell_later hbX1 (hcX0 1 _ rfl)
  have b0 := hcX1 0 _ rfl; have b1 := hcX1 1 _ rfl
  clear hcX0 hcX1
  go_enter Tryz.func14, Tryz.ntmps14
  go_wp2_with fail
  have hba : Below X1.heap.size X1 X1.drew := (Below.refl _ _).drew
  obtain ⟨wa, hwa⟩ : ∃ W, X1.drew = W := ⟨_, rfl⟩
  rw [hwa] at hba
  have a0 := cell_later hba a0; have a1 := cell_later hba a1; have b0 := cell_later hba b0; have b1 := cell_later hba b1
  have hHeld : wa.cell? ⟨w.heap.size, 0, none⟩ = some (.int .i64 da.side) ∧ wa.cell? ⟨w.heap.size, 1, none⟩ = some (.int .i64 da.num) ∧ wa.cell? ⟨X0.heap.size, 0, none⟩ = some (.int .i64 db.side) ∧ wa.cell? ⟨X0.heap.size, 1, none⟩ = some (.int .i64 db.num) := ⟨a0, a1, b0, b1⟩
  have HS := Lib.hid hHeld
  have HB := Lib.hid (below_trans hX hba)
  refine wp_region_S 5 (fun w' => w'.cell? ⟨w.heap.size, 0, none⟩ = some (.int .i64 da.side) ∧ w'.cell? ⟨w.heap.size, 1, none⟩ = some (.int .i64 da.num) ∧ w'.cell? ⟨X0.heap.size, 0, none⟩ = some (.int .i64 db.side) ∧ w'.cell? ⟨X0.heap.size, 1, none⟩ = some (.int .i64 db.num)) (by kernel_rfl) (by decide) ?_
  rw [hwa]
  clear hwa hX0 hX1 a0 a1 b0 b1
  refine wpAnyS_takeD 0 (some 7) (.pointer (some ⟨q, 0, none⟩)) (by rfl) (by rfl) (by kernel_rfl) (by exact fun _ _ _ h => h) (by rfl) (fun w' hS => by go_simp) hHeld ?_
  simp only [Act.put, List.setIfInBounds_toArray, List.set_cons_succ, List.set_cons_zero]
  refine wpAnyS_takeD 2 (some 9) (vlD da) (by rfl) (by rfl) (by kernel_rfl) (by exact fun _ _ _ h => h) (by rfl) (fun w' hS => by (obtain ⟨x0, x1, x2, x3⟩ := hS; go_simp)) hHeld ?_
  simp only [Act.put, List.setIfInBounds_toArray, List.set_cons_succ, List.set_cons_zero]
  refine wpAnyS_takeD 3 (some 10) (vlD db) (by rfl) (by rfl) (by kernel_rfl) (by exact fun _ _ _ h => h) (by rfl) (fun w' hS => by (obtain ⟨x0, x1, x2, x3⟩ := hS; go_simp)) hHeld ?_
  simp only [Act.put, List.setIfInBounds_toArray, List.set_cons_succ, List.set_cons_zero]
  clear hHeld
  refine wpAnyS_one 1 (by kernel_rfl) (by rfl) (by decide) (fun K hK => ?_)
  have HK := Lib.hid hK; clear hK
  rw [if_pos (by rfl)]
  go_simp
  refine (growth_ok q l _ (h.below (below_trans hX hba))).mono ?_
  rintro e w1 ⟨p, b, rfl, hG, hp0, hb0, hb1⟩
  obtain ⟨y0, y1, y2, y3⟩ := HS.out
  have z0 := cell_later hb1 y0; have z1 := cell_later hb1 y1; have z2 := cell_later hb1 y2; have z3 := cell_later hb1 y3
  refine HK.out _ _ ⟨z0, z1, z2, z3⟩ ?_
  have HB1 := Lib.hid (below_trans HB.out hb1)
  clear HK HS HB y0 y1 y2 y3
  refine wpAnyS_one 4 (by kernel_rfl) (by rfl) (by decide) (fun K hK => ?_)
  have HK := Lib.hid hK; clear hK
  rw [if_pos (by rfl)]
  go_simp
  refine (joined_ok p b da db _ w1 hG hda hdb).mono ?_
  rintro e w2 ⟨rfl, hb2⟩
  refine HK.out _ _ ⟨cell_later hb2 z0, cell_later hb2 z1, cell_later hb2 z2, cell_later hb2 z3⟩ ?_
  rw [← (ninv_list l).joined]
  clear HK z0 z1 z2 z3 hG
  refine (show tailOf _ _ _ _ _ _ _ _ from ⟨by kernel_rfl, ?_⟩)
  simp only [List.drop_succ_cons, List.drop_zero]
  go_wp2_with fail
  go_ret
  exact ⟨rfl, below_trans HB1.out hb2⟩
end Go.Proofs.YtgpbdembjdileaaGreatDoor
/- The tracker of package joining: Clone, Undo; specimen.Find. Condition: the tracker in its memory. -/
namespace Go.Proofs.YtgpbdembjdileaaGreatDoor
open Go.RowKit Go.Maps

theorem SlOf.cut {α : Type} {enc : α → List Value} {k : Nat} {w : World} {A : Option Addr} {n c m : Nat} {xs : List α} (h : SlOf enc k w (.slice A n c) xs) (hk : ∀ x, (enc x).length = k) (hm : m ≤ n) : SlOf enc k w (.slice A m c) (xs.take m) := by
  obtain ⟨A', c', e, h1, h2, h3, h4⟩ := h
  cases e
  have hl : (xs.take m).length = m := by rw [List.length_take]; omega
  have hfl := flat_len enc k hk
  refine ⟨A, c, by rw [hl], by omega, h2, by rw [hfl], fun hp => ?_⟩
  obtain ⟨b, o, e, hb, hc⟩ := h4 (by omega)
  refine ⟨b, o, e, hb, fun j u hu => hc j u ?_⟩
  have : xs.flatMap enc = (xs.take m).flatMap enc ++ (xs.drop m).flatMap enc := by rw [← List.flatMap_append, List.take_append_drop]
  rw [this, List.getElem?_append_left (List.getElem?_eq_some_iff.1 hu).1]
  exact hu
theorem heap_set7 {w : World} {g : Nat} {a b c d e f k x0 x1 x2 x3 x4 x5 x6 : Value} {t : TypeId} (h : w.heap[g]? = some (.cells [a, b, c, d, e, f, k].toArray t (0, 0))) :
    (((((((w.setCell ⟨g, 0, none⟩ x0).setCell ⟨g, 1, none⟩ x1).setCell ⟨g, 2, none⟩ x2).setCell ⟨g, 3, none⟩ x3).setCell ⟨g, 4, none⟩ x4).setCell ⟨g, 5, none⟩ x5).setCell ⟨g, 6, none⟩ x6).heap[g]? = some (.cells #[x0, x1, x2, x3, x4, x5, x6] t (0, 0)) := heap_setCells [x0, x1, x2, x3, x4, x5, x6] [] [a, b, c, d, e, f, k] w h rfl
theorem below_set7 {B g : Nat} {a w : World} {x0 x1 x2 x3 x4 x5 x6 : Value} (h : Below B a w) (hg : B ≤ g) (hB : B ≤ w.heap.size) : Below B a (((((((w.setCell ⟨g, 0, none⟩ x0).setCell ⟨g, 1, none⟩ x1).setCell ⟨g, 2, none⟩ x2).setCell ⟨g, 3, none⟩ x3).setCell ⟨g, 4, none⟩ x4).setCell ⟨g, 5, none⟩ x5).setCell ⟨g, 6, none⟩ x6) :=
  h.grown (setCells_grown g [x0, x1, x2, x3, x4, x5, x6] w 0) hB (fun j e => by cases e; exact hg)
set_option maxHeartbeats 4000000 in
set_option maxRecDepth 100000 in
theorem Find_ok (v : Value) (l : List Spec) (id : Int) (w : World) (h : Specs w v l) :
    Calls Tryz.prog 36 #[v, .int .i64 id] w fun e w' => ∃ s : Spec, e = .returned (.tuple #[valS s, .bool (decide (id ∈ l.map Spec.id))]) ∧ Below w.heap.size w w' := by
  obtain ⟨A, c, rfl, _, _, hc⟩ := h.cells
  obtain ⟨W, hW, Hz, hbW, hltW, _⟩ := boxed w #[.int .i64 0, .int .i64 0, .int .i64 0, .int .i64 0, .int .i64 0, .int .i64 0, .int .i64 0] 47
  have hk : W.heap[w.heap.size]? = some (.cells [.int .i64 0, .int .i64 0, .int .i64 0, .int .i64 0, .int .i64 0, .int .i64 0, .int .i64 0].toArray 47 (0, 0)) := by rw [← hW]; exact heap_alloc_new _ _
  have Hk := Lib.hid hk; clear hk
  go_enter Tryz.func36, Tryz.ntmps36
  go_wp2_with fail
  clear hW
  go_loopw [10] (fun i wr => ∃ k : Nat, k ≤ l.length ∧ i = .int .i64 k ∧ Below W.heap.size W wr ∧ ∀ s ∈ l.take k, s.id ≠ id) (fun i _ => l.length - (intOf i).toNat)
  case atStart => exact ⟨0, Nat.zero_le _, rfl, Below.refl _ _, fun s hs => by simp at hs⟩
  case round =>
    obtain ⟨k, hk, rfl, hb, hno⟩ := hrel
    have HN := Lib.hid hno; clear hno
    have Hkr := Lib.hid (heap_below Hk.out hb hltW)
    have hbw := below_trans hbW hb
    by_cases hlt : k < l.length
    · obtain ⟨bo, o, rfl, hbb, hc⟩ := hc k hlt
      obtain ⟨x, hx⟩ := get_of_lt hlt
      obtain ⟨y0, y1, y2, y3, y4, y5, y6⟩ := hc wr hbw k x hx
      obtain ⟨V1, V2, hV1, hV2, HzV2, hkV1, hkV2, hbV2, hltV2⟩ := fresh wr [.int .i64 0, .int .i64 0, .int .i64 0, .int .i64 0, .int .i64 0, .int .i64 0, .int .i64 0] [.int .i64 (x).id, .int .i64 (x).obv, .int .i64 (x).rev, .int .i64 (x).os, .int .i64 (x).rs, .int .i64 (x).ax, .int .i64 (x).wt] 47 rfl
      have hsV2 : ((((((V1.setCell ⟨wr.heap.size, 0, none⟩ (.int .i64 (x).id)).setCell ⟨wr.heap.size, 1, none⟩ (.int .i64 (x).obv)).setCell ⟨wr.heap.size, 2, none⟩ (.int .i64 (x).rev)).setCell ⟨wr.heap.size, 3, none⟩ (.int .i64 (x).os)).setCell ⟨wr.heap.size, 4, none⟩ (.int .i64 (x).rs)).setCell ⟨wr.heap.size, 5, none⟩ (.int .i64 (x).ax)).setCell ⟨wr.heap.size, 6, none⟩ (.int .i64 (x).wt) = V2 := hV2
      clear hV2
      obtain ⟨⟨z0, z1, z2, z3, z4, z5, z6⟩, f0, f1, f2, f3, f4, f5, f6⟩ := cellsS hkV1
      clear hkV1
      obtain ⟨⟨s0, s1, s2, s3, s4, s5, s6⟩, _⟩ := cellsS hkV2
      have Hx := Lib.hid hx
      clear hx hc
      cases hid : (x.id == id)
      · have hne : x.id ≠ id := by simpa using hid
        have Hne := Lib.hid hne; clear hne
        go_wp2_with fail
        refine ⟨?rel, ?measure⟩
        case rel => exact ⟨k + 1, by omega, by go_num, below_trans hb hbV2, fun s hs => by rw [take_snoc' Hx.out, List.mem_append, List.mem_singleton] at hs; rcases hs with hs | rfl; exact HN.out s hs; exact Hne.out⟩
        case measure => simp [intOf]; omega
      · have he : x.id = id := by simpa using hid
        have hin : decide (id ∈ l.map Spec.id) = true := by rw [decide_eq_true_eq, ← he]; exact List.mem_map_of_mem (f := Spec.id) (List.mem_of_getElem? Hx.out)
        have Hin := Lib.hid hin; clear hin he
        have hk2 := heap_below Hkr.out hbV2 (heap_lt Hkr.out)
        have Hk2 := Lib.hid hk2
        obtain ⟨⟨r0, r1, r2, r3, r4, r5, r6⟩, g0, g1, g2, g3, g4, g5, g6⟩ := cellsS hk2
        clear hk2
        go_wp2_with fail
        refine bodyPost_ret (results_cell_tmp_row rfl _ _ w.heap.size 47 #[.int .i64 x.id, .int .i64 x.obv, .int .i64 x.rev, .int .i64 x.os, .int .i64 x.rs, .int .i64 x.ax, .int .i64 x.wt] (0, 0) _ (by simp) (heap_set7 Hk2.out) Tryz.underlying47 rfl (by kernel_rfl)) rfl ⟨x, ?_, below_set7 (below_trans hbw hbV2) (Nat.le_refl _) (below_trans hbw hbV2).size⟩
        rw [Hin.out]; rfl
    · have hin : decide (id ∈ l.map Spec.id) = false := by
        rw [decide_eq_false_iff_not]
        intro hm
        obtain ⟨s, hs, e⟩ := List.mem_map.1 hm
        exact HN.out s (by rw [List.take_of_length_le (by omega)]; exact hs) e
      have Hin := Lib.hid hin; clear hin hc
      obtain ⟨⟨r0, r1, r2, r3, r4, r5, r6⟩, g0, g1, g2, g3, g4, g5, g6⟩ := cellsS Hkr.out
      go_wp2_with fail
      refine bodyPost_ret (results_cell_tmp_row rfl _ _ w.heap.size 47 #[.int .i64 0, .int .i64 0, .int .i64 0, .int .i64 0, .int .i64 0, .int .i64 0, .int .i64 0] (0, 0) _ (by simp) (heap_set7 Hkr.out) Tryz.underlying47 rfl (by kernel_rfl)) rfl ⟨⟨0, 0, 0, 0, 0, 0, 0⟩, ?_, below_set7 hbw (Nat.le_refl _) hbw.size⟩
      rw [Hin.out]; rfl
end Go.Proofs.YtgpbdembjdileaaGreatDoor
/- The tracker of package joining: Add. Condition: the tracker in its memory. -/
namespace Go.Proofs.YtgpbdembjdileaaGreatDoor
open Go.RowKit Go.Maps

/-- What Add says: the error. -/
def addE (l : List Spec) (s : Spec) : Int := if specB s = true then (if s.id ∈ l.map Spec.id then 8 else if ofE (l ++ [s]) = 0 then 0 else 6) else 1
def addB (l : List Spec) (s : Spec) : Bool := decide (addE l s = 0) && (apartG s (growL l) && thereG s (growL l))
def addL (l : List Spec) (s : Spec) : List Spec := if addE l s = 0 then l ++ [s] else l
theorem addE_1 {l : List Spec} {s : Spec} (h : specB s = false) : addE l s = 1 := by simp [addE, h]
theorem addE_8 {l : List Spec} {s : Spec} (h : specB s = true) (k : s.id ∈ l.map Spec.id) : addE l s = 8 := by rw [addE, if_pos h, if_pos k]
theorem addE_6 {l : List Spec} {s : Spec} (h : specB s = true) (k : s.id ∉ l.map Spec.id) (m : ofE (l ++ [s]) ≠ 0) : addE l s = 6 := by rw [addE, if_pos h, if_neg k, if_neg m]
theorem addE_0 {l : List Spec} {s : Spec} (h : specB s = true) (k : s.id ∉ l.map Spec.id) (m : ofE (l ++ [s]) = 0) : addE l s = 0 := by rw [addE, if_pos h, if_neg k, if_pos m]
theorem add_no {l : List Spec} {s : Spec} (h : addE l s ≠ 0) : addB l s = false ∧ addL l s = l := ⟨by simp [addB, h], by rw [addL, if_neg h]⟩
theorem add_yes {l : List Spec} {s : Spec} (h : addE l s = 0) : addB l s = (apartG s (growL l) && thereG s (growL l)) ∧ addL l s = l ++ [s] := ⟨by simp [addB, h], by rw [addL, if_pos h]⟩

set_option maxHeartbeats 1000000 in
theorem AddN_ok (s : Spec) (w : World) : Calls Tryz.prog 13 #[.pointer none, valS s] w fun e w' => e = .returned (.tuple #[.bool false, .int .i64 1]) ∧ Below w.heap.size w w' := by
  obtain ⟨W, hW, Hz, hbW, hltW, hc0⟩ := boxed w #[.int .i64 s.id, .int .i64 s.obv, .int .i64 s.rev, .int .i64 s.os, .int .i64 s.rs, .int .i64 s.ax, .int .i64 s.wt] 47
  clear hc0
  go_enter Tryz.func13, Tryz.ntmps13
  go_wp2_with fail
  exact bodyPost_ret (v := .tuple #[.bool false, .int .i64 1]) (by simp [results, Tryz.results13, go_sem]) rfl ⟨rfl, hbW⟩
set_option maxHeartbeats 8000000 in
set_option maxRecDepth 100000 in
theorem Add_ok (q : Nat) (l : List Spec) (s : Spec) (w : World) (h : TrAt w q l) : Calls Tryz.prog 13 #[.pointer (some ⟨q, 0, none⟩), valS s] w fun e w' => e = .returned (.tuple #[.bool (addB l s), .int .i64 (addE l s)]) ∧ TrAt w' q (addL l s) ∧ Touch w w' [q] := by
  obtain ⟨W, hW, Hz, hbW, hltW, hc0⟩ := boxed w #[.int .i64 s.id, .int .i64 s.obv, .int .i64 s.rev, .int .i64 s.os, .int .i64 s.rs, .int .i64 s.ax, .int .i64 s.wt] 47
  have a0 := hc0 0 _ rfl; have a1 := hc0 1 _ rfl; have a2 := hc0 2 _ rfl; have a3 := hc0 3 _ rfl; have a4 := hc0 4 _ rfl; have a5 := hc0 5 _ rfl; have a6 := hc0 6 _ rfl
  have hT := h.below hbW
  clear hc0
  go_enter Tryz.func13, Tryz.ntmps13
  go_wp2_with fail
  refine (SValid_ok s _).mono ?_
  rintro e w1 ⟨rfl, hb1⟩
  have a0 := cell_later hb1 a0; have a1 := cell_later hb1 a1; have a2 := cell_later hb1 a2; have a3 := cell_later hb1 a3; have a4 := cell_later hb1 a4; have a5 := cell_later hb1 a5; have a6 := cell_later hb1 a6
  have hT := hT.below hb1
  have hw1 := below_trans hbW hb1
  clear hW
  cases hv : specB s
  · have HE := Lib.hid (addE_1 (l := l) hv)
    clear a0 a1 a2 a3 a4 a5 a6 hv
    go_wp2_with fail
    have hA := add_no (l := l) (s := s) (by rw [HE.out]; decide)
    exact bodyPost_ret (v := .tuple #[.bool false, .int .i64 1]) (by simp [results, Tryz.results13, go_sem]) rfl ⟨by rw [hA.1, HE.out], by rw [hA.2]; exact hT, touch_below hw1 _⟩
  have Hv := Lib.hid hv; clear hv
  go_wp2_with fail
  obtain ⟨D, hD⟩ : ∃ D, decide (s.id ∈ l.map Spec.id) = D := ⟨_, rfl⟩
  have HD := Lib.hid hD; clear hD
  go_cut [7] (fun s7 wc => s7 = .bool D ∧ Below w1.heap.size w1 wc)
  case first =>
    have hba : Below w1.heap.size w1 w1.drew := (Below.refl _ _).drew
    obtain ⟨wa, hwa⟩ : ∃ W, w1.drew = W := ⟨_, rfl⟩
    rw [hwa] at hba
    obtain ⟨A, c, hq, hS⟩ := (hT.below hba).ex
    have q0 : wa.cell? ⟨q, 0, none⟩ = some (.slice A l.length c) := heap_cell hq
    have hHeld : wa.cell? ⟨q, 0, none⟩ = some (.slice A l.length c) ∧ wa.cell? ⟨w.heap.size, 0, none⟩ = some (.int .i64 s.id) := ⟨q0, cell_later hba a0⟩
    have HH := Lib.hid hHeld
    refine wp_region_S 12 (fun w' => w'.cell? ⟨q, 0, none⟩ = some (.slice A l.length c) ∧ w'.cell? ⟨w.heap.size, 0, none⟩ = some (.int .i64 s.id)) (by kernel_rfl) (by decide) ?_
    rw [hwa]
    clear hwa q0 hq hT a0 a1 a2 a3 a4 a5 a6
    refine wpAnyS_takeD 0 (some 21) (.pointer (some ⟨q, 0, none⟩)) (by rfl) (by rfl) (by kernel_rfl) (by exact fun _ _ _ h => h) (by rfl) (fun w' hS => by go_simp) hHeld ?_
    simp only [Act.put, List.setIfInBounds_toArray, List.set_cons_succ, List.set_cons_zero]
    refine wpAnyS_takeD 1 (some 22) (.pointer (some ⟨q, 0, none⟩)) (by rfl) (by rfl) (by kernel_rfl) (by exact fun _ _ _ h => h) (by rfl) (fun w' hS => by go_simp) hHeld ?_
    simp only [Act.put, List.setIfInBounds_toArray, List.set_cons_succ, List.set_cons_zero]
    refine wpAnyS_takeD 2 (some 23) (.pointer (some ⟨q, 0, none⟩)) (by rfl) (by rfl) (by kernel_rfl) (by exact fun _ _ _ h => h) (by rfl) (fun w' hS => by go_simp) hHeld ?_
    simp only [Act.put, List.setIfInBounds_toArray, List.set_cons_succ, List.set_cons_zero]
    refine wpAnyS_takeD 3 (some 24) (.slice A l.length c) (by rfl) (by rfl) (by kernel_rfl) (by exact fun _ _ _ h => h) (by rfl) (fun w' hS => by (obtain ⟨x0, x1⟩ := hS; go_simp)) hHeld ?_
    simp only [Act.put, List.setIfInBounds_toArray, List.set_cons_succ, List.set_cons_zero]
    refine wpAnyS_takeD 4 (some 25) (.pointer (some ⟨w.heap.size, 0, none⟩)) (by rfl) (by rfl) (by kernel_rfl) (by exact fun _ _ _ h => h) (by rfl) (fun w' hS => by go_simp) hHeld ?_
    simp only [Act.put, List.setIfInBounds_toArray, List.set_cons_succ, List.set_cons_zero]
    refine wpAnyS_takeD 5 (some 26) (.int .i64 s.id) (by rfl) (by rfl) (by kernel_rfl) (by exact fun _ _ _ h => h) (by rfl) (fun w' hS => by (obtain ⟨x0, x1⟩ := hS; go_simp)) hHeld ?_
    simp only [Act.put, List.setIfInBounds_toArray, List.set_cons_succ, List.set_cons_zero]
    clear hHeld
    refine wpAnyS_two 6 10 (by kernel_rfl) (by rfl) (by rfl) (by decide) (by decide) (fun K hK => ?_) (fun K hK => ?_)
    · have HK := Lib.hid hK; clear hK
      rw [if_pos (by rfl)]
      go_simp
      have hF := Find_ok _ l s.id wa hS
      rw [HD.out] at hF
      refine hF.mono ?_
      rintro e w3 ⟨s', rfl, hb3⟩
      have hHeld : w3.cell? ⟨q, 0, none⟩ = some (.slice A l.length c) ∧ w3.cell? ⟨w.heap.size, 0, none⟩ = some (.int .i64 s.id) := ⟨cell_later hb3 HH.out.1, cell_later hb3 HH.out.2⟩
      refine HK.out _ _ hHeld ?_
      clear HK
      refine wpAnyS_takeD 7 (some 20) (.tuple #[valS s', .bool D]) (by rfl) (by rfl) (by kernel_rfl) (by exact fun _ _ _ h => h) (by rfl) (fun w' hS => by go_simp) hHeld ?_
      simp only [Act.put, List.setIfInBounds_toArray, List.set_cons_succ, List.set_cons_zero]
      refine wpAnyS_takeD 8 (some 28) (valS s') (by rfl) (by rfl) (by kernel_rfl) (by exact fun _ _ _ h => h) (by rfl) (fun w' hS => by go_simp) hHeld ?_
      simp only [Act.put, List.setIfInBounds_toArray, List.set_cons_succ, List.set_cons_zero]
      refine wpAnyS_takeD 9 (some 29) (.bool D) (by rfl) (by rfl) (by kernel_rfl) (by exact fun _ _ _ h => h) (by rfl) (fun w' hS => by go_simp) hHeld ?_
      simp only [Act.put, List.setIfInBounds_toArray, List.set_cons_succ, List.set_cons_zero]
      have H3 := Lib.hid hHeld; clear hHeld
      obtain ⟨V1, V2, hV1, hV2, HzV2, hkV1, hkV2, hbV2, hltV2⟩ := fresh w3 [.int .i64 0, .int .i64 0, .int .i64 0, .int .i64 0, .int .i64 0, .int .i64 0, .int .i64 0] [.int .i64 (s').id, .int .i64 (s').obv, .int .i64 (s').rev, .int .i64 (s').os, .int .i64 (s').rs, .int .i64 (s').ax, .int .i64 (s').wt] 47 rfl
      have hsV2 : ((((((V1.setCell ⟨w3.heap.size, 0, none⟩ (.int .i64 (s').id)).setCell ⟨w3.heap.size, 1, none⟩ (.int .i64 (s').obv)).setCell ⟨w3.heap.size, 2, none⟩ (.int .i64 (s').rev)).setCell ⟨w3.heap.size, 3, none⟩ (.int .i64 (s').os)).setCell ⟨w3.heap.size, 4, none⟩ (.int .i64 (s').rs)).setCell ⟨w3.heap.size, 5, none⟩ (.int .i64 (s').ax)).setCell ⟨w3.heap.size, 6, none⟩ (.int .i64 (s').wt) = V2 := hV2
      clear hV2
      obtain ⟨⟨z0, z1, z2, z3, z4, z5, z6⟩, f0, f1, f2, f3, f4, f5, f6⟩ := cellsS hkV1
      clear hkV1
      obtain ⟨⟨s0, s1, s2, s3, s4, s5, s6⟩, _⟩ := cellsS hkV2
      refine wpAnyS_one 10 (by kernel_rfl) (by rfl) (by decide) (fun K hK => ?_)
      have HK := Lib.hid hK; clear hK
      rw [if_pos (by rfl)]
      go_simp
      have hbV1 : Below w3.heap.size w3 V1 := by rw [← hV1]; exact (Below.refl _ _).alloc (Nat.le_refl _) _
      refine HK.out _ _ ⟨cell_later hbV1 H3.out.1, cell_later hbV1 H3.out.2⟩ ?_
      clear HK
      refine wpAnyS_one 11 (by kernel_rfl) (by rfl) (by decide) (fun K hK => ?_)
      have HK := Lib.hid hK; clear hK
      rw [if_pos (by rfl)]
      go_simp
      refine HK.out _ _ ⟨cell_later hbV2 H3.out.1, cell_later hbV2 H3.out.2⟩ ?_
      clear HK
      refine (show tailOf _ _ _ _ _ _ _ _ from ⟨by kernel_rfl, ?_⟩)
      simp only [List.drop_succ_cons, List.drop_zero]
      go_wp2_with fail
      go_meet
      exact ⟨rfl, below_trans hba (below_trans hb3 hbV2)⟩
    · have HK := Lib.hid hK; clear hK
      obtain ⟨V1, hV1⟩ : ∃ z, wa.alloc (.cells #[.int .i64 0, .int .i64 0, .int .i64 0, .int .i64 0, .int .i64 0, .int .i64 0, .int .i64 0] 47) = z := ⟨_, rfl⟩
      have hkV : V1.heap[wa.heap.size]? = some (.cells [.int .i64 0, .int .i64 0, .int .i64 0, .int .i64 0, .int .i64 0, .int .i64 0, .int .i64 0].toArray 47 (0, 0)) := by rw [← hV1]; exact heap_alloc_new _ _
      have hbV1 : Below wa.heap.size wa V1 := by rw [← hV1]; exact (Below.refl _ _).alloc (Nat.le_refl _) _
      rw [if_pos (by rfl)]
      go_simp
      refine HK.out _ _ ⟨cell_later hbV1 HH.out.1, cell_later hbV1 HH.out.2⟩ ?_
      clear HK
      refine wpAnyS_one 6 (by kernel_rfl) (by rfl) (by decide) (fun K hK => ?_)
      have HK := Lib.hid hK; clear hK
      rw [if_pos (by rfl)]
      go_simp
      have hF := Find_ok _ l s.id V1 (hS.below hbV1)
      rw [HD.out] at hF
      refine hF.mono ?_
      rintro e w3 ⟨s', rfl, hb3⟩
      have hHeld : w3.cell? ⟨q, 0, none⟩ = some (.slice A l.length c) ∧ w3.cell? ⟨w.heap.size, 0, none⟩ = some (.int .i64 s.id) := ⟨cell_later hb3 (cell_later hbV1 HH.out.1), cell_later hb3 (cell_later hbV1 HH.out.2)⟩
      refine HK.out _ _ hHeld ?_
      clear HK
      have hk3 := heap_below hkV hb3 (heap_lt hkV)
      refine wpAnyS_takeD 7 (some 20) (.tuple #[valS s', .bool D]) (by rfl) (by rfl) (by kernel_rfl) (by exact fun _ _ _ h => h) (by rfl) (fun w' hS => by go_simp) hHeld ?_
      simp only [Act.put, List.setIfInBounds_toArray, List.set_cons_succ, List.set_cons_zero]
      refine wpAnyS_takeD 8 (some 28) (valS s') (by rfl) (by rfl) (by kernel_rfl) (by exact fun _ _ _ h => h) (by rfl) (fun w' hS => by go_simp) hHeld ?_
      simp only [Act.put, List.setIfInBounds_toArray, List.set_cons_succ, List.set_cons_zero]
      refine wpAnyS_takeD 9 (some 29) (.bool D) (by rfl) (by rfl) (by kernel_rfl) (by exact fun _ _ _ h => h) (by rfl) (fun w' hS => by go_simp) hHeld ?_
      simp only [Act.put, List.setIfInBounds_toArray, List.set_cons_succ, List.set_cons_zero]
      clear hHeld
      obtain ⟨⟨r0, r1, r2, r3, r4, r5, r6⟩, g0, g1, g2, g3, g4, g5, g6⟩ := cellsS hk3
      obtain ⟨V3, hV3⟩ : ∃ z, (((((((w3.setCell ⟨wa.heap.size, 0, none⟩ (.int .i64 s'.id)).setCell ⟨wa.heap.size, 1, none⟩ (.int .i64 s'.obv)).setCell ⟨wa.heap.size, 2, none⟩ (.int .i64 s'.rev)).setCell ⟨wa.heap.size, 3, none⟩ (.int .i64 s'.os)).setCell ⟨wa.heap.size, 4, none⟩ (.int .i64 s'.rs)).setCell ⟨wa.heap.size, 5, none⟩ (.int .i64 s'.ax)).setCell ⟨wa.heap.size, 6, none⟩ (.int .i64 s'.wt)) = z := ⟨_, rfl⟩
      have hb9 := hbV1.trans (hb3.mono hbV1.size)
      have hbV3 : Below wa.heap.size wa V3 := by rw [← hV3]; exact below_set7 hb9 (Nat.le_refl _) hb9.size
      clear hk3 hkV
      refine wpAnyS_one 11 (by kernel_rfl) (by rfl) (by decide) (fun K hK => ?_)
      have HK := Lib.hid hK; clear hK
      rw [if_pos (by rfl)]
      go_simp
      refine HK.out _ _ ⟨cell_later hbV3 HH.out.1, cell_later hbV3 HH.out.2⟩ ?_
      clear HK
      refine (show tailOf _ _ _ _ _ _ _ _ from ⟨by kernel_rfl, ?_⟩)
      simp only [List.drop_succ_cons, List.drop_zero]
      go_wp2_with fail
      go_meet
      exact ⟨rfl, below_trans hba hbV3⟩
  case rest =>
    obtain ⟨rfl, hbc⟩ := hcut
    obtain ⟨wd, hwd⟩ : ∃ z, z = wc := ⟨_, rfl⟩
    subst hwd
    have a0 := cell_later hbc a0; have a1 := cell_later hbc a1; have a2 := cell_later hbc a2; have a3 := cell_later hbc a3; have a4 := cell_later hbc a4; have a5 := cell_later hbc a5; have a6 := cell_later hbc a6
    have hTc := hT.below hbc
    have hwc := below_trans hw1 hbc
    have HDu := Lib.hid hTc
    cases D
    case true =>
      have HE := Lib.hid (addE_8 Hv.out (of_decide_eq_true HD.out))
      clear a0 a1 a2 a3 a4 a5 a6
      go_wp2_with fail
      have hA := add_no (l := l) (s := s) (by rw [HE.out]; decide)
      exact bodyPost_ret (v := .tuple #[.bool false, .int .i64 8]) (by simp [results, Tryz.results13, go_sem]) rfl ⟨by rw [hA.1, HE.out], by rw [hA.2]; exact HDu.out, touch_below hwc _⟩
    have HD := Lib.hid (of_decide_eq_false HD.out)
    clear hTc hT
    go_wp2_with fail
    go_cut [8] (fun s8 w2 => OwnS wd.heap.size w2 s8 (l ++ [s]) ∧ Below wd.heap.size wd w2)
    case first =>
      have hba : Below wd.heap.size wd wd.drew := (Below.refl _ _).drew
      obtain ⟨wa, hwa⟩ : ∃ W, wd.drew = W := ⟨_, rfl⟩
      rw [hwa] at hba
      obtain ⟨A, c, hq, hS⟩ := (HDu.out.below hba).ex
      have hll := HDu.out.len
      have q0 : wa.cell? ⟨q, 0, none⟩ = some (.slice A l.length c) := heap_cell hq
      have hHeld : (fun w' : World => w'.cell? ⟨q, 0, none⟩ = some (.slice A l.length c) ∧ w'.cell? ⟨w.heap.size, 0, none⟩ = some (.int .i64 s.id) ∧ w'.cell? ⟨w.heap.size, 1, none⟩ = some (.int .i64 s.obv) ∧ w'.cell? ⟨w.heap.size, 2, none⟩ = some (.int .i64 s.rev) ∧ w'.cell? ⟨w.heap.size, 3, none⟩ = some (.int .i64 s.os) ∧ w'.cell? ⟨w.heap.size, 4, none⟩ = some (.int .i64 s.rs) ∧ w'.cell? ⟨w.heap.size, 5, none⟩ = some (.int .i64 s.ax) ∧ w'.cell? ⟨w.heap.size, 6, none⟩ = some (.int .i64 s.wt)) wa := ⟨q0, cell_later hba a0, cell_later hba a1, cell_later hba a2, cell_later hba a3, cell_later hba a4, cell_later hba a5, cell_later hba a6⟩
      have HH := Lib.hid (fun (w' : World) (hb : Below wa.heap.size wa w') => (show (fun w' : World => w'.cell? ⟨q, 0, none⟩ = some (.slice A l.length c) ∧ w'.cell? ⟨w.heap.size, 0, none⟩ = some (.int .i64 s.id) ∧ w'.cell? ⟨w.heap.size, 1, none⟩ = some (.int .i64 s.obv) ∧ w'.cell? ⟨w.heap.size, 2, none⟩ = some (.int .i64 s.rev) ∧ w'.cell? ⟨w.heap.size, 3, none⟩ = some (.int .i64 s.os) ∧ w'.cell? ⟨w.heap.size, 4, none⟩ = some (.int .i64 s.rs) ∧ w'.cell? ⟨w.heap.size, 5, none⟩ = some (.int .i64 s.ax) ∧ w'.cell? ⟨w.heap.size, 6, none⟩ = some (.int .i64 s.wt)) w' from ⟨cell_later hb hHeld.1, cell_later hb hHeld.2.1, cell_later hb hHeld.2.2.1, cell_later hb hHeld.2.2.2.1, cell_later hb hHeld.2.2.2.2.1, cell_later hb hHeld.2.2.2.2.2.1, cell_later hb hHeld.2.2.2.2.2.2.1, cell_later hb hHeld.2.2.2.2.2.2.2⟩))
      obtain ⟨iS, hiS, hzS, hkS, hbS⟩ := info_parts infoS
      refine wp_region_S 8 (fun w' => w'.cell? ⟨q, 0, none⟩ = some (.slice A l.length c) ∧ w'.cell? ⟨w.heap.size, 0, none⟩ = some (.int .i64 s.id) ∧ w'.cell? ⟨w.heap.size, 1, none⟩ = some (.int .i64 s.obv) ∧ w'.cell? ⟨w.heap.size, 2, none⟩ = some (.int .i64 s.rev) ∧ w'.cell? ⟨w.heap.size, 3, none⟩ = some (.int .i64 s.os) ∧ w'.cell? ⟨w.heap.size, 4, none⟩ = some (.int .i64 s.rs) ∧ w'.cell? ⟨w.heap.size, 5, none⟩ = some (.int .i64 s.ax) ∧ w'.cell? ⟨w.heap.size, 6, none⟩ = some (.int .i64 s.wt)) (by kernel_rfl) (by decide) ?_
      rw [hwa]
      clear hwa q0 hq a0 a1 a2 a3 a4 a5 a6
      refine wpAnyS_takeD 0 (some 31) (.pointer (some ⟨q, 0, none⟩)) (by rfl) (by rfl) (by kernel_rfl) (by exact fun _ _ _ h => h) (by rfl) (fun w' hS => by go_simp) hHeld ?_
      simp only [Act.put, List.setIfInBounds_toArray, List.set_cons_succ, List.set_cons_zero]
      refine wpAnyS_takeD 1 (some 32) (.pointer (some ⟨q, 0, none⟩)) (by rfl) (by rfl) (by kernel_rfl) (by exact fun _ _ _ h => h) (by rfl) (fun w' hS => by go_simp) hHeld ?_
      simp only [Act.put, List.setIfInBounds_toArray, List.set_cons_succ, List.set_cons_zero]
      refine wpAnyS_takeD 2 (some 33) (.pointer (some ⟨q, 0, none⟩)) (by rfl) (by rfl) (by kernel_rfl) (by exact fun _ _ _ h => h) (by rfl) (fun w' hS => by go_simp) hHeld ?_
      simp only [Act.put, List.setIfInBounds_toArray, List.set_cons_succ, List.set_cons_zero]
      refine wpAnyS_takeD 3 (some 34) (.slice A l.length c) (by rfl) (by rfl) (by kernel_rfl) (by exact fun _ _ _ h => h) (by rfl) (fun w' hS => by (obtain ⟨x0, x1⟩ := hS; go_simp)) hHeld ?_
      simp only [Act.put, List.setIfInBounds_toArray, List.set_cons_succ, List.set_cons_zero]
      refine wpAnyS_takeD 5 (some 36) (valS s) (by rfl) (by rfl) (by kernel_rfl) (by exact fun _ _ _ h => h) (by rfl) (fun w' hS => by (obtain ⟨x0, x1, x2, x3, x4, x5, x6, x7⟩ := hS; go_simp)) hHeld ?_
      simp only [Act.put, List.setIfInBounds_toArray, List.set_cons_succ, List.set_cons_zero]
      clear hHeld
      refine wpAnyS_two 4 6 (by kernel_rfl) (by rfl) (by rfl) (by decide) (by decide) (fun K hK => ?_) (fun K hK => ?_)
      · have HK := Lib.hid hK; clear hK
        rw [if_pos (by rfl)]
        go_simp
        refine (cloneS_ok _ l wa hS (by omega)).mono ?_
        rintro e w3 ⟨x, rfl, hx, hb3⟩
        refine HK.out _ _ (HH.out _ hb3) ?_
        clear HK
        obtain ⟨V, hV, HzV, hbV, hltV, _⟩ := boxed w3 #[.int .i64 s.id, .int .i64 s.obv, .int .i64 s.rev, .int .i64 s.os, .int .i64 s.rs, .int .i64 s.ax, .int .i64 s.wt] 47
        have hkV : V.heap[w3.heap.size]? = some (.cells (encS s).toArray 47 (0, 0)) := by rw [← hV]; exact heap_alloc_new _ _
        have hxV := hx.below hbV
        have hb4 := below_trans hb3 hbV
        have hsz := hb4.size
        refine wpAnyS_one 6 (by kernel_rfl) (by rfl) (by decide) (fun K hK => ?_)
        have HK := Lib.hid hK; clear hK
        rw [if_pos (by rfl)]
        go_simp
        refine HK.out _ _ (HH.out _ hb4) ?_
        clear HK
        refine wpAnyS_one 7 (by kernel_rfl) (by rfl) (by decide) (fun K hK => ?_)
        have HK := Lib.hid hK; clear hK
        refine step_append_sl (by rfl) (.tmp 35) (.tmp 37) _ (by rfl) iS _ 56 Tryz.underlying22 hiS hzS hkS hbS (by rfl) (by decide) oneS (by rfl) hxV _ 1 1 [s] (by rfl) (by rfl) (sl_one (by rfl) hkV) (by simp; omega) (by simp; omega) (by omega) ?_
        intro v' w5 ho5 hg5 _
        have hb5 := hb4.grown hg5 hb4.size (fun j e => (hxV.lt j e).1)
        refine HK.out _ _ (HH.out _ hb5) ?_
        clear HK
        refine (show tailOf _ _ _ _ _ _ _ _ from ⟨by kernel_rfl, ?_⟩)
        simp only [List.drop_succ_cons, List.drop_zero]
        go_wp2_with fail
        go_meet
        exact ⟨ho5.base hba.size, hba.trans (hb5.mono hba.size)⟩
      · have HK := Lib.hid hK; clear hK
        obtain ⟨V, hV, HzV, hbV, hltV, _⟩ := boxed wa #[.int .i64 s.id, .int .i64 s.obv, .int .i64 s.rev, .int .i64 s.os, .int .i64 s.rs, .int .i64 s.ax, .int .i64 s.wt] 47
        have hkV : V.heap[wa.heap.size]? = some (.cells (encS s).toArray 47 (0, 0)) := by rw [← hV]; exact heap_alloc_new _ _
        rw [if_pos (by rfl)]
        go_simp
        refine HK.out _ _ (HH.out _ hbV) ?_
        clear HK
        refine wpAnyS_one 4 (by kernel_rfl) (by rfl) (by decide) (fun K hK => ?_)
        have HK := Lib.hid hK; clear hK
        rw [if_pos (by rfl)]
        go_simp
        refine (cloneS_ok _ l V (hS.below hbV) (by omega)).mono ?_
        rintro e w3 ⟨x, rfl, hx, hb3⟩
        have hb4 := below_trans hbV hb3
        have hk3 := heap_below hkV hb3 (heap_lt hkV)
        have hx3 := hx.base (B' := wa.heap.size) (by omega)
        have hsz := hb4.size
        refine HK.out _ _ (HH.out _ hb4) ?_
        clear HK
        refine wpAnyS_one 7 (by kernel_rfl) (by rfl) (by decide) (fun K hK => ?_)
        have HK := Lib.hid hK; clear hK
        refine step_append_sl (by rfl) (.tmp 35) (.tmp 37) _ (by rfl) iS _ 56 Tryz.underlying22 hiS hzS hkS hbS (by rfl) (by decide) oneS (by rfl) hx3 _ 1 1 [s] (by rfl) (by rfl) (sl_one (by rfl) hk3) (by simp; omega) (by simp; omega) (by omega) ?_
        intro v' w5 ho5 hg5 _
        have hb5 := hb4.grown hg5 hb4.size (fun j e => (hx3.lt j e).1)
        refine HK.out _ _ (HH.out _ hb5) ?_
        clear HK
        refine (show tailOf _ _ _ _ _ _ _ _ from ⟨by kernel_rfl, ?_⟩)
        simp only [List.drop_succ_cons, List.drop_zero]
        go_wp2_with fail
        go_meet
        exact ⟨ho5.base hba.size, hba.trans (hb5.mono hba.size)⟩
    case rest =>
      obtain ⟨hown, hbo⟩ := hcut
      obtain ⟨L, hL⟩ : ∃ z, l ++ [s] = z := ⟨_, rfl⟩
      have hnx : Specs wc u8 L := by rw [← hL]; exact hown.slOf
      have HL := Lib.hid hL
      clear hown hL
      obtain ⟨An, cn, rfl, _⟩ := id hnx
      have hll := HDu.out.len
      go_wp2_with fail
      refine (Of_ok _ L _ hnx).mono ?_
      rintro e w3 ⟨ug, rfl, ⟨v1, v2, v3, rfl, ⟨A1, c1, rfl, _⟩, ⟨A2, c2, rfl, _⟩, ⟨A3, c3, rfl, _⟩⟩, hb3⟩
      obtain ⟨W1, W2, hW1, hW2, HzW2, hkW1, hkW2, hbW2, hltW2⟩ := fresh w3 [.slice none 0 0, .slice none 0 0, .slice none 0 0] [.slice A1 (ofG (L)).obv.length c1, .slice A2 (ofG (L)).rev.length c2, .slice A3 (ofG (L)).links.length c3] 29 rfl
      have hsW2 : ((W1.setCell ⟨w3.heap.size, 0, none⟩ (.slice A1 (ofG (L)).obv.length c1)).setCell ⟨w3.heap.size, 1, none⟩ (.slice A2 (ofG (L)).rev.length c2)).setCell ⟨w3.heap.size, 2, none⟩ (.slice A3 (ofG (L)).links.length c3) = W2 := hW2
      clear hW2
      obtain ⟨⟨z0, z1, z2⟩, f0, f1, f2⟩ := cells3 hkW1
      clear hkW1 hkW2
      have hbx := below_trans hb3 hbW2
      have hby : Below wd.heap.size wd W2 := hbo.trans (hbx.mono hbo.size)
      have hwy := below_trans hwc hby
      by_cases hE : ofE L = 0
      case neg =>
        have hd : (ofE L != 0) = true := by simpa using hE
        have HE := Lib.hid (addE_6 Hv.out HD.out (by rw [HL.out]; exact hE))
        clear hE a0 a1 a2 a3 a4 a5 a6
        have hTy := Lib.hid (HDu.out.below hby)
        go_wp2_with fail
        have hA := add_no (l := l) (s := s) (by rw [HE.out]; decide)
        exact bodyPost_ret (v := .tuple #[.bool false, .int .i64 6]) (by simp [results, Tryz.results13, go_sem]) rfl ⟨by rw [hA.1, HE.out], by rw [hA.2]; exact hTy.out, touch_below hwy _⟩
      have hd : (ofE L != 0) = false := by simp [hE]
      have HE := Lib.hid hE
      have HA := Lib.hid (add_yes (addE_0 Hv.out HD.out (by rw [HL.out]; exact hE)))
      have HA0 := Lib.hid (addE_0 Hv.out HD.out (by rw [HL.out]; exact hE))
      clear hE
      have a0 := cell_later hby a0; have a1 := cell_later hby a1; have a2 := cell_later hby a2; have a3 := cell_later hby a3; have a4 := cell_later hby a4; have a5 := cell_later hby a5; have a6 := cell_later hby a6
      have HTy := Lib.hid (HDu.out.below hby)
      have HNy := Lib.hid (hnx.below hbx)
      clear hnx
      go_wp2_with fail
      clear z0 z1 z2 f0 f1 f2 hsW2 hW1
      have hba : Below W2.heap.size W2 W2.drew := (Below.refl _ _).drew
      obtain ⟨wa, hwa⟩ : ∃ W, W2.drew = W := ⟨_, rfl⟩
      rw [hwa] at hba
      have hHeld : (fun w' : World => w'.cell? ⟨w.heap.size, 0, none⟩ = some (.int .i64 s.id) ∧ w'.cell? ⟨w.heap.size, 1, none⟩ = some (.int .i64 s.obv) ∧ w'.cell? ⟨w.heap.size, 2, none⟩ = some (.int .i64 s.rev) ∧ w'.cell? ⟨w.heap.size, 3, none⟩ = some (.int .i64 s.os) ∧ w'.cell? ⟨w.heap.size, 4, none⟩ = some (.int .i64 s.rs) ∧ w'.cell? ⟨w.heap.size, 5, none⟩ = some (.int .i64 s.ax) ∧ w'.cell? ⟨w.heap.size, 6, none⟩ = some (.int .i64 s.wt)) wa := ⟨cell_later hba a0, cell_later hba a1, cell_later hba a2, cell_later hba a3, cell_later hba a4, cell_later hba a5, cell_later hba a6⟩
      have HH := Lib.hid (fun (w' : World) (hb : Below wa.heap.size wa w') => (show (fun w' : World => w'.cell? ⟨w.heap.size, 0, none⟩ = some (.int .i64 s.id) ∧ w'.cell? ⟨w.heap.size, 1, none⟩ = some (.int .i64 s.obv) ∧ w'.cell? ⟨w.heap.size, 2, none⟩ = some (.int .i64 s.rev) ∧ w'.cell? ⟨w.heap.size, 3, none⟩ = some (.int .i64 s.os) ∧ w'.cell? ⟨w.heap.size, 4, none⟩ = some (.int .i64 s.rs) ∧ w'.cell? ⟨w.heap.size, 5, none⟩ = some (.int .i64 s.ax) ∧ w'.cell? ⟨w.heap.size, 6, none⟩ = some (.int .i64 s.wt)) w' from ⟨cell_later hb hHeld.1, cell_later hb hHeld.2.1, cell_later hb hHeld.2.2.1, cell_later hb hHeld.2.2.2.1, cell_later hb hHeld.2.2.2.2.1, cell_later hb hHeld.2.2.2.2.2.1, cell_later hb hHeld.2.2.2.2.2.2⟩))
      refine wp_region_S 8 (fun w' => w'.cell? ⟨w.heap.size, 0, none⟩ = some (.int .i64 s.id) ∧ w'.cell? ⟨w.heap.size, 1, none⟩ = some (.int .i64 s.obv) ∧ w'.cell? ⟨w.heap.size, 2, none⟩ = some (.int .i64 s.rev) ∧ w'.cell? ⟨w.heap.size, 3, none⟩ = some (.int .i64 s.os) ∧ w'.cell? ⟨w.heap.size, 4, none⟩ = some (.int .i64 s.rs) ∧ w'.cell? ⟨w.heap.size, 5, none⟩ = some (.int .i64 s.ax) ∧ w'.cell? ⟨w.heap.size, 6, none⟩ = some (.int .i64 s.wt)) (by kernel_rfl) (by decide) ?_
      rw [hwa]
      clear hwa a0 a1 a2 a3 a4 a5 a6
      refine wpAnyS_takeD 0 (some 47) (.pointer (some ⟨q, 0, none⟩)) (by rfl) (by rfl) (by kernel_rfl) (by exact fun _ _ _ h => h) (by rfl) (fun w' hS => by go_simp) hHeld ?_
      simp only [Act.put, List.setIfInBounds_toArray, List.set_cons_succ, List.set_cons_zero]
      refine wpAnyS_takeD 2 (some 49) (valS s) (by rfl) (by rfl) (by kernel_rfl) (by exact fun _ _ _ h => h) (by rfl) (fun w' hS => by (obtain ⟨x0, x1, x2, x3, x4, x5, x6⟩ := hS; go_simp)) hHeld ?_
      simp only [Act.put, List.setIfInBounds_toArray, List.set_cons_succ, List.set_cons_zero]
      clear hHeld
      refine wpAnyS_one 1 (by kernel_rfl) (by rfl) (by decide) (fun K hK => ?_)
      have HK := Lib.hid hK; clear hK
      rw [if_pos (by rfl)]
      go_simp
      refine (growth_ok q l _ (HTy.out.below hba)).mono ?_
      rintro e w4 ⟨p, b, rfl, hG, hp0, hb0, hb4⟩
      refine HK.out _ _ (HH.out _ hb4) ?_
      clear HK
      refine wpAnyS_one 3 (by kernel_rfl) (by rfl) (by decide) (fun K hK => ?_)
      have HK := Lib.hid hK; clear hK
      rw [if_pos (by rfl)]
      go_simp
      refine (step_ok p b l s w4 hG Hv.out (by omega)).mono ?_
      rintro e w5 ⟨rfl, _, hT5⟩
      have hb5 : Below wa.heap.size wa w5 := ((touch_below hb4 [p, b]).trans hT5).below (by simp; omega) (Nat.le_refl _)
      have hHeld := HH.out _ hb5
      refine HK.out _ _ hHeld ?_
      obtain ⟨B1, hB1⟩ : ∃ z, apartG s (growL l) = z := ⟨_, rfl⟩
      obtain ⟨B2, hB2⟩ : ∃ z, thereG s (growL l) = z := ⟨_, rfl⟩
      rw [hB1, hB2] at HA ⊢
      clear HK hG hT5 hB1 hB2
      refine wpAnyS_takeD 4 (some 46) (.tuple #[.bool B1, .bool B2]) (by rfl) (by rfl) (by kernel_rfl) (by exact fun _ _ _ h => h) (by rfl) (fun w' hS => by go_simp) hHeld ?_
      simp only [Act.put, List.setIfInBounds_toArray, List.set_cons_succ, List.set_cons_zero]
      refine wpAnyS_takeD 5 (some 51) (.bool B1) (by rfl) (by rfl) (by kernel_rfl) (by exact fun _ _ _ h => h) (by rfl) (fun w' hS => by go_simp) hHeld ?_
      simp only [Act.put, List.setIfInBounds_toArray, List.set_cons_succ, List.set_cons_zero]
      refine wpAnyS_takeD 6 (some 52) (.bool B2) (by rfl) (by rfl) (by kernel_rfl) (by exact fun _ _ _ h => h) (by rfl) (fun w' hS => by go_simp) hHeld ?_
      simp only [Act.put, List.setIfInBounds_toArray, List.set_cons_succ, List.set_cons_zero]
      refine wpAnyS_takeD 7 (some 11) (.bool B1) (by rfl) (by rfl) (by kernel_rfl) (by exact fun _ _ _ h => h) (by rfl) (fun w' hS => by go_simp) hHeld ?_
      simp only [Act.put, List.setIfInBounds_toArray, List.set_cons_succ, List.set_cons_zero]
      clear hHeld HH
      refine (show tailOf _ _ _ _ _ _ _ _ from ⟨by kernel_rfl, ?_⟩)
      simp only [List.drop_succ_cons, List.drop_zero]
      have hb7 := below_trans hba hb5
      obtain ⟨A0, k0, hq, _⟩ := (HTy.out.below hb7).ex
      have q0 : w5.cell? ⟨q, 0, none⟩ = some (.slice A0 l.length k0) := heap_cell hq
      have f0 : w5.frozen? ⟨q, 0, none⟩ = false := heap_free hq
      have HQ := Lib.hid hq; clear hq
      cases B1
      all_goals
        go_wp2_with fail
        refine bodyPost_ret (v := .tuple #[.bool (addB l s), .int .i64 0]) (by simp [results, Tryz.results13, go_sem, HA.out.1]) rfl ⟨by rw [HA0.out], ?_, (touch_below (below_trans hwy hb7) [q]).trans (touch_set rfl (by simp))⟩
        rw [HA.out.2, HL.out]
        refine ⟨⟨An, cn, ?_, ?_⟩, HE.out⟩
        · have r1 := heap_setCell_same w5 q 0 _ _ (.slice An L.length cn) HQ.out
          simpa using r1
        · refine (HNy.out.below hb7).touch1 (touch_set (S := [q]) rfl (by simp)) fun x hx => ?_
          rw [List.mem_singleton] at hx
          subst hx
          exact ⟨_, _, HQ.out⟩
end Go.Proofs.YtgpbdembjdileaaGreatDoor
