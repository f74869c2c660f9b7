/- The tracker of package joining: NewTracker, growth, Components, Joined. Condition: the tracker in its memory. -/
import Derived.Test.YtcpobcfncmcakaaGroH
namespace Go.Proofs.Ytcpobcfncmcakaa
open Go.RowKit Go.Maps

/-- A tracker in its memory. -/
structure TrAt (w : World) (p : Nat) (l : List Spec) : Prop where
  ex : ∃ A c, w.heap[p]? = some (.cells #[.slice A l.length c] 68 (0, 0)) ∧ Specs w (.slice A l.length c) l
  ok : ofE l = 0
section
variable {w w' : World} {p : Nat} {l : List Spec}
theorem Specs.touch1 {v : Value} {S : List Nat} (h : Specs w v l) (ht : Touch w w' S) (hS : ∀ q ∈ S, ∃ x t, w.heap[q]? = some (.cells #[x] t (0, 0))) : Specs w' v l := by
  obtain ⟨A, c, e, h1, h2, h3, h4⟩ := h
  refine ⟨A, c, e, h1, h2, h3, fun hp => ?_⟩
  obtain ⟨b, o, e, hb, hc⟩ := h4 hp
  have hn : b ∉ S := fun hm => by
    obtain ⟨x, t, hx⟩ := hS b hm
    cases l with
    | nil => simp at hp
    | cons s l =>
      have := hc 1 (.int .i64 s.obv) rfl
      have h6 : w.cell? ⟨b, o + 1, none⟩ = some (.int .i64 s.obv) := this
      rw [heap_cell hx] at h6
      simp at h6
  exact ⟨b, o, e, Nat.lt_of_lt_of_le hb ht.size, fun j u hu => cell_off ht hn (hc j u hu)⟩
theorem TrAt.below (h : TrAt w p l) (hb : Below w.heap.size w w') : TrAt w' p l := by
  obtain ⟨A, c, h1, h2⟩ := h.ex
  exact ⟨⟨A, c, heap_below h1 hb (heap_lt h1), h2.below hb⟩, h.ok⟩
theorem TrAt.one (h : TrAt w p l) : ∃ x t, w.heap[p]? = some (.cells #[x] t (0, 0)) := by
  obtain ⟨A, c, h1, _⟩ := h.ex
  exact ⟨_, _, h1⟩
theorem TrAt.lt (h : TrAt w p l) : p < w.heap.size := by
  obtain ⟨A, c, h1, _⟩ := h.ex
  exact heap_lt h1
theorem TrAt.touch {q : Nat} (h : TrAt w p l) (ht : Touch w w' [q]) (hq : ∃ x t, w.heap[q]? = some (.cells #[x] t (0, 0))) (hne : p ≠ q) : TrAt w' p l := by
  obtain ⟨A, c, h1, h2⟩ := h.ex
  exact ⟨⟨A, c, (ht.block p (heap_lt h1) (by simpa using hne)).trans h1, h2.touch1 ht (by simpa using hq)⟩, h.ok⟩
theorem TrAt.spec (h : TrAt w p l) {k : Nat} {s : Spec} (hs : l[k]? = some s) : specB s = true ∧ l.length ≤ 64 := ofE_spec h.ok hs
theorem TrAt.len (h : TrAt w p l) : l.length ≤ 64 := (checkE_zero (ofE_zero h.ok).1).1
end
theorem ofE_nil : ofE [] = 0 := by decide
set_option maxHeartbeats 1000000 in
theorem NewTracker_ok (w : World) : Calls Try.prog 12 #[] w fun e w' => ∃ p, e = .returned (.pointer (some ⟨p, 0, none⟩)) ∧ TrAt w' p [] ∧ w.heap.size ≤ p ∧ Below w.heap.size w w' := by
  obtain ⟨W, hW, Hz, hb, hlt, _⟩ := boxed w #[.slice none 0 0] 68
  have hk : W.heap[w.heap.size]? = some (.cells #[.slice none 0 0] 68 (0, 0)) := by rw [← hW]; exact heap_alloc_new _ _
  have HT := Lib.hid (⟨⟨none, 0, hk, (own_nil _ _ 0 0 _).slOf⟩, ofE_nil⟩ : TrAt W w.heap.size [])
  clear hk
  go_enter Try.func12, Try.ntmps12
  go_wp2_with fail
  go_ret
  exact ⟨_, rfl, HT.out, Nat.le_refl _, hb⟩

set_option maxHeartbeats 1000000 in
theorem growthN_ok (w : World) : Calls Try.prog 35 #[.pointer none] w fun e w' => ∃ p b, e = .returned (.pointer (some ⟨p, 0, none⟩)) ∧ GrAt w' p b (growL []) ∧ w.heap.size ≤ p ∧ w.heap.size ≤ b ∧ Below w.heap.size w w' := by
  go_enter Try.func35, Try.ntmps35
  go_wp2_with fail
  refine (begin_ok _).mono ?_
  rintro e w3 ⟨p, b, rfl, hG, hp0, hb0, hb3⟩
  go_wp2_with fail
  go_ret
  exact ⟨_, _, rfl, hG, hp0, hb0, hb3⟩
set_option maxHeartbeats 4000000 in
set_option maxRecDepth 100000 in
theorem growth_ok (q : Nat) (l : List Spec) (w : World) (h : TrAt w q l) : Calls Try.prog 35 #[.pointer (some ⟨q, 0, none⟩)] w fun e w' => ∃ p b, e = .returned (.pointer (some ⟨p, 0, none⟩)) ∧ GrAt w' p b (growL l) ∧ w.heap.size ≤ p ∧ w.heap.size ≤ b ∧ Below w.heap.size w w' := by
  have hE := Lib.hid h.ok
  obtain ⟨A, c, hq, hS⟩ := h.ex
  clear h
  go_enter Try.func35, Try.ntmps35
  go_wp2_with fail
  refine (begin_ok _).mono ?_
  rintro e w3 ⟨p, b, rfl, hG, hp0, hb0, hb3⟩
  have q0 : w3.cell? ⟨q, 0, none⟩ = some (.slice A l.length c) := heap_cell (heap_below hq hb3 (heap_lt hq))
  obtain ⟨_, _, e9, _, _, hc⟩ := hS.cells
  cases e9
  have hpl := heap_lt hG.blk; have hbl := hG.map.lt
  go_wp2_with fail
  clear q0 hS hq
  go_loopw [14] (fun i wr => ∃ k : Nat, k ≤ l.length ∧ i = .int .i64 k ∧ GrAt wr p b (growL (l.take k)) ∧ Below w.heap.size w wr ∧ Touch w3 wr [p, b]) (fun i _ => l.length - (intOf i).toNat)
  case atStart => exact ⟨0, Nat.zero_le _, rfl, hG, hb3, Touch.refl _ _⟩
  case round =>
    obtain ⟨k, hk, rfl, hGr, hwr, hT⟩ := hrel
    by_cases hlt : k < l.length
    · obtain ⟨bo, o, rfl, hbb, hc⟩ := hc k hlt
      obtain ⟨x, hx⟩ := get_of_lt hlt
      obtain ⟨y0, y1, y2, y3, y4, y5, y6⟩ := hc wr hwr k x hx
      obtain ⟨V1, V2, hV1, hV2, HzV2, hkV1, hkV2, hbV2, hltV2⟩ := fresh wr [.int .i64 0, .int .i64 0, .int .i64 0, .int .i64 0, .int .i64 0, .int .i64 0, .int .i64 0] [.int .i64 (x).id, .int .i64 (x).obv, .int .i64 (x).rev, .int .i64 (x).os, .int .i64 (x).rs, .int .i64 (x).ax, .int .i64 (x).wt] 30 rfl
      have hsV2 : ((((((V1.setCell ⟨wr.heap.size, 0, none⟩ (.int .i64 (x).id)).setCell ⟨wr.heap.size, 1, none⟩ (.int .i64 (x).obv)).setCell ⟨wr.heap.size, 2, none⟩ (.int .i64 (x).rev)).setCell ⟨wr.heap.size, 3, none⟩ (.int .i64 (x).os)).setCell ⟨wr.heap.size, 4, none⟩ (.int .i64 (x).rs)).setCell ⟨wr.heap.size, 5, none⟩ (.int .i64 (x).ax)).setCell ⟨wr.heap.size, 6, none⟩ (.int .i64 (x).wt) = V2 := hV2
      clear hV2
      obtain ⟨⟨z0, z1, z2, z3, z4, z5, z6⟩, f0, f1, f2, f3, f4, f5, f6⟩ := cellsS hkV1
      clear hkV1
      obtain ⟨⟨s0, s1, s2, s3, s4, s5, s6⟩, _⟩ := cellsS hkV2
      have hspec := ofE_spec hE.out hx
      have hG2 := hGr.below hbV2
      have HT := Lib.hid (hT.trans (touch_below hbV2 [p, b]))
      have HW := Lib.hid (below_trans hwr hbV2)
      have Hx := Lib.hid hx
      have hk4 : (l.take k).length ≤ 100 := by simp; omega
      clear hGr hT hx hc hG hwr
      go_wp2_with fail
      refine (step_ok p b (l.take k) x V2 hG2 hspec.1 hk4).mono ?_
      rintro e w5 ⟨rfl, hG5, hT5⟩
      rw [← take_snoc' Hx.out] at hG5
      have HG5 := Lib.hid hG5; have HW5 := Lib.hid ((touch_below HW.out [p, b]).trans hT5 |>.below (by simp; omega) (Nat.le_refl _)); have HT5 := Lib.hid (HT.out.trans hT5)
      clear hG5 hT5 hG2 s0 s1 s2 s3 s4 s5 s6 z0 z1 z2 z3 z4 z5 z6 f0 f1 f2 f3 f4 f5 f6 y0 y1 y2 y3 y4 y5 y6
      go_wp2_with fail
      refine ⟨?rel, ?measure⟩
      case rel => exact ⟨k + 1, by omega, by go_num, HG5.out, HW5.out, HT5.out⟩
      case measure => simp [intOf]; omega
    · have e1 : l.take k = l := List.take_of_length_le (by omega)
      rw [e1] at hGr
      have HG := Lib.hid hGr
      clear hc hGr e1 hG
      go_wp2_with fail
      go_ret
      exact ⟨_, _, rfl, HG.out, hp0, hb0, hwr⟩
set_option maxHeartbeats 1000000 in
theorem ComponentsN_ok (w : World) : Calls Try.prog 15 #[.pointer none] w fun e w' => e = .returned (.int .i64 (growL []).count) ∧ Below w.heap.size w w' := by
  go_enter Try.func15, Try.ntmps15
  go_wp2_with fail
  refine (growthN_ok _).mono ?_
  rintro e w1 ⟨p, b, rfl, hG, hp0, hb0, hb1⟩
  obtain ⟨_, _, q2, _, _⟩ := blk_cells hG.blk
  clear hG
  go_wp2_with fail
  go_ret
  exact ⟨rfl, hb1⟩
set_option maxHeartbeats 1000000 in
theorem Components_ok (q : Nat) (l : List Spec) (w : World) (h : TrAt w q l) : Calls Try.prog 15 #[.pointer (some ⟨q, 0, none⟩)] w fun e w' => e = .returned (.int .i64 (growL l).count) ∧ Below w.heap.size w w' := by
  go_enter Try.func15, Try.ntmps15
  go_wp2_with fail
  refine (growth_ok q l _ h).mono ?_
  rintro e w1 ⟨p, b, rfl, hG, hp0, hb0, hb1⟩
  obtain ⟨_, _, q2, _, _⟩ := blk_cells hG.blk
  clear hG
  go_wp2_with fail
  go_ret
  exact ⟨rfl, hb1⟩
set_option maxHeartbeats 4000000 in
theorem JoinedN_ok (da db : Die) (w : World) (hda : wfD da) (hdb : wfD db) : Calls Try.prog 18 #[.pointer none, vlD da, vlD db] w fun e w' => e = .returned (.bool (joinB (edgesS []) da db)) ∧ Below w.heap.size w w' := by
  obtain ⟨X0, hX0, HzX0, hbX0, hltX0, hcX0⟩ := boxed w #[.int .i64 da.side, .int .i64 da.num] 40
  obtain ⟨X1, hX1, HzX1, hbX1, hltX1, hcX1⟩ := boxed X0 #[.int .i64 db.side, .int .i64 db.num] 40
  have hX := below_trans hbX0 hbX1
  have a0 := cell_later hbX1 (hcX0 0 _ rfl); have a1 := cell_later hbX1 (hcX0 1 _ rfl)
  have b0 := hcX1 0 _ rfl; have b1 := hcX1 1 _ rfl
  clear hcX0 hcX1
  go_enter Try.func18, Try.ntmps18
  go_wp2_with fail
  have hba : Below X1.heap.size X1 X1.drew := (Below.refl _ _).drew
  obtain ⟨wa, hwa⟩ : ∃ W, X1.drew = W := ⟨_, rfl⟩
  rw [hwa] at hba
  have a0 := cell_later hba a0; have a1 := cell_later hba a1; have b0 := cell_later hba b0; have b1 := cell_later hba b1
  have hHeld : wa.cell? ⟨w.heap.size, 0, none⟩ = some (.int .i64 da.side) ∧ wa.cell? ⟨w.heap.size, 1, none⟩ = some (.int .i64 da.num) ∧ wa.cell? ⟨X0.heap.size, 0, none⟩ = some (.int .i64 db.side) ∧ wa.cell? ⟨X0.heap.size, 1, none⟩ = some (.int .i64 db.num) := ⟨a0, a1, b0, b1⟩
  have HS := Lib.hid hHeld
  have HB := Lib.hid (below_trans hX hba)
  refine wp_region_S 5 (fun w' => w'.cell? ⟨w.heap.size, 0, none⟩ = some (.int .i64 da.side) ∧ w'.cell? ⟨w.heap.size, 1, none⟩ = some (.int .i64 da.num) ∧ w'.cell? ⟨X0.heap.size, 0, none⟩ = some (.int .i64 db.side) ∧ w'.cell? ⟨X0.heap.size, 1, none⟩ = some (.int .i64 db.num)) (by kernel_rfl) (by decide) ?_
  rw [hwa]
  clear hwa hX0 hX1 a0 a1 b0 b1
  refine wpAnyS_takeD 0 (some 7) (.pointer none) (by rfl) (by rfl) (by kernel_rfl) (by exact fun _ _ _ h => h) (by rfl) (fun w' hS => by go_simp) hHeld ?_
  simp only [Act.put, List.setIfInBounds_toArray, List.set_cons_succ, List.set_cons_zero]
  refine wpAnyS_takeD 2 (some 9) (vlD da) (by rfl) (by rfl) (by kernel_rfl) (by exact fun _ _ _ h => h) (by rfl) (fun w' hS => by (obtain ⟨x0, x1, x2, x3⟩ := hS; go_simp)) hHeld ?_
  simp only [Act.put, List.setIfInBounds_toArray, List.set_cons_succ, List.set_cons_zero]
  refine wpAnyS_takeD 3 (some 10) (vlD db) (by rfl) (by rfl) (by kernel_rfl) (by exact fun _ _ _ h => h) (by rfl) (fun w' hS => by (obtain ⟨x0, x1, x2, x3⟩ := hS; go_simp)) hHeld ?_
  simp only [Act.put, List.setIfInBounds_toArray, List.set_cons_succ, List.set_cons_zero]
  clear hHeld
  refine wpAnyS_one 1 (by kernel_rfl) (by rfl) (by decide) (fun K hK => ?_)
  have HK := Lib.hid hK; clear hK
  rw [if_pos (by rfl)]
  go_simp
  refine (growthN_ok _).mono ?_
  rintro e w1 ⟨p, b, rfl, hG, hp0, hb0, hb1⟩
  obtain ⟨y0, y1, y2, y3⟩ := HS.out
  have z0 := cell_later hb1 y0; have z1 := cell_later hb1 y1; have z2 := cell_later hb1 y2; have z3 := cell_later hb1 y3
  refine HK.out _ _ ⟨z0, z1, z2, z3⟩ ?_
  have HB1 := Lib.hid (below_trans HB.out hb1)
  clear HK HS HB y0 y1 y2 y3
  refine wpAnyS_one 4 (by kernel_rfl) (by rfl) (by decide) (fun K hK => ?_)
  have HK := Lib.hid hK; clear hK
  rw [if_pos (by rfl)]
  go_simp
  refine (joined_ok p b da db _ w1 hG hda hdb).mono ?_
  rintro e w2 ⟨rfl, hb2⟩
  refine HK.out _ _ ⟨cell_later hb2 z0, cell_later hb2 z1, cell_later hb2 z2, cell_later hb2 z3⟩ ?_
  rw [← (ninv_list []).joined]
  clear HK z0 z1 z2 z3 hG
  refine (show tailOf _ _ _ _ _ _ _ _ from ⟨by kernel_rfl, ?_⟩)
  simp only [List.drop_succ_cons, List.drop_zero]
  go_wp2_with fail
  go_ret
  exact ⟨rfl, below_trans HB1.out hb2⟩
set_option maxHeartbeats 4000000 in
theorem Joined_ok (q : Nat) (l : List Spec) (da db : Die) (w : World) (h : TrAt w q l) (hda : wfD da) (hdb : wfD db) : Calls Try.prog 18 #[.pointer (some ⟨q, 0, none⟩), vlD da, vlD db] w fun e w' => e = .returned (.bool (joinB (edgesS l) da db)) ∧ Below w.heap.size w w' := by
  obtain ⟨X0, hX0, HzX0, hbX0, hltX0, hcX0⟩ := boxed w #[.int .i64 da.side, .int .i64 da.num] 40
  obtain ⟨X1, hX1, HzX1, hbX1, hltX1, hcX1⟩ := boxed X0 #[.int .i64 db.side, .int .i64 db.num] 40
  have hX := below_trans hbX0 hbX1
  have a0 := cell_later hbX1 (hcX0 0 _ rfl); have a1 := cell_later hbX1 (hcX0 1 _ rfl)
  have b0 := hcX1 0 _ rfl; have b1 := hcX1 1 _ rfl
  clear hcX0 hcX1
  go_enter Try.func18, Try.ntmps18
  go_wp2_with fail
  have hba : Below X1.heap.size X1 X1.drew := (Below.refl _ _).drew
  obtain ⟨wa, hwa⟩ : ∃ W, X1.drew = W := ⟨_, rfl⟩
  rw [hwa] at hba
  have a0 := cell_later hba a0; have a1 := cell_later hba a1; have b0 := cell_later hba b0; have b1 := cell_later hba b1
  have hHeld : wa.cell? ⟨w.heap.size, 0, none⟩ = some (.int .i64 da.side) ∧ wa.cell? ⟨w.heap.size, 1, none⟩ = some (.int .i64 da.num) ∧ wa.cell? ⟨X0.heap.size, 0, none⟩ = some (.int .i64 db.side) ∧ wa.cell? ⟨X0.heap.size, 1, none⟩ = some (.int .i64 db.num) := ⟨a0, a1, b0, b1⟩
  have HS := Lib.hid hHeld
  have HB := Lib.hid (below_trans hX hba)
  refine wp_region_S 5 (fun w' => w'.cell? ⟨w.heap.size, 0, none⟩ = some (.int .i64 da.side) ∧ w'.cell? ⟨w.heap.size, 1, none⟩ = some (.int .i64 da.num) ∧ w'.cell? ⟨X0.heap.size, 0, none⟩ = some (.int .i64 db.side) ∧ w'.cell? ⟨X0.heap.size, 1, none⟩ = some (.int .i64 db.num)) (by kernel_rfl) (by decide) ?_
  rw [hwa]
  clear hwa hX0 hX1 a0 a1 b0 b1
  refine wpAnyS_takeD 0 (some 7) (.pointer (some ⟨q, 0, none⟩)) (by rfl) (by rfl) (by kernel_rfl) (by exact fun _ _ _ h => h) (by rfl) (fun w' hS => by go_simp) hHeld ?_
  simp only [Act.put, List.setIfInBounds_toArray, List.set_cons_succ, List.set_cons_zero]
  refine wpAnyS_takeD 2 (some 9) (vlD da) (by rfl) (by rfl) (by kernel_rfl) (by exact fun _ _ _ h => h) (by rfl) (fun w' hS => by (obtain ⟨x0, x1, x2, x3⟩ := hS; go_simp)) hHeld ?_
  simp only [Act.put, List.setIfInBounds_toArray, List.set_cons_succ, List.set_cons_zero]
  refine wpAnyS_takeD 3 (some 10) (vlD db) (by rfl) (by rfl) (by kernel_rfl) (by exact fun _ _ _ h => h) (by rfl) (fun w' hS => by (obtain ⟨x0, x1, x2, x3⟩ := hS; go_simp)) hHeld ?_
  simp only [Act.put, List.setIfInBounds_toArray, List.set_cons_succ, List.set_cons_zero]
  clear hHeld
  refine wpAnyS_one 1 (by kernel_rfl) (by rfl) (by decide) (fun K hK => ?_)
  have HK := Lib.hid hK; clear hK
  rw [if_pos (by rfl)]
  go_simp
  refine (growth_ok q l _ (h.below (below_trans hX hba))).mono ?_
  rintro e w1 ⟨p, b, rfl, hG, hp0, hb0, hb1⟩
  obtain ⟨y0, y1, y2, y3⟩ := HS.out
  have z0 := cell_later hb1 y0; have z1 := cell_later hb1 y1; have z2 := cell_later hb1 y2; have z3 := cell_later hb1 y3
  refine HK.out _ _ ⟨z0, z1, z2, z3⟩ ?_
  have HB1 := Lib.hid (below_trans HB.out hb1)
  clear HK HS HB y0 y1 y2 y3
  refine wpAnyS_one 4 (by kernel_rfl) (by rfl) (by decide) (fun K hK => ?_)
  have HK := Lib.hid hK; clear hK
  rw [if_pos (by rfl)]
  go_simp
  refine (joined_ok p b da db _ w1 hG hda hdb).mono ?_
  rintro e w2 ⟨rfl, hb2⟩
  refine HK.out _ _ ⟨cell_later hb2 z0, cell_later hb2 z1, cell_later hb2 z2, cell_later hb2 z3⟩ ?_
  rw [← (ninv_list l).joined]
  clear HK z0 z1 z2 z3 hG
  refine (show tailOf _ _ _ _ _ _ _ _ from ⟨by kernel_rfl, ?_⟩)
  simp only [List.drop_succ_cons, List.drop_zero]
  go_wp2_with fail
  go_ret
  exact ⟨rfl, below_trans HB1.out hb2⟩
end Go.Proofs.Ytcpobcfncmcakaa
