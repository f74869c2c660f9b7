/- CoverMirror. No condition. -/
import Derived.Test.YtnaoiochfdipiaaAwk
import Derived.Test.YtnaoiochfdipiaaMir
import Derived.Test.YtnaoiochfdipiaaOpenW
import Derived.Test.YtnaoiochfdipiaaRows
import Derived.Test.YtnaoiochfdipiaaTail
namespace Go.Proofs.Ytnaoiochfdipiaa
open Go.RowKit Go.Shelf Go.ChangeShapes Go.WideShapes Go.ChangeAt

theorem cell_grown {w w' : World} {row : Option Nat} {a : Addr} {v : Value} (h : w.grownBy w' row) (hc : w.cell? a = some v) (hn : some a.block ≠ row) : w'.cell? a = some v := by
  have hlt : a.block < w.heap.size := by
    unfold World.cell? at hc
    split at hc
    · exact (Array.getElem?_eq_some_iff.1 (by assumption)).1
    · cases hc
  rw [World.cell?_of_block (h.block a.block hlt hn)]
  exact hc
theorem set1_grown (w : World) (g i : Nat) (x : Value) : w.grownBy (w.setCell ⟨g, i, none⟩ x) (some g) := setCells_grown g [x] w i
set_option maxHeartbeats 8000000 in
set_option maxRecDepth 100000 in
theorem mirr_walk (v : Value) (g : Graph) (w : World) (h : GraphAt w v g) (wo : ∀ x ∈ g.obv, wfI x) (wr0 : ∀ x ∈ g.rev, wfI x) :
    Calls Try.prog 5 #[v] w fun e w' => e = .returned (.bool true) ∧ Below w.heap.size w w' := by
  have h0 := h
  obtain ⟨v1, v2, v3, rfl, ho, hr, hk⟩ := h
  obtain ⟨A1, c1, rfl, _, _, hco⟩ := ho.cells
  obtain ⟨A2, c2, rfl, _, _, hcr⟩ := hr.cells
  obtain ⟨A3, c3, rfl, _, _, hck⟩ := hk.cells
  obtain ⟨W, hW, Hz, hwW, hlt0, hc0⟩ := boxed w #[.slice A1 g.obv.length c1, .slice A2 g.rev.length c2, .slice A3 g.links.length c3] 25
  have a0 := hc0 0 _ rfl; have a1 := hc0 1 _ rfl; have a2 := hc0 2 _ rfl
  clear hc0
  go_enter Try.func5, Try.ntmps5
  go_wp2_with fail
  refine (wake_ok _).mono ?_
  rintro e w1 ⟨rfl, hb1⟩
  clear hW
  have a0' := cell_later hb1 a0; have a1' := cell_later hb1 a1; have a2' := cell_later hb1 a2
  have hw1 := below_trans hwW hb1
  clear a0 a1 a2
  have hF := few19_ok _ _ w1 (h0.below hw1)
  cases hf : few19B g
  · rw [hf] at hF
    have HF := Lib.hid hF; clear hF hf
    go_wp2_with fail
    refine HF.out.mono ?_
    rintro e w2 ⟨rfl, hb2⟩
    go_wp2_with fail
    refine (wake_ok _).mono ?_
    rintro e w3 ⟨rfl, hb3⟩
    go_wp2_with fail
    go_ret
    exact ⟨rfl, below_trans hw1 (below_trans hb2 hb3)⟩
  rw [hf] at hF
  have HF := Lib.hid hF; have Hf := Lib.hid hf; clear hF hf
  go_wp2_with fail
  refine HF.out.mono ?_
  rintro e w2 ⟨rfl, hb2⟩
  have a0 := cell_later hb2 a0'; have a1 := cell_later hb2 a1'; have a2 := cell_later hb2 a2'
  have hw2 := below_trans hw1 hb2
  clear a0' a1' a2' HF hb1 hb2 hlt0
  obtain ⟨w3, hW3, Hz3, hb3, hlt3, hc3⟩ := boxed w2 #[.slice A2 g.rev.length c2, .slice A1 g.obv.length c1, .slice none 0 0] 25
  have hM : w3.heap[w2.heap.size]? = some (.cells #[.slice A2 g.rev.length c2, .slice A1 g.obv.length c1, .slice none 0 0] 25 (0, 0)) := by rw [← hW3]; exact heap_alloc_new _ _
  have hll : g.links.length ≤ 70 := by have := Hf.out; simp only [few19B, Bool.and_eq_true, decide_eq_true_eq] at this; omega
  have b0' := cell_later hb3 a0; have b1' := cell_later hb3 a1; have b2' := cell_later hb3 a2
  have HW3 := Lib.hid hW3
  clear hc3 hW3
  obtain ⟨iL, hiL, hzL, hkL, hbL⟩ := info_parts infoL
  go_wp2_with fail
  rw [HW3.out]
  clear HW3
  go_loopw [4] (fun i wr => ∃ (k : Nat) (u : Value), k ≤ g.links.length ∧ i = .int .i64 k ∧ wr.heap[w2.heap.size]? = some (.cells #[.slice A2 g.rev.length c2, .slice A1 g.obv.length c1, u] 25 (0, 0)) ∧ OwnL w3.heap.size wr u ((g.links.take k).map mirL) ∧ Below w2.heap.size w2 wr ∧ w3.heap.size ≤ wr.heap.size) (fun i _ => g.links.length - (intOf i).toNat)
  case atStart => exact ⟨0, .slice none 0 0, Nat.zero_le _, rfl, hM, own_nil _ _ _ _ _, hb3, Nat.le_refl _⟩
  case round =>
    obtain ⟨k, u, hk, rfl, hMr, hown, hb, hsz⟩ := hrel
    have hwr := below_trans hw2 hb
    have n0 := cell_later hb a0; have n1 := cell_later hb a1; have n2 := cell_later hb a2
    by_cases hlt : k < g.links.length
    · obtain ⟨b, o, rfl, hbb, hcb⟩ := hck k hlt
      obtain ⟨x, hx⟩ := get_of_lt hlt
      have hl1 : (k : Int) < (g.links.length : Int) := by omega
      have hl0 : (0 : Int) ≤ (k : Int) := by omega
      go_wp2_with fail
      have hba : Below wr.heap.size wr wr.drew := (Below.refl _ _).drew
      obtain ⟨wa, hwa⟩ : ∃ W, wr.drew = W := ⟨_, rfl⟩
      rw [hwa] at hba
      have hMa := heap_below hMr hba (heap_lt hMr)
      obtain ⟨e0, e1, e2⟩ := hcb wa (below_trans hwr hba) k x hx
      have q2 := cell_later hba n2
      have hne : ∀ j, u.ownBlock = some j → w3.heap.size ≤ j := fun j e => (hown.lt j e).1
      have hwz := hw2.size
      have hnb : ∀ c, c < w3.heap.size → some c ≠ u.ownBlock := fun c hc e => by have := hne c e.symm; omega
      have hbk : b < w3.heap.size := by omega
      have F := Lib.hid (fun (w' : World) (hS : wa.grownBy w' u.ownBlock) => (⟨cell_grown hS (heap_cell (i := 2) hMa) (hnb _ hlt3), cell_grown hS q2 (hnb _ (by show w.heap.size < _; omega)),
        cell_grown hS e0 (hnb _ hbk), cell_grown hS e1 (hnb _ hbk), cell_grown hS e2 (hnb _ hbk)⟩ :
        w'.cell? ⟨w2.heap.size, 2, none⟩ = some u ∧ w'.cell? ⟨w.heap.size, 2, none⟩ = some (.slice (some ⟨b, o, none⟩) g.links.length c3) ∧ w'.cell? ⟨b, o + k * 3, none⟩ = some (.int .i64 x.id) ∧ w'.cell? ⟨b, o + k * 3 + 1, none⟩ = some (.int .i64 x.obv) ∧ w'.cell? ⟨b, o + k * 3 + 2, none⟩ = some (.int .i64 x.rev)))
      have hHeld : wa.grownBy wa u.ownBlock := World.grownBy.refl _ _
      have hownA := hown.below hba
      have hlen : ((g.links.take k).map mirL).length ≤ 70 := by simp; omega
      have hsza : w3.heap.size ≤ wa.heap.size := by have := hba.size; omega
      have Hx := Lib.hid hx
      have HMa := Lib.hid hMa
      have Hba := Lib.hid hba
      refine wp_region_S 23 (fun w' => wa.grownBy w' u.ownBlock) (by kernel_rfl) (by decide) ?_
      rw [hwa]
      clear hwa hMr hown n0 n1 n2 hMa hba e0 e1 e2 q2 hcb hck hx
      refine wpAnyS_takeD 0 (some 29) (.pointer (some ⟨w2.heap.size, 2, none⟩)) (by rfl) (by rfl) (by kernel_rfl) (by exact fun _ _ _ h => h) (by rfl) (fun w' hS => by go_simp) hHeld ?_
      simp only [Act.put, List.setIfInBounds_toArray, List.set_cons_succ, List.set_cons_zero]
      refine wpAnyS_takeD 1 (some 30) u (by rfl) (by rfl) (by kernel_rfl) (by exact fun _ _ _ h => h) (by rfl) (fun w' hS => by (obtain ⟨g0, g1, g2, g3, g4⟩ := F.out w' hS; go_simp)) hHeld ?_
      simp only [Act.put, List.setIfInBounds_toArray, List.set_cons_succ, List.set_cons_zero]
      refine wpAnyS_takeD 2 (some 31) (.pointer (some ⟨w.heap.size, 2, none⟩)) (by rfl) (by rfl) (by kernel_rfl) (by exact fun _ _ _ h => h) (by rfl) (fun w' hS => by go_simp) hHeld ?_
      simp only [Act.put, List.setIfInBounds_toArray, List.set_cons_succ, List.set_cons_zero]
      refine wpAnyS_takeD 3 (some 32) (.slice (some ⟨b, o, none⟩) g.links.length c3) (by rfl) (by rfl) (by kernel_rfl) (by exact fun _ _ _ h => h) (by rfl) (fun w' hS => by (obtain ⟨g0, g1, g2, g3, g4⟩ := F.out w' hS; go_simp)) hHeld ?_
      simp only [Act.put, List.setIfInBounds_toArray, List.set_cons_succ, List.set_cons_zero]
      refine wpAnyS_takeD 4 (some 33) (.int .i64 k) (by rfl) (by rfl) (by kernel_rfl) (by exact fun _ _ _ h => h) (by rfl) (fun w' hS => by go_simp) hHeld ?_
      simp only [Act.put, List.setIfInBounds_toArray, List.set_cons_succ, List.set_cons_zero]
      refine wpAnyS_takeD 5 (some 34) (.pointer (some ⟨b, o + k * 3, none⟩)) (by rfl) (by rfl) (by kernel_rfl) (by exact fun _ _ _ h => h) (by rfl) (fun w' hS => by go_simp) hHeld ?_
      simp only [Act.put, List.setIfInBounds_toArray, List.set_cons_succ, List.set_cons_zero]
      refine wpAnyS_takeD 6 (some 35) (.pointer (some ⟨b, o + k * 3, none⟩)) (by rfl) (by rfl) (by kernel_rfl) (by exact fun _ _ _ h => h) (by rfl) (fun w' hS => by go_simp) hHeld ?_
      simp only [Act.put, List.setIfInBounds_toArray, List.set_cons_succ, List.set_cons_zero]
      refine wpAnyS_takeD 7 (some 36) (.int .i64 x.id) (by rfl) (by rfl) (by kernel_rfl) (by exact fun _ _ _ h => h) (by rfl) (fun w' hS => by (obtain ⟨g0, g1, g2, g3, g4⟩ := F.out w' hS; go_simp)) hHeld ?_
      simp only [Act.put, List.setIfInBounds_toArray, List.set_cons_succ, List.set_cons_zero]
      refine wpAnyS_takeD 8 (some 37) (.pointer (some ⟨w.heap.size, 2, none⟩)) (by rfl) (by rfl) (by kernel_rfl) (by exact fun _ _ _ h => h) (by rfl) (fun w' hS => by go_simp) hHeld ?_
      simp only [Act.put, List.setIfInBounds_toArray, List.set_cons_succ, List.set_cons_zero]
      refine wpAnyS_takeD 9 (some 38) (.slice (some ⟨b, o, none⟩) g.links.length c3) (by rfl) (by rfl) (by kernel_rfl) (by exact fun _ _ _ h => h) (by rfl) (fun w' hS => by (obtain ⟨g0, g1, g2, g3, g4⟩ := F.out w' hS; go_simp)) hHeld ?_
      simp only [Act.put, List.setIfInBounds_toArray, List.set_cons_succ, List.set_cons_zero]
      refine wpAnyS_takeD 10 (some 39) (.int .i64 k) (by rfl) (by rfl) (by kernel_rfl) (by exact fun _ _ _ h => h) (by rfl) (fun w' hS => by go_simp) hHeld ?_
      simp only [Act.put, List.setIfInBounds_toArray, List.set_cons_succ, List.set_cons_zero]
      refine wpAnyS_takeD 11 (some 40) (.pointer (some ⟨b, o + k * 3, none⟩)) (by rfl) (by rfl) (by kernel_rfl) (by exact fun _ _ _ h => h) (by rfl) (fun w' hS => by go_simp) hHeld ?_
      simp only [Act.put, List.setIfInBounds_toArray, List.set_cons_succ, List.set_cons_zero]
      refine wpAnyS_takeD 12 (some 41) (.pointer (some ⟨b, o + k * 3 + 2, none⟩)) (by rfl) (by rfl) (by kernel_rfl) (by exact fun _ _ _ h => h) (by rfl) (fun w' hS => by go_simp) hHeld ?_
      simp only [Act.put, List.setIfInBounds_toArray, List.set_cons_succ, List.set_cons_zero]
      refine wpAnyS_takeD 13 (some 42) (.int .i64 x.rev) (by rfl) (by rfl) (by kernel_rfl) (by exact fun _ _ _ h => h) (by rfl) (fun w' hS => by (obtain ⟨g0, g1, g2, g3, g4⟩ := F.out w' hS; go_simp)) hHeld ?_
      simp only [Act.put, List.setIfInBounds_toArray, List.set_cons_succ, List.set_cons_zero]
      refine wpAnyS_takeD 14 (some 43) (.pointer (some ⟨w.heap.size, 2, none⟩)) (by rfl) (by rfl) (by kernel_rfl) (by exact fun _ _ _ h => h) (by rfl) (fun w' hS => by go_simp) hHeld ?_
      simp only [Act.put, List.setIfInBounds_toArray, List.set_cons_succ, List.set_cons_zero]
      refine wpAnyS_takeD 15 (some 44) (.slice (some ⟨b, o, none⟩) g.links.length c3) (by rfl) (by rfl) (by kernel_rfl) (by exact fun _ _ _ h => h) (by rfl) (fun w' hS => by (obtain ⟨g0, g1, g2, g3, g4⟩ := F.out w' hS; go_simp)) hHeld ?_
      simp only [Act.put, List.setIfInBounds_toArray, List.set_cons_succ, List.set_cons_zero]
      refine wpAnyS_takeD 16 (some 45) (.int .i64 k) (by rfl) (by rfl) (by kernel_rfl) (by exact fun _ _ _ h => h) (by rfl) (fun w' hS => by go_simp) hHeld ?_
      simp only [Act.put, List.setIfInBounds_toArray, List.set_cons_succ, List.set_cons_zero]
      refine wpAnyS_takeD 17 (some 46) (.pointer (some ⟨b, o + k * 3, none⟩)) (by rfl) (by rfl) (by kernel_rfl) (by exact fun _ _ _ h => h) (by rfl) (fun w' hS => by go_simp) hHeld ?_
      simp only [Act.put, List.setIfInBounds_toArray, List.set_cons_succ, List.set_cons_zero]
      refine wpAnyS_takeD 18 (some 47) (.pointer (some ⟨b, o + k * 3 + 1, none⟩)) (by rfl) (by rfl) (by kernel_rfl) (by exact fun _ _ _ h => h) (by rfl) (fun w' hS => by go_simp) hHeld ?_
      simp only [Act.put, List.setIfInBounds_toArray, List.set_cons_succ, List.set_cons_zero]
      refine wpAnyS_takeD 19 (some 48) (.int .i64 x.obv) (by rfl) (by rfl) (by kernel_rfl) (by exact fun _ _ _ h => h) (by rfl) (fun w' hS => by (obtain ⟨g0, g1, g2, g3, g4⟩ := F.out w' hS; go_simp)) hHeld ?_
      simp only [Act.put, List.setIfInBounds_toArray, List.set_cons_succ, List.set_cons_zero]
      refine wpAnyS_takeD 20 (some 49) (.agg #[.int .i64 x.id, .int .i64 x.rev, .int .i64 x.obv]) (by rfl) (by rfl) (by kernel_rfl) (by exact fun _ _ _ h => h) (by rfl) (fun w' hS => by go_simp) hHeld ?_
      simp only [Act.put, List.setIfInBounds_toArray, List.set_cons_succ, List.set_cons_zero]
      clear hHeld
      refine wpAnyS_one 21 (by kernel_rfl) (by rfl) (by decide) (fun K hK => ?_)
      have HK := Lib.hid hK; clear hK
      rw [if_pos (by rfl)]
      go_simp
      obtain ⟨wb, hwb⟩ : ∃ W, World.alloc wa (.cells #[.int .i64 x.id, .int .i64 x.rev, .int .i64 x.obv] 32) = W := ⟨_, rfl⟩
      rw [hwb]
      have hbb1 : wb.heap[wa.heap.size]? = some (.cells (encL (mirL x)).toArray 32 (0, 0)) := by rw [← hwb]; exact heap_alloc_new _ _
      have hgb : wa.grownBy wb u.ownBlock := by rw [← hwb]; exact World.grownBy_alloc _ _ _
      have hownB : OwnL w3.heap.size wb u ((g.links.take k).map mirL) := by rw [← hwb]; exact hownA.alloc _
      have hszb : w3.heap.size ≤ wb.heap.size := by have := hgb.size; omega
      clear hwb
      refine HK.out _ _ hgb ?_
      clear HK
      refine wpAnyS_one 22 (by kernel_rfl) (by rfl) (by decide) (fun K hK => ?_)
      have HK := Lib.hid hK; clear hK
      refine step_append_sl (by rfl) (.tmp 30) (.tmp 50) _ (by rfl) iL _ 24 Try.underlying23 hiL hzL hkL hbL (by rfl) (by decide) oneL (by rfl) hownB _ 1 1 [mirL x] (by rfl) (by rfl) (sl_one (by rfl) hbb1) (by simp; omega) (by simp; omega) hszb ?_
      intro v1 wc hownC hgc hat
      obtain ⟨gv, cv, rfl⟩ := hownC.form (m := k + 1) (by simp; omega)
      have hgac := hgb.trans hgc
      refine HK.out _ _ hgac ?_
      clear HK
      have hMc : wc.heap[w2.heap.size]? = some (.cells #[.slice A2 g.rev.length c2, .slice A1 g.obv.length c1, u] 25 (0, 0)) := (hgac.block _ (heap_lt HMa.out) (hnb _ hlt3)).trans HMa.out
      have z2 := heap_cell (i := 2) hMc; have y2 := heap_free (i := 2) hMc
      have HMc := Lib.hid hMc; have HC := Lib.hid hownC; have HG := Lib.hid hgac
      clear hMc hgac hgc hgb hbb1 hownB hownC hownA
      refine (show tailOf _ _ _ _ _ _ _ _ from ⟨by kernel_rfl, ?_⟩)
      simp only [List.drop_succ_cons, List.drop_zero]
      go_wp2_with fail
      have hbc : Below w2.heap.size w2 wc := (hb.trans (Hba.out.mono (by have := hb.size; omega))).grown HG.out (by have := hb.size; have := Hba.out.size; omega) (fun j e => by have := hne j e; omega)
      have hzc : w3.heap.size ≤ wc.heap.size := by have := HG.out.size; omega
      have hset := set1_grown wc w2.heap.size 2 (.slice (some ⟨gv, 0, none⟩) (k + 1) cv)
      refine ⟨?rel, ?measure⟩
      case rel =>
        refine ⟨k + 1, .slice (some ⟨gv, 0, none⟩) (k + 1) cv, by omega, by go_num, ?_, ?_, hbc.grown hset (by have := hbc.size; omega) (fun j e => by cases e; exact Nat.le_refl _), Nat.le_trans hzc hset.size⟩
        · have := heap_setCell_same wc w2.heap.size 2 _ _ (.slice (some ⟨gv, 0, none⟩) (k + 1) cv) HMc.out
          simpa using this
        · rw [map_take_snoc _ Hx.out]
          refine Own.kept HC.out hset (.inr fun e => ?_)
          have := (HC.out.lt _ e).1
          omega
      case measure => first | (simp [intOf]; done) | (simp [intOf]; omega)
    · have e1 : g.links.take k = g.links := List.take_of_length_le (by omega)
      rw [e1] at hown
      have hgm : GraphAt wr (.agg #[.slice A2 g.rev.length c2, .slice A1 g.obv.length c1, u]) (mirG g) := ⟨_, _, _, rfl, hr.below hwr, ho.below hwr, hown.slOf⟩
      obtain ⟨Am, cm, hum, _⟩ := hown.slOf
      rw [List.length_map] at hum
      subst hum
      have m0 := heap_cell (i := 0) hMr; have m1 := heap_cell (i := 1) hMr; have m2 := heap_cell (i := 2) hMr
      clear e1 hown hMr hck
      obtain ⟨N, hN⟩ : ∃ N, sizeG g = N := ⟨_, rfl⟩
      obtain ⟨E, hE⟩ : ∃ N, validE g = N := ⟨_, rfl⟩
      have HN := Lib.hid hN; have HE := Lib.hid hE
      have HS1 := Lib.hid (Size_ok g ⟨wo, wr0⟩ _ _ (h0.below hwr))
      rw [hN, hE] at HS1
      clear hN hE
      go_wp2_with fail
      refine HS1.out.mono ?_
      rintro e w4 ⟨rfl, hb4⟩
      have p0 := cell_later hb4 m0; have p1 := cell_later hb4 m1; have p2 := cell_later hb4 m2
      clear m0 m1 m2
      have HS := Lib.hid (Size_ok (mirG g) ⟨wr0, wo⟩ _ _ (hgm.below hb4))
      rw [size_mir, validE_mir, HN.out, HE.out] at HS
      go_wp2_with fail
      refine HS.out.mono ?_
      rintro e w5 ⟨rfl, hb5⟩
      go_wp2_with fail
      go_ret
      exact ⟨by first | rfl | (simp; done), below_trans hwr (below_trans hb4 hb5)⟩
set_option maxRecDepth 100000 in
theorem mirr_lifted (os : Os) (started : os.Started) (H : Type) (enc : TypeId × Value → H) :
    ReturnsInHanded {} Try.checked os 5 .any (Rows.coverMirrorSpec.pre6 enc Try.prog Try.f5 Rows.coverMirrorRow.domain false) (Rows.coverMirrorSpec.post enc Try.prog Try.f5 false true false false) := by
  refine returnsInHanded_of_change (C := Try.checked) Try.own started (by kernel_rfl) Try.func5
    (ChangeSpec.witness6 (enc := enc) (C := Try.checked) false ⟨#[], #[.agg #[.slice none 0 0, .slice none 0 0, .slice none 0 0]], []⟩ 8 (by kernel_rfl) (by kernel_rfl) (by kernel_rfl) (by kernel_rfl)) ?_
  intro W base args ds gs before hval0 hW hcnd _
  have hval : ∀ (j : Nat) t v, Try.f5.params[j]? = some t → args[j]? = some v → Value.okWide Try.prog W .any base t v := hval0
  have hW' := hW
  obtain ⟨p, q, hA0, hV, rfl, hfz, hnd⟩ := hW
  have hA : DataW.TrodAll enc Try.prog W 0 (fun _ => true) true Try.f5.params.toList args.toList ds p := hA0
  rw [Try.params5] at hA hval
  obtain ⟨v0, d0, rfl, rfl, h0⟩ := trodAll_one hA
  obtain ⟨rfl, rfl⟩ := trodVars_none hV
  have k0 := h0
  have lt0 : ∀ x ∈ p, x.block < W.heap.size := by obtain ⟨m, hm⟩ := k0; exact DataW.trod_lt m _ _ _ hm
  obtain ⟨g0, hg0, wa0, wb0⟩ := opens_graph_wf (hval 0 25 v0 rfl rfl) h0
  clear hA0 hval0
  refine (mirr_walk v0 g0 W hg0 wa0 wb0).mono fun e W' ⟨he, bel⟩ => ?_
  subst he
  exact ⟨_, rfl, _, _, _, [], _, [], hW', trodAll_mk1 (shut_bool Try.underlying4 _), trodAll_mk1 (Below.trod Try.laidOut (by kernel_rfl) (of_decide_eq_true (by kernel_rfl)) k0 bel lt0), rfl, bel.frame _, fun h => by cases h⟩

theorem mirr_holds : Rows.CoverMirrorSaid :=
  OpenClaim.holds_of_wide 5 Try.f5 rfl rfl rfl rfl rfl rfl rfl ⟨rfl, rfl, rfl, rfl, rfl⟩ rfl rfl rfl rfl rfl (by kernel_rfl) Try.func5 (by kernel_rfl)
    (of_decide_eq_true (by kernel_rfl)) (by unfold Func.isWrapper; first | (rw [if_pos (by decide +kernel)]; kernel_rfl) | (rw [if_neg (by decide +kernel)]; exact ⟨rfl, rfl⟩))
    (fun os started H enc _ => mirr_lifted os started H enc)
end Go.Proofs.Ytnaoiochfdipiaa
