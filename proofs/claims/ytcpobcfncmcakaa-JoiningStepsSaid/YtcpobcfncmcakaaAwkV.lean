/- law17.awake. No condition. -/
import Derived.Test.YtcpobcfncmcakaaAwkU
namespace Go.Proofs.Ytcpobcfncmcakaa
open Go.RowKit Go.Maps

set_option maxHeartbeats 4000000 in
set_option maxRecDepth 100000 in
theorem wake17_ok (w : World) : Calls Try.prog 8 #[] w fun e w' => e = .returned (.bool true) ∧ Below w.heap.size w w' := by
  go_enter Try.func8, Try.ntmps8
  go_wp2_with fail
  refine (coin_ok 3 1 4 _).mono ?_
  rintro e w1 ⟨rfl, hb1⟩
  go_wp2_with fail
  refine (coin_ok 8 9 9 _).mono ?_
  rintro e w2 ⟨rfl, hb2⟩
  go_wp2_with fail
  refine (coin_ok 5 3 9 _).mono ?_
  rintro e w3 ⟨rfl, hb3⟩
  go_wp2_with fail
  refine (coin_ok 7 3 4 _).mono ?_
  rintro e w4 ⟨rfl, hb4⟩
  go_wp2_with fail
  refine (coin_ok 6 1 9 _).mono ?_
  rintro e w5 ⟨rfl, hb5⟩
  have h15 := below_trans hb1 (below_trans hb2 (below_trans hb3 (below_trans hb4 hb5)))
  clear hb1 hb2 hb3 hb4 hb5
  go_wp2_with fail
  obtain ⟨W, hW⟩ : ∃ z, w5.alloc (.cells (fiveL.flatMap encS).toArray 30) = z := ⟨_, rfl⟩
  change Calls _ _ _ (w5.alloc (.cells (fiveL.flatMap encS).toArray 30)) _
  rw [hW]
  have hk : W.heap[w5.heap.size]? = some (.cells (fiveL.flatMap encS).toArray 30 (0, 0)) := by rw [← hW]; exact heap_alloc_new _ _
  have hbW : Below w5.heap.size w5 W := by rw [← hW]; exact (Below.refl _ _).alloc (Nat.le_refl _) _
  have hS : Specs W (.slice (some ⟨w5.heap.size, 0, none⟩) 5 5) fiveL := slOf_block lenS hk rfl (by decide) (by decide)
  have h6 := below_trans h15 hbW
  clear hW hk h15
  refine (History_ok _ fiveL W hS).mono ?_
  rintro e w6 ⟨uh, rfl, hh, hb6⟩
  rw [five_ofE]
  rw [five_hist] at hh
  have hS6 := hS.below hb6
  go_wp2_with fail
  refine (Bottleneck_ok _ fiveL ⟨0, 1⟩ ⟨0, 9⟩ _ hS6 (by decide) (by decide)).mono ?_
  rintro e w7 ⟨up, rfl, hb7, _, hp⟩
  obtain ⟨p, hp1, hp2⟩ := hp five_first
  rw [five_first]
  rw [five_path hp1] at hp2
  have hS7 := hS6.below hb7
  have hh7 := hh.below hb7
  clear hp1 hS hS6 hh
  go_wp2_with fail
  refine (NewTracker_ok _).mono ?_
  rintro e w8 ⟨q, rfl, hT, hq0, hb8⟩
  obtain ⟨_, _, e9, _, _, hc⟩ := (hS7.below hb8).cells
  cases e9
  obtain ⟨bo, o, e9, _, hc⟩ := hc 0 (by decide)
  cases e9
  obtain ⟨y0, y1, y2, y3, y4, y5, y6⟩ := hc w8 (Below.refl _ _) 0 (coinS 3 1 4) rfl
  clear hc hS7
  go_wp2_with fail
  refine (Add_ok q [] (coinS 3 1 4) _ hT).mono ?_
  rintro e w9 ⟨rfl, hT9, hT89⟩
  have hb9 : Below w7.heap.size w7 w9 := ((touch_below hb8 [q]).trans hT89).below (by simpa using hq0) (Nat.le_refl _)
  rw [one_add]
  rw [show addL [] (coinS 3 1 4) = [coinS 3 1 4] by rw [addL, if_pos one_add]; rfl] at hT9
  have hh9 := hh7.below hb9
  have hp9 := hp2.below hb9
  have h9 := below_trans h6 (below_trans hb6 (below_trans hb7 hb9))
  clear y0 y1 y2 y3 y4 y5 y6 hh7 hp2 hT89 hT
  go_wp2_with fail
  obtain ⟨L1, hL1⟩ : ∃ z, w9.alloc (.cells #[.int .i64 1, .int .i64 2, .int .i64 2, .int .i64 1, .int .i64 1] 3) = z := ⟨_, rfl⟩
  rw [hL1]
  have hk1 : L1.heap[w9.heap.size]? = some (.cells (([1, 2, 2, 1, 1] : List Int).flatMap encI).toArray 3 (0, 0)) := by rw [← hL1]; exact heap_alloc_new _ _
  have hbL : Below w9.heap.size w9 L1 := by rw [← hL1]; exact (Below.refl _ _).alloc (Nat.le_refl _) _
  have hi1 : Ints L1 (.slice (some ⟨w9.heap.size, 0, none⟩) 5 5) [1, 2, 2, 1, 1] := slOf_block lenI hk1 rfl (by decide) (by decide)
  clear hk1 hL1
  refine (baseInts_ok _ _ _ _ L1 (hh9.below hbL) hi1).mono ?_
  rintro e wx ⟨rfl, hbx⟩
  have hbx' := below_trans hbL hbx
  have hTx := hT9.below hbx'
  have hpx := hp9.below hbx'
  have hx := below_trans h9 hbx'
  clear hi1 hT9 hp9 hh9
  go_wp2_with fail
  obtain ⟨L2, hL2⟩ : ∃ z, wx.alloc (.cells #[.int .i64 3, .int .i64 7, .int .i64 5, .int .i64 8] 3) = z := ⟨_, rfl⟩
  rw [hL2]
  have hk2 : L2.heap[wx.heap.size]? = some (.cells (([3, 7, 5, 8] : List Int).flatMap encI).toArray 3 (0, 0)) := by rw [← hL2]; exact heap_alloc_new _ _
  have hbL2 : Below wx.heap.size wx L2 := by rw [← hL2]; exact (Below.refl _ _).alloc (Nat.le_refl _) _
  have hi2 : Ints L2 (.slice (some ⟨wx.heap.size, 0, none⟩) 4 4) [3, 7, 5, 8] := slOf_block lenI hk2 rfl (by decide) (by decide)
  clear hk2 hL2
  refine (baseInts_ok _ _ _ _ L2 (hpx.below hbL2) hi2).mono ?_
  rintro e wy ⟨rfl, hby⟩
  have hby' := below_trans hbL2 hby
  have hTy := hTx.below hby'
  have hy := below_trans hx hby'
  clear hi2 hTx hpx
  go_wp2_with fail
  refine (Components_ok q _ _ hTy).mono ?_
  rintro e wz ⟨rfl, hbz⟩
  rw [one_count]
  go_wp2_with fail
  go_ret
  exact ⟨rfl, below_trans hy hbz⟩
end Go.Proofs.Ytcpobcfncmcakaa
