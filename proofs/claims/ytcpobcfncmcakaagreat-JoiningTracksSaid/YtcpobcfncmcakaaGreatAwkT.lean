/- The law package's coin, few and awake. No condition. -/
import Derived.Test.YtcpobcfncmcakaaGreatTraA
import Derived.Test.YtcpobcfncmcakaaGreatCmp
namespace Go.Proofs.YtcpobcfncmcakaaGreat
open Go.RowKit Go.Maps

def coinS (i o r : Int) : Spec := ⟨i, o, r, 1, 1, 0, 1⟩
set_option maxHeartbeats 1000000 in
theorem coin_ok (i o r : Int) (w : World) : Calls Tryz.prog 30 #[.int .i64 i, .int .i64 o, .int .i64 r] w fun e w' => e = .returned (valS (coinS i o r)) ∧ Below w.heap.size w w' := by
  obtain ⟨W, hW, Hz, hbW, hltW, _⟩ := boxed w #[.int .i64 0, .int .i64 0, .int .i64 0, .int .i64 0, .int .i64 0, .int .i64 0, .int .i64 0] 43
  have hk : W.heap[w.heap.size]? = some (.cells [.int .i64 0, .int .i64 0, .int .i64 0, .int .i64 0, .int .i64 0, .int .i64 0, .int .i64 0].toArray 43 (0, 0)) := by rw [← hW]; exact heap_alloc_new _ _
  obtain ⟨⟨r0, r1, r2, r3, r4, r5, r6⟩, g0, g1, g2, g3, g4, g5, g6⟩ := cellsS hk
  have Hk := Lib.hid hk; clear hk
  go_enter Tryz.func30, Tryz.ntmps30
  go_wp2_with fail
  refine bodyPost_ret (results_cell_row rfl _ _ w.heap.size 43 #[.int .i64 i, .int .i64 o, .int .i64 r, .int .i64 1, .int .i64 1, .int .i64 0, .int .i64 1] (0, 0) _ (by simp) (heap_set7 Hk.out) Tryz.underlying43 rfl (by kernel_rfl)) rfl ⟨rfl, below_set7 hbW (Nat.le_refl _) hbW.size⟩
def few17B (n : Nat) : Bool := decide (n ≤ 16) || (decide (64 < n) && decide (n < 100))
set_option maxHeartbeats 1000000 in
theorem few17_ok (v : Value) (l : List Spec) (w : World) (h : Specs w v l) : Calls Tryz.prog 7 #[v] w fun e w' => e = .returned (.bool (few17B l.length)) ∧ Below w.heap.size w w' := by
  obtain ⟨A, c, rfl, _⟩ := id h
  generalize l.length = n
  by_cases h1 : n ≤ 16
  · have d1 : decide ((n : Int) ≤ 16) = true := by simp; omega
    go_enter Tryz.func7, Tryz.ntmps7
    go_wp2_with fail
    go_ret
    exact ⟨ret_bool (by simp [few17B, h1]), Below.refl _ _⟩
  · have d1 : decide ((n : Int) ≤ 16) = false := by simp; omega
    by_cases h2 : 64 < n
    · have d2 : decide ((64 : Int) < (n : Int)) = true := by simp; omega
      have hd3 : decide ((n : Int) < 100) = decide (n < 100) := by rw [decide_eq_decide]; omega
      have H3 := Lib.hid hd3; clear hd3
      go_enter Tryz.func7, Tryz.ntmps7
      go_wp2_with fail
      all_goals
        go_ret
        exact ⟨ret_bool (by simp only [few17B, h1, h2]; simp [H3.out]), Below.refl _ _⟩
    · have d2 : decide ((64 : Int) < (n : Int)) = false := by simp; omega
      go_enter Tryz.func7, Tryz.ntmps7
      go_wp2_with fail
      go_ret
      exact ⟨ret_bool (by simp [few17B, h1, h2]), Below.refl _ _⟩
end Go.Proofs.YtcpobcfncmcakaaGreat
/- The fixed list of law17.awake, plain. No program in sight, no condition. -/
namespace Go.Proofs.YtcpobcfncmcakaaGreat
open Go.RowKit Go.Maps

theorem slOf_block {α : Type} {enc : α → List Value} {k : Nat} {w : World} {g n c : Nat} {t : TypeId} {xs : List α} (hk : ∀ x, (enc x).length = k) (h : w.heap[g]? = some (.cells (xs.flatMap enc).toArray t (0, 0))) (hn : n = xs.length) (h1 : n ≤ c) (h2 : c ≤ maxLen) :
    SlOf enc k w (.slice (some ⟨g, 0, none⟩) n c) xs := by
  subst hn
  refine ⟨some ⟨g, 0, none⟩, c, rfl, h1, h2, flat_len enc k hk xs, fun _ => ⟨g, 0, rfl, heap_lt h, fun j u hu => ?_⟩⟩
  rw [Nat.zero_add, heap_cell h]
  simpa using hu
def fiveL : List Spec := [coinS 3 1 4, coinS 8 9 9, coinS 5 3 9, coinS 7 3 4, coinS 6 1 9]
theorem five_ofE : ofE fiveL = 0 := by decide
theorem five_hist : histR fiveL = [1, 2, 2, 1, 1] := by rw [histR, if_pos five_ofE]; decide
theorem five_ids : (forL fiveL).map Spec.id = [3, 8, 5, 7] := by
  have h := choT_forL fiveL 5 (by decide)
  rw [show fiveL.take 5 = fiveL from rfl] at h
  rw [← h]
  decide
theorem five_nodup : (fiveL.map Spec.id).Nodup := by decide
theorem five_forest : forL fiveL = [coinS 3 1 4, coinS 8 9 9, coinS 5 3 9, coinS 7 3 4] := by
  rw [← filter_sub (forL_facts fiveL).1 five_nodup, five_ids]
  decide
theorem five_first : (firstR fiveL ⟨0, 1⟩ ⟨0, 9⟩).2 = 0 := by
  have hj : joinB (edgesS (fiveL.take (3 + 1))) ⟨0, 1⟩ ⟨0, 9⟩ = true := by rw [(ninv_list (fiveL.take (3 + 1))).joined]; decide
  rw [firstR, if_pos five_ofE]
  cases hk : firstK fiveL ⟨0, 1⟩ ⟨0, 9⟩ with
  | some k => rfl
  | none =>
    exfalso
    rw [firstK, List.find?_eq_none] at hk
    exact hk 3 (by decide) hj
theorem five_path {p : List Spec} (h : Walk (forL fiveL) ⟨0, 1⟩ p ⟨0, 9⟩) : p.map Spec.id = [3, 7, 5, 8] := by
  have hU := (forL_facts fiveL).2.2 five_nodup
  have hw : Walk (forL fiveL) ⟨0, 1⟩ [coinS 3 1 4, coinS 7 3 4, coinS 5 3 9, coinS 8 9 9] ⟨0, 9⟩ := by
    rw [five_forest]
    refine .cons (by decide) (.inl rfl) ?_ (by decide)
    refine .cons (by decide) (.inr rfl) ?_ (by decide)
    refine .cons (by decide) (.inl rfl) ?_ (by decide)
    refine .cons (by decide) (.inr rfl) ?_ (by decide)
    exact .nil _
  rw [hU.uni h hw]
  rfl
theorem one_add : addE [] (coinS 3 1 4) = 0 := by decide
theorem one_count : ((growL [coinS 3 1 4]).count : Int) = 1 := by decide
end Go.Proofs.YtcpobcfncmcakaaGreat
/- law17.awake. No condition. -/
namespace Go.Proofs.YtcpobcfncmcakaaGreat
open Go.RowKit Go.Maps

set_option maxHeartbeats 4000000 in
set_option maxRecDepth 100000 in
theorem wake17_ok (w : World) : Calls Tryz.prog 6 #[] w fun e w' => e = .returned (.bool true) ∧ Below w.heap.size w w' := by
  go_enter Tryz.func6, Tryz.ntmps6
  go_wp2_with fail
  refine (coin_ok 3 1 4 _).mono ?_
  rintro e w1 ⟨rfl, hb1⟩
  go_wp2_with fail
  refine (coin_ok 8 9 9 _).mono ?_
  rintro e w2 ⟨rfl, hb2⟩
  go_wp2_with fail
  refine (coin_ok 5 3 9 _).mono ?_
  rintro e w3 ⟨rfl, hb3⟩
  go_wp2_with fail
  refine (coin_ok 7 3 4 _).mono ?_
  rintro e w4 ⟨rfl, hb4⟩
  go_wp2_with fail
  refine (coin_ok 6 1 9 _).mono ?_
  rintro e w5 ⟨rfl, hb5⟩
  have h15 := below_trans hb1 (below_trans hb2 (below_trans hb3 (below_trans hb4 hb5)))
  clear hb1 hb2 hb3 hb4 hb5
  go_wp2_with fail
  obtain ⟨W, hW⟩ : ∃ z, w5.alloc (.cells (fiveL.flatMap encS).toArray 43) = z := ⟨_, rfl⟩
  change Calls _ _ _ (w5.alloc (.cells (fiveL.flatMap encS).toArray 43)) _
  rw [hW]
  have hk : W.heap[w5.heap.size]? = some (.cells (fiveL.flatMap encS).toArray 43 (0, 0)) := by rw [← hW]; exact heap_alloc_new _ _
  have hbW : Below w5.heap.size w5 W := by rw [← hW]; exact (Below.refl _ _).alloc (Nat.le_refl _) _
  have hS : Specs W (.slice (some ⟨w5.heap.size, 0, none⟩) 5 5) fiveL := slOf_block lenS hk rfl (by decide) (by decide)
  have h6 := below_trans h15 hbW
  clear hW hk h15
  refine (History_ok _ fiveL W hS).mono ?_
  rintro e w6 ⟨uh, rfl, hh, hb6⟩
  rw [five_ofE]
  rw [five_hist] at hh
  have hS6 := hS.below hb6
  go_wp2_with fail
  refine (Bottleneck_ok _ fiveL ⟨0, 1⟩ ⟨0, 9⟩ _ hS6 (by decide) (by decide)).mono ?_
  rintro e w7 ⟨up, rfl, hb7, _, hp⟩
  obtain ⟨p, hp1, hp2⟩ := hp five_first
  rw [five_first]
  rw [five_path hp1] at hp2
  have hS7 := hS6.below hb7
  have hh7 := hh.below hb7
  clear hp1 hS hS6 hh
  go_wp2_with fail
  refine (NewTracker_ok _).mono ?_
  rintro e w8 ⟨q, rfl, hT, hq0, hb8⟩
  obtain ⟨_, _, e9, _, _, hc⟩ := (hS7.below hb8).cells
  cases e9
  obtain ⟨bo, o, e9, _, hc⟩ := hc 0 (by decide)
  cases e9
  obtain ⟨y0, y1, y2, y3, y4, y5, y6⟩ := hc w8 (Below.refl _ _) 0 (coinS 3 1 4) rfl
  clear hc hS7
  go_wp2_with fail
  refine (Add_ok q [] (coinS 3 1 4) _ hT).mono ?_
  rintro e w9 ⟨rfl, hT9, hT89⟩
  have hb9 : Below w7.heap.size w7 w9 := ((touch_below hb8 [q]).trans hT89).below (by simpa using hq0) (Nat.le_refl _)
  rw [one_add]
  rw [show addL [] (coinS 3 1 4) = [coinS 3 1 4] by rw [addL, if_pos one_add]; rfl] at hT9
  have hh9 := hh7.below hb9
  have hp9 := hp2.below hb9
  have h9 := below_trans h6 (below_trans hb6 (below_trans hb7 hb9))
  clear y0 y1 y2 y3 y4 y5 y6 hh7 hp2 hT89 hT
  go_wp2_with fail
  obtain ⟨L1, hL1⟩ : ∃ z, w9.alloc (.cells #[.int .i64 1, .int .i64 2, .int .i64 2, .int .i64 1, .int .i64 1] 3) = z := ⟨_, rfl⟩
  rw [hL1]
  have hk1 : L1.heap[w9.heap.size]? = some (.cells (([1, 2, 2, 1, 1] : List Int).flatMap encI).toArray 3 (0, 0)) := by rw [← hL1]; exact heap_alloc_new _ _
  have hbL : Below w9.heap.size w9 L1 := by rw [← hL1]; exact (Below.refl _ _).alloc (Nat.le_refl _) _
  have hi1 : Ints L1 (.slice (some ⟨w9.heap.size, 0, none⟩) 5 5) [1, 2, 2, 1, 1] := slOf_block lenI hk1 rfl (by decide) (by decide)
  clear hk1 hL1
  refine (baseInts_ok _ _ _ _ L1 (hh9.below hbL) hi1).mono ?_
  rintro e wx ⟨rfl, hbx⟩
  have hbx' := below_trans hbL hbx
  have hTx := hT9.below hbx'
  have hpx := hp9.below hbx'
  have hx := below_trans h9 hbx'
  clear hi1 hT9 hp9 hh9
  go_wp2_with fail
  obtain ⟨L2, hL2⟩ : ∃ z, wx.alloc (.cells #[.int .i64 3, .int .i64 7, .int .i64 5, .int .i64 8] 3) = z := ⟨_, rfl⟩
  rw [hL2]
  have hk2 : L2.heap[wx.heap.size]? = some (.cells (([3, 7, 5, 8] : List Int).flatMap encI).toArray 3 (0, 0)) := by rw [← hL2]; exact heap_alloc_new _ _
  have hbL2 : Below wx.heap.size wx L2 := by rw [← hL2]; exact (Below.refl _ _).alloc (Nat.le_refl _) _
  have hi2 : Ints L2 (.slice (some ⟨wx.heap.size, 0, none⟩) 4 4) [3, 7, 5, 8] := slOf_block lenI hk2 rfl (by decide) (by decide)
  clear hk2 hL2
  refine (baseInts_ok _ _ _ _ L2 (hpx.below hbL2) hi2).mono ?_
  rintro e wy ⟨rfl, hby⟩
  have hby' := below_trans hbL2 hby
  have hTy := hTx.below hby'
  have hy := below_trans hx hby'
  clear hi2 hTx hpx
  go_wp2_with fail
  refine (Components_ok q _ _ hTy).mono ?_
  rintro e wz ⟨rfl, hbz⟩
  rw [one_count]
  go_wp2_with fail
  go_ret
  exact ⟨rfl, below_trans hy hbz⟩
end Go.Proofs.YtcpobcfncmcakaaGreat
