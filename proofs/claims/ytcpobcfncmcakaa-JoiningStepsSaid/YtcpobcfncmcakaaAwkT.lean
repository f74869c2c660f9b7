/- The law package's coin, few and awake. No condition. -/
import Derived.Test.YtcpobcfncmcakaaTraC
import Derived.Test.YtcpobcfncmcakaaCmp
namespace Go.Proofs.Ytcpobcfncmcakaa
open Go.RowKit Go.Maps

def coinS (i o r : Int) : Spec := ⟨i, o, r, 1, 1, 0, 1⟩
set_option maxHeartbeats 1000000 in
theorem coin_ok (i o r : Int) (w : World) : Calls Try.prog 13 #[.int .i64 i, .int .i64 o, .int .i64 r] w fun e w' => e = .returned (valS (coinS i o r)) ∧ Below w.heap.size w w' := by
  obtain ⟨W, hW, Hz, hbW, hltW, _⟩ := boxed w #[.int .i64 0, .int .i64 0, .int .i64 0, .int .i64 0, .int .i64 0, .int .i64 0, .int .i64 0] 30
  have hk : W.heap[w.heap.size]? = some (.cells [.int .i64 0, .int .i64 0, .int .i64 0, .int .i64 0, .int .i64 0, .int .i64 0, .int .i64 0].toArray 30 (0, 0)) := by rw [← hW]; exact heap_alloc_new _ _
  obtain ⟨⟨r0, r1, r2, r3, r4, r5, r6⟩, g0, g1, g2, g3, g4, g5, g6⟩ := cellsS hk
  have Hk := Lib.hid hk; clear hk
  go_enter Try.func13, Try.ntmps13
  go_wp2_with fail
  refine bodyPost_ret (results_cell_row rfl _ _ w.heap.size 30 #[.int .i64 i, .int .i64 o, .int .i64 r, .int .i64 1, .int .i64 1, .int .i64 0, .int .i64 1] (0, 0) _ (by simp) (heap_set7 Hk.out) Try.underlying30 rfl (by kernel_rfl)) rfl ⟨rfl, below_set7 hbW (Nat.le_refl _) hbW.size⟩
def few17B (n : Nat) : Bool := decide (n ≤ 16) || (decide (64 < n) && decide (n < 100))
set_option maxHeartbeats 1000000 in
theorem few17_ok (v : Value) (l : List Spec) (w : World) (h : Specs w v l) : Calls Try.prog 9 #[v] w fun e w' => e = .returned (.bool (few17B l.length)) ∧ Below w.heap.size w w' := by
  obtain ⟨A, c, rfl, _⟩ := id h
  generalize l.length = n
  by_cases h1 : n ≤ 16
  · have d1 : decide ((n : Int) ≤ 16) = true := by simp; omega
    go_enter Try.func9, Try.ntmps9
    go_wp2_with fail
    go_ret
    exact ⟨ret_bool (by simp [few17B, h1]), Below.refl _ _⟩
  · have d1 : decide ((n : Int) ≤ 16) = false := by simp; omega
    by_cases h2 : 64 < n
    · have d2 : decide ((64 : Int) < (n : Int)) = true := by simp; omega
      have hd3 : decide ((n : Int) < 100) = decide (n < 100) := by rw [decide_eq_decide]; omega
      have H3 := Lib.hid hd3; clear hd3
      go_enter Try.func9, Try.ntmps9
      go_wp2_with fail
      all_goals
        go_ret
        exact ⟨ret_bool (by simp only [few17B, h1, h2]; simp [H3.out]), Below.refl _ _⟩
    · have d2 : decide ((64 : Int) < (n : Int)) = false := by simp; omega
      go_enter Try.func9, Try.ntmps9
      go_wp2_with fail
      go_ret
      exact ⟨ret_bool (by simp [few17B, h1, h2]), Below.refl _ _⟩
end Go.Proofs.Ytcpobcfncmcakaa
