/- The law package of chapter 19: awake and few. No condition. -/
import Derived.Test.YtnaoiochfdipiaaCovG
import Derived.Test.YtnaoiochfdipiaaCmp
namespace Go.Proofs.Ytnaoiochfdipiaa
open Go.RowKit Go.Shelf Go.Maps

def gA : Graph := ⟨[1, 2], [1, 2], [⟨1, 1, 1⟩, ⟨2, 1, 2⟩, ⟨3, 2, 1⟩]⟩
def lA : List Pair := [⟨1, 2⟩, ⟨2, 1⟩]
def cA : List Die := [⟨0, 1⟩, ⟨1, 1⟩]
theorem gA_ok : graphB gA = true := by decide
theorem gA_wf : WfG gA := ⟨by decide, by decide⟩
theorem gA_valid : validE gA = 0 := by decide
theorem gmA : (gm gA).obv = [(1, 2), (2, 1)] := by decide
theorem mchA : mchG gA = lA := by
  refine (mchG_of gA_ok).unique ?_
  rw [gmA]
  exact ⟨List.Perm.refl _, by simp [lA, ltP]⟩
theorem sizeA : sizeG gA = 2 := by rw [sizeG, mchA]; rfl
theorem covA : isCovB gA cA = true := isCovB_yes ⟨gA_ok, by decide, by simp [cA, ltD], by decide⟩
theorem slOf_block {α : Type} {enc : α → List Value} {k : Nat} {w : World} {g n c : Nat} {t : TypeId} {xs : List α} (hk : ∀ x, (enc x).length = k) (h : w.heap[g]? = some (.cells (xs.flatMap enc).toArray t (0, 0))) (hn : n = xs.length) (h1 : n ≤ c) (h2 : c ≤ maxLen) :
    SlOf enc k w (.slice (some ⟨g, 0, none⟩) n c) xs := by
  subst hn
  refine ⟨some ⟨g, 0, none⟩, c, rfl, h1, h2, flat_len enc k hk xs, fun _ => ⟨g, 0, rfl, heap_lt h, fun j u hu => ?_⟩⟩
  rw [Nat.zero_add, heap_cell h]
  simpa using hu
set_option maxHeartbeats 2000000 in
theorem wake_ok (w : World) : Calls Try.prog 11 #[] w fun e w' => e = .returned (.bool true) ∧ Below w.heap.size w w' := by
  obtain ⟨W1, hW1, Hz1, hb1, hlt1, _⟩ := boxed w #[.int .i64 1, .int .i64 2] 3
  obtain ⟨W2, hW2, Hz2, hb2, hlt2, _⟩ := boxed W1 #[.int .i64 1, .int .i64 2] 3
  obtain ⟨W3, hW3, Hz3, hb3, hlt3, _⟩ := boxed W2 #[.int .i64 1, .int .i64 1, .int .i64 1, .int .i64 2, .int .i64 1, .int .i64 2, .int .i64 3, .int .i64 2, .int .i64 1] 32
  obtain ⟨W4, hW4, Hz4, hb4, hlt4, hc4⟩ := boxed W3 #[.slice (some ⟨w.heap.size, 0, none⟩) 2 2, .slice (some ⟨W1.heap.size, 0, none⟩) 2 2, .slice (some ⟨W2.heap.size, 0, none⟩) 3 3] 25
  have s1 : Ints W1 (.slice (some ⟨w.heap.size, 0, none⟩) 2 2) gA.obv := slOf_block (t := 3) lenI (by rw [← hW1]; exact heap_alloc_new _ _) rfl (by decide) (by decide)
  have s2 : Ints W2 (.slice (some ⟨W1.heap.size, 0, none⟩) 2 2) gA.rev := slOf_block (t := 3) lenI (by rw [← hW2]; exact heap_alloc_new _ _) rfl (by decide) (by decide)
  have s3 : Links W3 (.slice (some ⟨W2.heap.size, 0, none⟩) 3 3) gA.links := slOf_block (t := 32) lenL (by rw [← hW3]; exact heap_alloc_new _ _) rfl (by decide) (by decide)
  have hg : GraphAt W4 (.agg #[.slice (some ⟨w.heap.size, 0, none⟩) 2 2, .slice (some ⟨W1.heap.size, 0, none⟩) 2 2, .slice (some ⟨W2.heap.size, 0, none⟩) 3 3]) gA := ⟨_, _, _, rfl, s1.below (below_trans hb2 (below_trans hb3 hb4)), s2.below (below_trans hb3 hb4), s3.below hb4⟩
  have a0 := hc4 0 _ rfl; have a1 := hc4 1 _ rfl; have a2 := hc4 2 _ rfl
  have hw4 := below_trans hb1 (below_trans hb2 (below_trans hb3 hb4))
  clear s1 s2 s3 hc4
  go_enter Try.func11, Try.ntmps11
  go_wp2_with fail
  refine (Size_ok gA gA_wf _ _ hg).mono ?_
  rintro e w5 ⟨rfl, hb5⟩
  clear hW1 hW2 hW3 hW4
  rw [sizeA, gA_valid]
  have b0 := cell_later hb5 a0; have b1 := cell_later hb5 a1; have b2 := cell_later hb5 a2
  clear a0 a1 a2
  go_wp2_with fail
  refine (Matching_ok gA gA_wf _ _ (hg.below hb5)).mono ?_
  rintro e w6 ⟨u, rfl, hu, hb6⟩
  rw [gA_valid]
  rw [mchA] at hu
  have a0 := cell_later hb6 b0; have a1 := cell_later hb6 b1; have a2 := cell_later hb6 b2
  clear b0 b1 b2
  obtain ⟨W7, hW7, Hz7, hb7, hlt7, _⟩ := boxed w6 #[.int .i64 1, .int .i64 2, .int .i64 2, .int .i64 1] 48
  have s7 : Pairs W7 (.slice (some ⟨w6.heap.size, 0, none⟩) 2 2) lA := slOf_block (t := 48) lenP (by rw [← hW7]; exact heap_alloc_new _ _) rfl (by decide) (by decide)
  have HP := Lib.hid (basePairs_ok _ _ _ _ W7 (hu.slOf.below hb7) s7)
  rw [decide_eq_true rfl] at HP
  clear s7
  go_wp2_with fail
  refine HP.out.mono ?_
  rintro e w8 ⟨rfl, hb8⟩
  clear hW7 HP
  have hb68 := below_trans hb7 hb8
  have b0 := cell_later hb68 a0; have b1 := cell_later hb68 a1; have b2 := cell_later hb68 a2
  obtain ⟨W9, hW9, Hz9, hb9, hlt9, _⟩ := boxed w8 #[.int .i64 0, .int .i64 1, .int .i64 1, .int .i64 1] 46
  have s9 : Dies W9 (.slice (some ⟨w8.heap.size, 0, none⟩) 2 2) cA := slOf_block (t := 46) lenD (by rw [← hW9]; exact heap_alloc_new _ _) rfl (by decide) (by decide)
  have h9 := below_trans hb5 (below_trans hb6 (below_trans hb68 hb9))
  have HC := Lib.hid (IsCover_ok gA _ _ cA W9 (hg.below h9) s9)
  rw [covA] at HC
  clear s9
  go_wp2_with fail
  refine HC.out.mono ?_
  rintro e w10 ⟨rfl, hb10⟩
  go_wp2_with fail
  go_ret
  exact ⟨rfl, below_trans hw4 (below_trans h9 hb10)⟩
def few19B (g : Graph) : Bool := decide (g.obv.length ≤ 40) && decide (g.rev.length ≤ 40) && decide (g.links.length ≤ 70)
set_option maxHeartbeats 1000000 in
theorem few19_ok (v : Value) (g : Graph) (w : World) (h : GraphAt w v g) :
    Calls Try.prog 12 #[v] w fun e w' => e = .returned (.bool (few19B g)) ∧ Below w.heap.size w w' := by
  obtain ⟨v1, v2, v3, rfl, ho, hr, hl⟩ := h
  obtain ⟨A1, c1, rfl, _, _, _⟩ := ho.cells
  obtain ⟨A2, c2, rfl, _, _, _⟩ := hr.cells
  obtain ⟨A3, c3, rfl, _, _, _⟩ := hl.cells
  obtain ⟨W, hW, Hz, hwW, hlt, hc1⟩ := boxed w #[.slice A1 g.obv.length c1, .slice A2 g.rev.length c2, .slice A3 g.links.length c3] 25
  have a0 := hc1 0 _ rfl; have a1 := hc1 1 _ rfl; have a2 := hc1 2 _ rfl
  clear hc1 ho hr hl
  have e1 : decide ((g.obv.length : Int) ≤ 40) = decide (g.obv.length ≤ 40) := decide_eq_decide.2 (by omega)
  have e2 : decide ((g.rev.length : Int) ≤ 40) = decide (g.rev.length ≤ 40) := decide_eq_decide.2 (by omega)
  have e3 : decide ((g.links.length : Int) ≤ 70) = decide (g.links.length ≤ 70) := decide_eq_decide.2 (by omega)
  have E1 := Lib.hid e1; have E2 := Lib.hid e2; have E3 := Lib.hid e3; clear e1 e2 e3
  cases q1 : decide ((g.obv.length : Int) ≤ 40)
  · go_enter Try.func12, Try.ntmps12
    go_wp2_with fail
    go_ret
    exact ⟨ret_bool (by rw [few19B, ← E1.out, q1]; rfl), hwW⟩
  cases q2 : decide ((g.rev.length : Int) ≤ 40)
  · go_enter Try.func12, Try.ntmps12
    go_wp2_with fail
    go_ret
    exact ⟨ret_bool (by rw [few19B, ← E1.out, ← E2.out, q1, q2]; rfl), hwW⟩
  go_enter Try.func12, Try.ntmps12
  go_wp2_with fail
  go_ret
  exact ⟨ret_bool (by rw [few19B, ← E1.out, ← E2.out, ← E3.out, q1, q2]; rfl), hwW⟩
end Go.Proofs.Ytnaoiochfdipiaa
