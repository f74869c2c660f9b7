/- The law package's three and awake. No condition. -/
import Derived.Test.YtifgpmhkdnmhlaaLinkD
import Derived.Test.YtifgpmhkdnmhlaaLinkI
namespace Go.Proofs.Ytifgpmhkdnmhlaa
open Go.RowKit Go.Shelf

def threeL : List Spec := [⟨7, 1, 2, 1, 1, 0, 1⟩, ⟨3, 1, 4, 1, 1, 0, 1⟩, ⟨5, 3, 4, 1, 1, 0, 1⟩]
def threeG : Graph := ⟨[1, 3], [2, 4], [⟨3, 1, 4⟩, ⟨5, 3, 4⟩, ⟨7, 1, 2⟩]⟩
theorem three_ofE : ofE threeL = 0 := by decide
theorem three_ofG : ofG threeL = threeG := by decide
theorem three_mat : matG threeG = [[1, 1], [0, 1]] := by decide
theorem three_valid : validE threeG = 0 := by decide
theorem three_deg : degI threeG ⟨0, 1⟩ = 2 := by decide

theorem slOf_block {α : Type} {enc : α → List Value} {k : Nat} {w : World} {g n c : Nat} {t : TypeId} {xs : List α} (hk : ∀ x, (enc x).length = k) (h : w.heap[g]? = some (.cells (xs.flatMap enc).toArray t (0, 0))) (hn : n = xs.length) (h1 : n ≤ c) (h2 : c ≤ maxLen) :
    SlOf enc k w (.slice (some ⟨g, 0, none⟩) n c) xs := by
  subst hn
  refine ⟨some ⟨g, 0, none⟩, c, rfl, h1, h2, flat_len enc k hk xs, fun _ => ⟨g, 0, rfl, heap_lt h, fun j u hu => ?_⟩⟩
  rw [Nat.zero_add, heap_cell h]
  simpa using hu

theorem heap_alloc4 (w : World) (a b c d : Obj) : ((((w.alloc a).alloc b).alloc c).alloc d).heap[w.heap.size + 1 + 1 + 1]? = some d := by
  have := heap_alloc_new (((w.alloc a).alloc b).alloc c) d
  rwa [World.size_alloc, World.size_alloc, World.size_alloc] at this
set_option maxHeartbeats 2000000 in
theorem three_ok (w : World) : Calls Try.prog 40 #[] w fun e w' => ∃ u, e = .returned u ∧ Specs w' u threeL ∧ Below w.heap.size w w' := by
  go_enter Try.func40, Try.ntmps40
  go_wp2
  go_ret
  refine ⟨_, rfl, slOf_block (t := 35) lenS ?_ rfl (by decide) (by decide), (((((Below.refl _ _).alloc (Nat.le_refl _) _).alloc (by simp) _).alloc (by simp; omega) _).alloc (by simp; omega) _)⟩
  exact heap_alloc4 _ _ _ _ _

set_option maxHeartbeats 2000000 in
theorem awake_ok (w : World) : Calls Try.prog 12 #[] w fun e w' => e = .returned (.bool true) ∧ Below w.heap.size w w' := by
  go_enter Try.func12, Try.ntmps12
  go_wp2_with fail
  refine (three_ok _).mono ?_
  rintro e w1 ⟨u, rfl, hs, hb1⟩
  go_wp2_with fail
  refine (Of_ok _ _ _ hs).mono ?_
  rintro e w2 ⟨u2, rfl, hg, hb2⟩
  rw [three_ofE]
  rw [three_ofG] at hg
  have hg0 := hg
  obtain ⟨v1, v2, v3, rfl, ho, hr, hl⟩ := hg
  obtain ⟨A1, c1, e1, _, _, _⟩ := ho.cells
  obtain ⟨A2, c2, e2, _, _, _⟩ := hr.cells
  obtain ⟨A3, c3, e3, _, _, hcl⟩ := hl.cells
  obtain rfl : v1 = .slice A1 2 c1 := e1
  obtain rfl : v2 = .slice A2 2 c2 := e2
  obtain rfl : v3 = .slice A3 3 c3 := e3
  obtain ⟨b, o, rfl, hbb, hc⟩ := hcl 0 (by decide)
  obtain ⟨W3, hW3, Hz3, hb3, hlt3, hc3⟩ := boxed w2 #[.slice A1 2 c1, .slice A2 2 c2, .slice (some ⟨b, o, none⟩) 3 c3] 27
  have s0 := hc3 0 _ rfl; have s1 := hc3 1 _ rfl; have s2 := hc3 2 _ rfl
  clear hc3
  go_wp2_with fail
  refine (Matrix_ok _ _ _ (hg0.below hb3)).mono ?_
  rintro e w4 ⟨m, rfl, hm, hb4⟩
  rw [three_valid]
  rw [three_mat] at hm
  have hw24 := below_trans hb3 hb4
  obtain ⟨l0, _, _⟩ := hc w4 hw24 0 ⟨3, 1, 4⟩ rfl
  rw [Nat.zero_mul, Nat.add_zero] at l0
  have t0 := cell_later hb4 s0; have t1 := cell_later hb4 s1; have t2 := cell_later hb4 s2
  clear s0 s1 s2 hW3 hc
  obtain ⟨Wa, hWa⟩ : ∃ Wa, w4.alloc (.cells #[.int .i64 1, .int .i64 1] 3) = Wa := ⟨_, rfl⟩
  obtain ⟨Wb, hWb⟩ : ∃ Wb, Wa.alloc (.cells #[.int .i64 0, .int .i64 1] 3) = Wb := ⟨_, rfl⟩
  obtain ⟨Wc, hWc⟩ : ∃ Wc, Wb.alloc (.cells #[.slice (some ⟨w4.heap.size, 0, none⟩) 2 2, .slice (some ⟨Wa.heap.size, 0, none⟩) 2 2] 24) = Wc := ⟨_, rfl⟩
  have ha : Below w4.heap.size w4 Wa := by rw [← hWa]; exact (Below.refl _ _).alloc (Nat.le_refl _) _
  have hab : Below Wa.heap.size Wa Wb := by rw [← hWb]; exact (Below.refl _ _).alloc (Nat.le_refl _) _
  have hbc : Below Wb.heap.size Wb Wc := by rw [← hWc]; exact (Below.refl _ _).alloc (Nat.le_refl _) _
  have za : w4.heap.size < Wa.heap.size := by rw [← hWa]; simp
  have zb : Wa.heap.size < Wb.heap.size := by rw [← hWb]; simp
  have ra : Wc.heap[w4.heap.size]? = some (.cells (([1, 1] : List Int).flatMap encI).toArray 3 (0, 0)) := by
    refine heap_below (heap_below (w := Wa) ?_ hab za) hbc (by omega)
    rw [← hWa]; exact heap_alloc_new _ _
  have rb : Wc.heap[Wa.heap.size]? = some (.cells (([0, 1] : List Int).flatMap encI).toArray 3 (0, 0)) := by
    refine heap_below (w := Wb) ?_ hbc zb
    rw [← hWb]; exact heap_alloc_new _ _
  have rc : Wc.heap[Wb.heap.size]? = some (.cells #[.slice (some ⟨w4.heap.size, 0, none⟩) 2 2, .slice (some ⟨Wa.heap.size, 0, none⟩) 2 2] 24 (0, 0)) := by rw [← hWc]; exact heap_alloc_new _ _
  have hrows : Rows Wc (.slice (some ⟨Wb.heap.size, 0, none⟩) 2 2) [[1, 1], [0, 1]] := by
    refine ⟨some ⟨Wb.heap.size, 0, none⟩, 2, [.slice (some ⟨w4.heap.size, 0, none⟩) 2 2, .slice (some ⟨Wa.heap.size, 0, none⟩) 2 2], rfl, by decide, by decide, ⟨rfl, fun _ => ⟨_, 0, rfl, heap_lt rc, fun j u hu => ?_⟩⟩, fun i u xs hu hx => ?_⟩
    · rw [Nat.zero_add, heap_cell rc]; simpa using hu
    · match i, hu, hx with
      | 0, hu, hx => simp at hu hx; subst hu; subst hx; exact slOf_block lenI ra rfl (by decide) (by decide)
      | 1, hu, hx => simp at hu hx; subst hu; subst hx; exact slOf_block lenI rb rfl (by decide) (by decide)
      | n + 2, hu, hx => simp at hu
  have hw4c := below_trans (below_trans ha hab) hbc
  have hL := Lists_ok _ _ _ _ _ (hm.below hw4c) hrows
  rw [show (decide (([[1, 1], [0, 1]] : List (List Int)) = [[1, 1], [0, 1]])) = true from rfl] at hL
  have HL := Lib.hid hL; clear hL ra rb rc hrows
  have q0 := cell_later hw4c t0; have q1 := cell_later hw4c t1; have q2 := cell_later hw4c t2
  go_wp2_with fail
  refine HL.out.mono ?_
  rintro e w5 ⟨rfl, hb5⟩
  have p0 := cell_later hb5 q0; have p1 := cell_later hb5 q1; have p2 := cell_later hb5 q2
  have hD := Degree_ok _ _ ⟨0, 1⟩ _ (hg0.below (below_trans hw24 (below_trans hw4c hb5)))
  rw [three_deg] at hD
  have HD := Lib.hid hD; clear hD q0 q1 q2 t0 t1 t2 hWa hWb hWc
  go_wp2_with fail
  refine HD.out.mono ?_
  rintro e w6 ⟨rfl, hb6⟩
  go_wp2_with fail
  go_ret
  exact ⟨rfl, below_trans (below_trans (below_trans (below_trans (below_trans hb1 hb2) hw24) hw4c) hb5) hb6⟩
end Go.Proofs.Ytifgpmhkdnmhlaa
