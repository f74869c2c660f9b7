/- The law package's few and clone. Condition: the argument reads as a graph. -/
import Derived.Test.YtifgpmhkdnmhlaaLinkB
import Derived.Deep.RegionLawGrows
namespace Go.Proofs.Ytifgpmhkdnmhlaa
open Go.RowKit Go.Shelf

def fewB (g : Graph) : Bool := decide (g.obv.length ≤ 60) && decide (g.rev.length ≤ 60) && decide (g.links.length ≤ 100)
set_option maxHeartbeats 1000000 in
theorem few_ok (v : Value) (g : Graph) (w : World) (h : GraphAt w v g) :
    Calls Try.prog 18 #[v] w fun e w' => e = .returned (.bool (fewB g)) ∧ Below w.heap.size w w' := by
  obtain ⟨v1, v2, v3, rfl, ho, hr, hl⟩ := h
  obtain ⟨A1, c1, rfl, _, _, _⟩ := ho.cells
  obtain ⟨A2, c2, rfl, _, _, _⟩ := hr.cells
  obtain ⟨A3, c3, rfl, _, _, _⟩ := hl.cells
  obtain ⟨W, hW, Hz, hwW, hlt, hc1⟩ := boxed w #[.slice A1 g.obv.length c1, .slice A2 g.rev.length c2, .slice A3 g.links.length c3] 27
  have a0 := hc1 0 _ rfl; have a1 := hc1 1 _ rfl; have a2 := hc1 2 _ rfl
  clear hc1 ho hr hl
  have e1 : decide ((g.obv.length : Int) ≤ 60) = decide (g.obv.length ≤ 60) := decide_eq_decide.2 (by omega)
  have e2 : decide ((g.rev.length : Int) ≤ 60) = decide (g.rev.length ≤ 60) := decide_eq_decide.2 (by omega)
  have e3 : decide ((g.links.length : Int) ≤ 100) = decide (g.links.length ≤ 100) := decide_eq_decide.2 (by omega)
  have E1 := Lib.hid e1; have E2 := Lib.hid e2; have E3 := Lib.hid e3; clear e1 e2 e3
  cases q1 : decide ((g.obv.length : Int) ≤ 60)
  · go_enter Try.func18, Try.ntmps18
    go_wp2_with fail
    go_ret
    exact ⟨ret_bool (by rw [fewB, ← E1.out, q1]; rfl), hwW⟩
  cases q2 : decide ((g.rev.length : Int) ≤ 60)
  · go_enter Try.func18, Try.ntmps18
    go_wp2_with fail
    go_ret
    exact ⟨ret_bool (by rw [fewB, ← E1.out, ← E2.out, q1, q2]; rfl), hwW⟩
  go_enter Try.func18, Try.ntmps18
  go_wp2_with fail
  go_ret
  exact ⟨ret_bool (by rw [fewB, ← E1.out, ← E2.out, ← E3.out, q1, q2]; rfl), hwW⟩

/-- append onto an empty slice that has no room: a copy. -/
theorem step_append_clone {P : Program} {w : World} {α : Type} {enc : α → List Value} {size : Nat} {e : TypeId} {ops : Array Oper} {o : Oper} {a : Act} {K : Act → World → Prop} {Q : Exit → Act → World → Prop} {E : Prop} (hgd : o.guard = none) (s x : Operand) (t : TypeId)
    (ho : o.op = .call { callee := .builtin .append, args := #[s, x], argTypes := #[t, t] })
    (i : TypeInfo) (z : Value) (bytes : Nat) (ht : P.underlying t = some (.slice e)) (hi : P.info? e = some i) (hz : i.zero = some z)
    (hsize : i.size = size) (hby : i.bytes = bytes) (hzs : z.cells.size = size) (hsz : 0 < size) (h1 : ∀ x, ∀ u ∈ enc x, u.oneCell' = true)
    (g : Nat) (hs : a.eval s = .slice (some ⟨g, 0, none⟩) 0 0) (A : Option Addr) (c n : Nat) (ys : List α) (hx : a.eval x = .slice A n c) (hl : n = ys.length) (hr : Sl w size A ys.length (ys.flatMap enc))
    (hn : ys.length * bytes ≤ 140737488355328) (hn' : ys.length ≤ 140737488355328)
    (h : ∀ v' w', SlOf enc size w' v' ys → Fresh w.heap.size v' ∨ ys = [] → Below w.heap.size w w' → K (a.put o.dst v') w') :
    if Region.wanted o (yielded ops a.tmps) = true then Oper.wp P o a w K Q else E := by
  subst hl
  rcases Nat.eq_zero_or_pos ys.length with h0 | h0
  · have e0 : ys = [] := List.eq_nil_of_length_eq_zero h0
    subst e0
    rw [if_pos (by simp [Region.wanted, hgd])]
    have hrun : (Builtin.append_ #[t, t] o.type #[.slice (some ⟨g, 0, none⟩) 0 0, .slice A 0 c]).run P w = .ok (.slice (some ⟨g, 0, none⟩) 0 0) w := by
      cases A <;> simp [Builtin.append_, run_underlying ht, sizeOf, typeInfo, hi, Builtin.lenOf, Builtin.firstCells, storeCells, loadCells, loadCellsFrom]
    unfold Oper.wp execOp
    simp only [ho, resolve, invoke, builtin, Sem.run_bind, Sem.run_pure, Result.andThen_ok, List.map_toArray, List.map_cons, List.map_nil, hs, hx, List.length_nil, hrun]
    exact h _ _ ⟨_, 0, rfl, Nat.le_refl _, by simp [maxLen], Sl.nil _ _ _⟩ (.inr rfl) (Below.refl _ _)
  · obtain ⟨b, o', rfl, _, hc⟩ := hr.2 h0
    refine step_append_grows hgd s x t ho e i z size bytes ht hi hz hsize hby hzs hsz (some ⟨g, 0, none⟩) 0 0 [] hs (fun e => by cases e) (by simp) (fun b _ j u hu => by simp at hu) ⟨b, o', none⟩ ys.length c (ys.flatMap enc) hx hr.1
      (fun j u hu => by rw [Addr.add_lit]; exact hc j u hu) (fun u hu => by obtain ⟨x, _, hx⟩ := List.mem_flatMap.1 hu; exact h1 x u hx) (by omega) (by simp only [maxLen]; omega) (by rw [Nat.zero_add]; exact hn) ?_
    intro v' w' hown hgrow
    have hO : Own enc size e w.heap.size w' v' ys := by
      unfold Own
      rw [Nat.zero_add, List.nil_append] at hown
      exact hown
    exact h v' w' hO.slOf (.inl hO.fresh) ((Below.refl _ _).grown hgrow (Nat.le_refl _) (fun k e => by cases e))
theorem slOf_alloc1 {α : Type} {enc : α → List Value} {k : Nat} {w : World} {v : Value} {xs : List α} (h : SlOf enc k w v xs) (o : Obj) : SlOf enc k (w.alloc o) v xs := h.below ((Below.refl _ _).alloc (Nat.le_refl _) _)
theorem slOf_alloc2 {α : Type} {enc : α → List Value} {k : Nat} {w : World} {v : Value} {xs : List α} (h : SlOf enc k w v xs) (o o' : Obj) : SlOf enc k ((w.alloc o).alloc o') v xs := slOf_alloc1 (slOf_alloc1 h o) o'

/-- While clone runs: the argument's box, the result's block behind it. -/
structure ClS (w : World) (v1 v2 v3 : Value) (w' : World) : Prop where
  b : Below w.heap.size w w'
  g : w'.heap[w.heap.size]? = some (.cells #[v1, v2, v3] 27 (0, 0))
  r : ∃ a b c, w'.heap[w.heap.size + 1]? = some (.cells #[a, b, c] 27 (0, 0))
section
variable {w w' w'' : World} {v1 v2 v3 : Value}
theorem ClS.later (h : ClS w v1 v2 v3 w') (hb : Below w'.heap.size w' w'') : ClS w v1 v2 v3 w'' := by
  obtain ⟨a, b, c, hr⟩ := h.r
  exact ⟨h.b.trans (hb.mono h.b.size), heap_below h.g hb (heap_lt h.g), a, b, c, heap_below hr hb (heap_lt hr)⟩
theorem ClS.alloc (h : ClS w v1 v2 v3 w') (o : Obj) : ClS w v1 v2 v3 (w'.alloc o) := h.later ((Below.refl _ _).alloc (Nat.le_refl _) _)
theorem ClS.store (h : ClS w v1 v2 v3 w') (x y z : Value) : ClS w v1 v2 v3 (((w'.setCell ⟨w.heap.size + 1, 0, none⟩ x).setCell ⟨w.heap.size + 1, 1, none⟩ y).setCell ⟨w.heap.size + 1, 2, none⟩ z) := by
  obtain ⟨a, b, c, hr⟩ := h.r
  refine ⟨below_set3 h.b (by omega) _ _ _, ?_, x, y, z, heap_set3 hr⟩
  rw [heap_setCell_other _ _ _ _ (by simp), heap_setCell_other _ _ _ _ (by simp), heap_setCell_other _ _ _ _ (by simp)]
  exact h.g
theorem ClS.size2 (h : ClS w v1 v2 v3 w') : w.heap.size + 2 ≤ w'.heap.size := by
  obtain ⟨a, b, c, hr⟩ := h.r
  have := heap_lt hr
  omega
theorem set3e {α : Type} {enc : α → List Value} {k : Nat} {w : World} {v : Value} {xs : List α} {B g : Nat} (h : SlOf enc k w v xs) (hp : Fresh B v ∨ xs = []) (hg : g < B) (x y z : Value) :
    SlOf enc k (((w.setCell ⟨g, 0, none⟩ x).setCell ⟨g, 1, none⟩ y).setCell ⟨g, 2, none⟩ z) v xs := by
  rcases hp with hp | rfl
  · exact h.set3 (hp.ne hg) x y z
  · obtain ⟨A, c, e, h1, h2, _⟩ := h
    exact ⟨A, c, e, h1, h2, Sl.nil _ _ _⟩
theorem ClS.facts (h : ClS w v1 v2 v3 w') : ClS w v1 v2 v3 w' ∧ w'.cell? ⟨w.heap.size, 0, none⟩ = some v1 ∧ w'.cell? ⟨w.heap.size, 1, none⟩ = some v2 ∧ w'.cell? ⟨w.heap.size, 2, none⟩ = some v3 := ⟨h, heap_cell h.g, heap_cell h.g, heap_cell h.g⟩
end
set_option maxHeartbeats 4000000 in
theorem clone_ok (v : Value) (g : Graph) (w : World) (h : GraphAt w v g) (hf : fewB g = true) :
    Calls Try.prog 19 #[v] w fun e w' => ∃ u, e = .returned u ∧ GraphAt w' u g ∧ Below w.heap.size w w' := by
  obtain ⟨v1, v2, v3, rfl, ho, hr, hl⟩ := h
  obtain ⟨A1, c1, rfl, _, _, _⟩ := ho.cells
  obtain ⟨A2, c2, rfl, _, _, _⟩ := hr.cells
  obtain ⟨A3, c3, rfl, _, _, _⟩ := hl.cells
  simp only [fewB, Bool.and_eq_true, decide_eq_true_eq] at hf
  obtain ⟨⟨f1, f2⟩, f3⟩ := hf
  obtain ⟨W0, hW0, Hz0, hwW0, hlt0, hc0⟩ := boxed w #[.slice A1 g.obv.length c1, .slice A2 g.rev.length c2, .slice A3 g.links.length c3] 27
  obtain ⟨W, hW, Hz, hWW, hlt, hc1⟩ := boxed W0 #[.slice none 0 0, .slice none 0 0, .slice none 0 0] 27
  have hwW := below_trans hwW0 hWW
  have a0 := cell_later hWW (hc0 0 _ rfl); have a1 := cell_later hWW (hc0 1 _ rfl); have a2 := cell_later hWW (hc0 2 _ rfl)
  have hcl : ClS w (.slice A1 g.obv.length c1) (.slice A2 g.rev.length c2) (.slice A3 g.links.length c3) W.drew := by
    refine ⟨hwW.drew, heap_below (w := W0) (w' := W.drew) ?_ hWW.drew hlt0, .slice none 0 0, .slice none 0 0, .slice none 0 0, ?_⟩
    · rw [← hW0]; exact heap_alloc_new _ _
    · rw [← Hz0.out, ← hW]; exact heap_alloc_new _ _
  clear hc0 hc1
  have hW' : (w.alloc (.cells #[.slice A1 g.obv.length c1, .slice A2 g.rev.length c2, .slice A3 g.links.length c3] 27)).alloc (.cells #[.slice none 0 0, .slice none 0 0, .slice none 0 0] 27) = W := by rw [hW0, hW]
  clear hW0 hW
  obtain ⟨iI, hiI, hzI, hkI, hbI⟩ := info_parts infoI
  obtain ⟨iL, hiL, hzL, hkL, hbL⟩ := info_parts infoL
  have oneE := oneI; have oneF := oneL
  have CL : Hid (ClS w (.slice A1 g.obv.length c1) (.slice A2 g.rev.length c2) (.slice A3 g.links.length c3) W.drew) := hcl
  clear hcl
  go_enter Try.func19, Try.ntmps19
  go_wp2_with fail
  clear hW'
  go_region_held3 (fun w' => ClS w (.slice A1 g.obv.length c1) (.slice A2 g.rev.length c2) (.slice A3 g.links.length c3) w' ∧ w'.cell? ⟨w.heap.size, 0, none⟩ = some (.slice A1 g.obv.length c1) ∧ w'.cell? ⟨w.heap.size, 1, none⟩ = some (.slice A2 g.rev.length c2) ∧ w'.cell? ⟨w.heap.size, 2, none⟩ = some (.slice A3 g.links.length c3))
    (first | exact CL.out.facts | exact ClS.facts (by assumption) | exact ((‹ClS w _ _ _ _ ∧ _›).1.alloc _).facts | exact ((‹ClS w _ _ _ _ ∧ _›).1.store _ _ _).facts)
    (first
      | (have hR := (‹ClS w _ _ _ _ ∧ _›).1; refine step_append_clone (by rfl) (.tmp 3) (.tmp 5) _ (by rfl) iI _ 8 Try.underlying24 hiI hzI hkI hbI (by rfl) (by decide) oneE _ (by rfl) A1 c1 _ g.obv (by rfl) (by rfl) (SlOf.sl (SlOf.below ho hR.b)) (by omega) (by omega) ?_; intro x1 w1 hs1 hf1 hb1; have hq1 := hR.later hb1; have hF1 := hf1.imp (fun h => Fresh.mono h hR.size2) id)
      | (have hR := (‹ClS w _ _ _ _ ∧ _›).1; refine step_append_clone (by rfl) (.tmp 7) (.tmp 9) _ (by rfl) iI _ 8 Try.underlying24 hiI hzI hkI hbI (by rfl) (by decide) oneE _ (by rfl) A2 c2 _ g.rev (by rfl) (by rfl) (SlOf.sl (SlOf.below hr hR.b)) (by omega) (by omega) ?_; intro x2 w2 hs2 hf2 hb2; have hq2 := hR.later hb2; have hF2 := hf2.imp (fun h => Fresh.mono h hR.size2) id; have t1 := SlOf.below (by first | exact hs1 | exact slOf_alloc1 hs1 _ | exact slOf_alloc2 hs1 _ _) hb2)
      | (have hR := (‹ClS w _ _ _ _ ∧ _›).1; refine step_append_clone (by rfl) (.tmp 11) (.tmp 13) _ (by rfl) iL _ 24 Try.underlying25 hiL hzL hkL hbL (by rfl) (by decide) oneF _ (by rfl) A3 c3 _ g.links (by rfl) (by rfl) (SlOf.sl (SlOf.below hl hR.b)) (by omega) (by omega) ?_; intro x3 w3 hs3 hf3 hb3; have hq3 := hR.later hb3; have hF3 := hf3.imp (fun h => Fresh.mono h hR.size2) id; have r1 := SlOf.below (by first | exact t1 | exact slOf_alloc1 t1 _ | exact slOf_alloc2 t1 _ _) hb3; have r2 := SlOf.below (by first | exact hs2 | exact slOf_alloc1 hs2 _ | exact slOf_alloc2 hs2 _ _) hb3; obtain ⟨B1, e1, rfl, _, _, _⟩ := (show Ints _ _ _ from r1).cells; obtain ⟨B2, e2, rfl, _, _, _⟩ := (show Ints _ _ _ from r2).cells; obtain ⟨B3, e3, rfl, _, _, _⟩ := (show Links _ _ _ from hs3).cells; obtain ⟨za, zb, zc, F0⟩ := hq3.r; obtain ⟨y0, y1, y2, z0, z1, z2⟩ := blk3 F0; have FF := Lib.hid F0; clear F0))
  all_goals
    clear y0 y1 y2 z0 z1 z2
    go_wp2
    refine bodyPost_ret (results_cell_row rfl _ _ (w.heap.size + 1) 27 #[.slice B1 g.obv.length e1, .slice B2 g.rev.length e2, .slice B3 g.links.length e3] (0, 0) _ (by simp) (heap_set3 FF.out) Try.underlying27 rfl infoG) rfl ?_
    exact ⟨_, rfl, ⟨_, _, _, rfl, set3e r1 hF1 (by omega) _ _ _, set3e r2 hF2 (by omega) _ _ _, set3e hs3 hF3 (by omega) _ _ _⟩, below_set3 hq3.b (by omega) _ _ _⟩
end Go.Proofs.Ytifgpmhkdnmhlaa
