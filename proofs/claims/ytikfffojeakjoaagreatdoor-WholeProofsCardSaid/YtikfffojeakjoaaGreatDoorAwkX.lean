/- law51.example and awake. No condition. -/
import Derived.Test.YtikfffojeakjoaaGreatDoorPreA
import Derived.Test.YtikfffojeakjoaaGreatDoorExpA
import Derived.Test.YtikfffojeakjoaaGreatDoorExpM
import Derived.Test.YtikfffojeakjoaaGreatDoorOpen
import Derived.OpenShut
/- Plain: what is so of the example of law51: its least supports. No program in sight, no condition. -/
namespace Go.Proofs.YtikfffojeakjoaaGreatDoor
open Go.RowKit
def fewB51 (l : List Spec) : Bool := decide (l.length ≤ 12) || (decide (64 < l.length) && decide (l.length < 200))
def exL : List Spec := [⟨4, 1, 1, 1, 1, 0, 1⟩, ⟨2, 1, 2, 1, 1, 0, 1⟩, ⟨7, 3, 2, 1, 1, 0, 1⟩, ⟨9, 3, 1, 1, 1, 0, 1⟩]
def exA : Die := ⟨0, 1⟩
def exB : Die := ⟨0, 3⟩
theorem ex_noarcs : NoArcs exL := by
  rintro o (rfl | rfl) <;> decide +kernel
theorem ex_check : checkE exL = 0 := by decide +kernel
theorem ex_of : ofE exL = 0 := by decide +kernel
theorem least_calc {l : List Spec} {a b : Die} {L : List Int} (h : ofE l = 0) (hd : b ∈ diesG (ofG l)) (h0 : 0 ≤ roundsF (ofG l) b (diesG (ofG l)).length a) (hne : a ≠ b) (hj : jnL l a b = true)
    (hL : dfsF (ofG l) (roundsF (ofG l) b (diesG (ofG l)).length) (roundsF (ofG l) b (diesG (ofG l)).length a).toNat a [] none = some L) : LeastS l a b L := by
  have hf := far_done hd fun d hd => (dies_end (of_valid h) d).2 hd
  obtain ⟨M, h1, h2⟩ := dfs_least hf (links_asc h) h0
  rw [hL] at h1
  cases h1
  unfold LeastS
  rw [leastE, if_pos h, if_pos hj, if_pos rfl, if_neg hne]
  exact h2
theorem jn_way2 {l : List Spec} {a b c : Die} (x y : Link) (h : ofE l = 0) (hx : x ∈ (ofG l).links) (hy : y ∈ (ofG l).links) (h1 : acrO x a = some c) (h2 : acrO y c = some b) : jnL l a b = true :=
  way_joins h (.cons hx h1 (.cons hy h2 (.nil _))) (by simp)
theorem ex_jn : jnL exL exA exB = true := jn_way2 (c := ⟨1, 2⟩) ⟨2, 1, 2⟩ ⟨7, 3, 2⟩ ex_of (by decide +kernel) (by decide +kernel) (by decide +kernel) (by decide +kernel)
theorem ex_jnA : jnL exL exA exA = true := jn_way2 (c := ⟨1, 2⟩) ⟨2, 1, 2⟩ ⟨2, 1, 2⟩ ex_of (by decide +kernel) (by decide +kernel) (by decide +kernel) (by decide +kernel)
theorem ex_e : leastE exL exA exB = 0 := by rw [leastE, if_pos ex_of, if_pos ex_jn]
theorem ex_eA : leastE exL exA exA = 0 := by rw [leastE, if_pos ex_of, if_pos ex_jnA]
theorem ex_least : LeastS exL exA exB [2, 7] := least_calc ex_of (by decide +kernel) (by decide +kernel) (by decide) ex_jn (by decide +kernel)
theorem ex_leastA : LeastS exL exA exA [2] := by
  unfold LeastS
  rw [if_pos ex_eA, if_pos rfl]
  exact ⟨⟨2, 1, 2⟩, by decide +kernel, rfl⟩
def ex7 : List Spec := onlyL exL [7] false
theorem ex7_of : ofE ex7 = 0 := by decide +kernel
theorem ex7_jn : jnL ex7 exA exB = true := jn_way2 (c := ⟨1, 1⟩) ⟨4, 1, 1⟩ ⟨9, 3, 1⟩ ex7_of (by decide +kernel) (by decide +kernel) (by decide +kernel) (by decide +kernel)
theorem ex7_e : leastE ex7 exA exB = 0 := by rw [leastE, if_pos ex7_of, if_pos ex7_jn]
theorem ex7_least : LeastS ex7 exA exB [4, 9] := least_calc ex7_of (by decide +kernel) (by decide +kernel) (by decide) ex7_jn (by decide +kernel)
theorem ex_links : (ofG exL).links.map Link.id = [2, 4, 7, 9] := by decide +kernel
theorem ex_need : needL exL exA exB = [] := by
  rw [needL, if_pos ex_e, ex_links]
  have h2 : jnL (onlyL exL [2] false) exA exB = true := jn_way2 (c := ⟨1, 1⟩) ⟨4, 1, 1⟩ ⟨9, 3, 1⟩ (only_of ex_of _ _) (by decide +kernel) (by decide +kernel) (by decide +kernel) (by decide +kernel)
  have h4 : jnL (onlyL exL [4] false) exA exB = true := jn_way2 (c := ⟨1, 2⟩) ⟨2, 1, 2⟩ ⟨7, 3, 2⟩ (only_of ex_of _ _) (by decide +kernel) (by decide +kernel) (by decide +kernel) (by decide +kernel)
  have h7 : jnL (onlyL exL [7] false) exA exB = true := ex7_jn
  have h9 : jnL (onlyL exL [9] false) exA exB = true := jn_way2 (c := ⟨1, 2⟩) ⟨2, 1, 2⟩ ⟨7, 3, 2⟩ (only_of ex_of _ _) (by decide +kernel) (by decide +kernel) (by decide +kernel) (by decide +kernel)
  simp [h2, h4, h7, h9]
theorem ex_is : isS exL exA exB [2, 4, 7] = true :=
  isS_of ex_of (by decide) (by decide) (jn_way2 (c := ⟨1, 2⟩) ⟨2, 1, 2⟩ ⟨7, 3, 2⟩ (only_of ex_of _ _) (by decide +kernel) (by decide +kernel) (by decide +kernel) (by decide +kernel))
theorem ex_min : minS exL exA exB [2, 4, 7] = false := by
  have h1 : jnL (onlyL exL [2, 7] true) exA exB = true := jn_way2 (c := ⟨1, 2⟩) ⟨2, 1, 2⟩ ⟨7, 3, 2⟩ (only_of ex_of _ _) (by decide +kernel) (by decide +kernel) (by decide +kernel) (by decide +kernel)
  rw [minS, ex_is, Bool.true_and]
  refine Bool.eq_false_iff.2 fun h => ?_
  have := List.all_eq_true.1 h 1 (by decide)
  rw [show ([2, 4, 7] : List Int).eraseIdx 1 = [2, 7] from rfl, h1] at this
  cases this
end Go.Proofs.YtikfffojeakjoaaGreatDoor
namespace Go.Proofs.YtikfffojeakjoaaGreatDoor
open Go.RowKit Go.Maps Go.Shelf

/-- Three blocks of seven cells, of their own. -/
structure Ex4 (W w : World) (t : TypeId) (A B C : Nat) (a b c : List Value) : Prop where
  hb : Below W.heap.size W w
  ra : w.heap[A]? = some (.cells a.toArray t (0, 0))
  rb : w.heap[B]? = some (.cells b.toArray t (0, 0))
  rc : w.heap[C]? = some (.cells c.toArray t (0, 0))
  hA : W.heap.size ≤ A
  hB : W.heap.size ≤ B
  hC : W.heap.size ≤ C
  ab : A ≠ B
  ac : A ≠ C
  bc : B ≠ C
section
variable {W w : World} {t : TypeId} {A B C : Nat} {a b c : List Value}
theorem row_put {g : Nat} {l : List Value} (h : w.heap[g]? = some (.cells l.toArray t (0, 0))) (k : Nat) (x : Value) : (w.setCell ⟨g, k, none⟩ x).heap[g]? = some (.cells (l.set k x).toArray t (0, 0)) := by
  rw [heap_setCell_same w g k _ _ x h]; simp
theorem row_off {g g' : Nat} {o : Obj} (h : w.heap[g]? = some o) (hne : g ≠ g') (k : Nat) (vs : List Value) : (w.setCells g' k vs).heap[g]? = some o :=
  ((setCells_grown g' vs w k).block g (heap_lt h) fun e => hne (Option.some.inj e)).trans h
theorem Ex4.setA (h : Ex4 W w t A B C a b c) (k : Nat) (x : Value) : Ex4 W (w.setCell ⟨A, k, none⟩ x) t A B C (a.set k x) b c :=
  ⟨h.hb.grown (setCells_grown A [x] w k) h.hb.size (fun j e => by cases e; exact h.hA), row_put h.ra k x, row_off h.rb h.ab.symm k [x], row_off h.rc h.ac.symm k [x], h.hA, h.hB, h.hC, h.ab, h.ac, h.bc⟩
theorem Ex4.setB (h : Ex4 W w t A B C a b c) (k : Nat) (x : Value) : Ex4 W (w.setCell ⟨B, k, none⟩ x) t A B C a (b.set k x) c :=
  ⟨h.hb.grown (setCells_grown B [x] w k) h.hb.size (fun j e => by cases e; exact h.hB), row_off h.ra h.ab k [x], row_put h.rb k x, row_off h.rc h.bc.symm k [x], h.hA, h.hB, h.hC, h.ab, h.ac, h.bc⟩
theorem Ex4.setC (h : Ex4 W w t A B C a b c) (k : Nat) (x : Value) : Ex4 W (w.setCell ⟨C, k, none⟩ x) t A B C a b (c.set k x) :=
  ⟨h.hb.grown (setCells_grown C [x] w k) h.hb.size (fun j e => by cases e; exact h.hC), row_off h.ra h.ac k [x], row_off h.rb h.bc k [x], row_put h.rc k x, h.hA, h.hB, h.hC, h.ab, h.ac, h.bc⟩
theorem Ex4.allA (h : Ex4 W w t A B C a b c) (vs : List Value) (hl : a.length = vs.length) : Ex4 W (w.setCells A 0 vs) t A B C vs b c :=
  ⟨h.hb.grown (setCells_grown A vs w 0) h.hb.size (fun j e => by cases e; exact h.hA), heap_setCells vs [] a w h.ra hl, row_off h.rb h.ab.symm 0 vs, row_off h.rc h.ac.symm 0 vs, h.hA, h.hB, h.hC, h.ab, h.ac, h.bc⟩
theorem Ex4.allB (h : Ex4 W w t A B C a b c) (vs : List Value) (hl : b.length = vs.length) : Ex4 W (w.setCells B 0 vs) t A B C a vs c :=
  ⟨h.hb.grown (setCells_grown B vs w 0) h.hb.size (fun j e => by cases e; exact h.hB), row_off h.ra h.ab 0 vs, heap_setCells vs [] b w h.rb hl, row_off h.rc h.bc.symm 0 vs, h.hA, h.hB, h.hC, h.ab, h.ac, h.bc⟩
theorem Ex4.allC (h : Ex4 W w t A B C a b c) (vs : List Value) (hl : c.length = vs.length) : Ex4 W (w.setCells C 0 vs) t A B C a b vs :=
  ⟨h.hb.grown (setCells_grown C vs w 0) h.hb.size (fun j e => by cases e; exact h.hC), row_off h.ra h.ac 0 vs, row_off h.rb h.bc 0 vs, heap_setCells vs [] c w h.rc hl, h.hA, h.hB, h.hC, h.ab, h.ac, h.bc⟩
end
theorem slOf_blk {α : Type} {enc : α → List Value} {k : Nat} {w : World} {g n c : Nat} {t : TypeId} {xs : List α} (hk : ∀ x, (enc x).length = k) (h : w.heap[g]? = some (.cells (xs.flatMap enc).toArray t (0, 0))) (hn : n = xs.length) (h1 : n ≤ c) (h2 : c ≤ maxLen) :
    SlOf enc k w (.slice (some ⟨g, 0, none⟩) n c) xs := by
  subst hn
  refine ⟨some ⟨g, 0, none⟩, c, rfl, h1, h2, flat_len enc k hk xs, fun _ => ⟨g, 0, rfl, heap_lt h, fun j u hu => ?_⟩⟩
  rw [Nat.zero_add, heap_cell h]
  simpa using hu
theorem wpAnyS_three {P : Program} {md : Region.Mode} {ops : Array Oper} {Q : Exit → Act → World → Prop} {S : World → Prop} {n : Nat} (i j k : Nat) {o o' o'' : Oper} {f : Nat} {listed : Array Bool} {a : Act} {w : World} (hr : Region.ready md ops listed = [i, j, k]) (hi : ops[i]? = some o) (hj : ops[j]? = some o') (hk : ops[k]? = some o'') (hin : i < n) (hjn : j < n) (hkn : k < n)
    (h : ∀ K : Act → World → Prop, (∀ a' w', S w' → wpAnyS P md ops Q S n (tailOf P md ops Q n) f (listed.setIfInBounds i true) a' w' → K a' w') → if Region.wanted o (yielded ops a.tmps) = true then Oper.wp P o a w K Q else K (a.put o.dst undef) w)
    (h' : ∀ K : Act → World → Prop, (∀ a' w', S w' → wpAnyS P md ops Q S n (tailOf P md ops Q n) f (listed.setIfInBounds j true) a' w' → K a' w') → if Region.wanted o' (yielded ops a.tmps) = true then Oper.wp P o' a w K Q else K (a.put o'.dst undef) w)
    (h'' : ∀ K : Act → World → Prop, (∀ a' w', S w' → wpAnyS P md ops Q S n (tailOf P md ops Q n) f (listed.setIfInBounds k true) a' w' → K a' w') → if Region.wanted o'' (yielded ops a.tmps) = true then Oper.wp P o'' a w K Q else K (a.put o''.dst undef) w) :
    wpAnyS P md ops Q S n (tailOf P md ops Q n) (f + 1) listed a w := by
  refine ⟨by rw [hr]; simp, fun l hl => ?_⟩
  rw [hr] at hl
  simp only [List.mem_cons, List.not_mem_nil, or_false] at hl
  rcases hl with rfl | rfl | rfl
  · exact ⟨hin, wpOp_want hi (h _ fun a' w' h1 h2 => ⟨h1, h2⟩)⟩
  · exact ⟨hjn, wpOp_want hj (h' _ fun a' w' h1 h2 => ⟨h1, h2⟩)⟩
  · exact ⟨hkn, wpOp_want hk (h'' _ fun a' w' h1 h2 => ⟨h1, h2⟩)⟩
end Go.Proofs.YtikfffojeakjoaaGreatDoor
/- law51.awake. No condition. -/
namespace Go.Proofs.YtikfffojeakjoaaGreatDoor
open Go.RowKit Go.Maps Go.Shelf

theorem exA_wf : wfD exA := by decide
theorem exB_wf : wfD exB := by decide
end Go.Proofs.YtikfffojeakjoaaGreatDoor
/- Chapter 51's laws: two dies as an array, read; the heads. No condition. -/
namespace Go.Proofs.YtikfffojeakjoaaGreatDoor
open Go.RowKit Go.ChangeShapes Go.WideShapes Go.Deep

section
variable {H : Type} {enc : TypeId × Value → H} {P : Program} {w : World} {base : Nat} {spare : Nat → Bool} {held : Bool}
theorem okWide_arr {r : Reach} {b0 n : Nat} {t e : TypeId} {v : Value} (ht : P.underlying t = some (.array n e)) (h : Value.okWide P w r b0 t v) : ∃ cs, v = .agg cs ∧ cs.size = P.cellsOf t := by
  unfold Value.okWide at h
  simp only [ht] at h
  obtain ⟨cs, h1, h2, _⟩ := h
  exact ⟨cs, h1, h2⟩
set_option maxRecDepth 100000 in
theorem die_elem {n : Nat} {a b : Value} {y : DataW H × List MemPlace} (h : DataW.trod enc Tryz.prog w base spare held n 43 [a, b] = some y) : ∃ x : Die, a = .int .i64 x.side ∧ b = .int .i64 x.num ∧ wfI x.side ∧ wfI x.num := by
  obtain ⟨y0, y1, m, _, _, h0, h1⟩ := trod_struct2 Tryz.underlying43 h
  have cI : Tryz.prog.cellsOf 3 = 1 := by kernel_rfl
  have h0' : DataW.trod enc Tryz.prog w base spare held m 3 ((List.drop 0 [a, b]).take (Tryz.prog.cellsOf 3)) = some y0 := h0
  have h1' : DataW.trod enc Tryz.prog w base spare held m 3 ((List.drop 1 [a, b]).take (Tryz.prog.cellsOf 3)) = some y1 := h1
  rw [cI] at h0' h1'
  obtain ⟨s, e1, _, w1⟩ := DataW.trod_int Tryz.underlying3 h0'
  obtain ⟨k, e2, _, w2⟩ := DataW.trod_int Tryz.underlying3 h1'
  simp at e1 e2
  exact ⟨⟨s, k⟩, e1, e2, w1, w2⟩
end
end Go.Proofs.YtikfffojeakjoaaGreatDoor
