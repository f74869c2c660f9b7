/- law51.example and awake. No condition. -/
import Derived.Test.YtlmjncncmgmehaaGreatPreA
import Derived.Test.YtlmjncncmgmehaaGreatExpA
import Derived.Test.YtlmjncncmgmehaaGreatExpM
import Derived.Test.YtlmjncncmgmehaaGreatOpen
import Derived.OpenShut
/- Plain: what is so of the example of law51: its least supports. No program in sight, no condition. -/
namespace Go.Proofs.YtlmjncncmgmehaaGreat
open Go.RowKit
def fewB51 (l : List Spec) : Bool := decide (l.length ≤ 12) || (decide (64 < l.length) && decide (l.length < 200))
set_option maxHeartbeats 1000000 in
theorem Few51_ok (v : Value) (l : List Spec) (w : World) (h : Specs w v l) : Calls Tryz.prog 11 #[v] w fun e w' => e = .returned (.bool (fewB51 l)) ∧ w = w' := by
  obtain ⟨A, c, rfl, _⟩ := id h
  clear h
  unfold fewB51
  by_cases h1 : l.length ≤ 12
  · have d1 : decide ((l.length : Int) ≤ 12) = true := by simp; omega
    rw [decide_eq_true h1, Bool.true_or]
    clear h1
    go_enter Tryz.func11, Tryz.ntmps11
    go_wp2_with fail
    go_ret
    exact ⟨rfl, rfl⟩
  · have d1 : decide ((l.length : Int) ≤ 12) = false := by simp; omega
    rw [decide_eq_false h1, Bool.false_or]
    by_cases h2 : 64 < l.length
    · have d2 : decide ((64 : Int) < (l.length : Int)) = true := by simp; omega
      rw [decide_eq_true h2, Bool.true_and]
      by_cases h3 : l.length < 200
      · have d3 : decide ((l.length : Int) < 200) = true := by simp; omega
        rw [decide_eq_true h3]
        clear h1 h2 h3
        go_enter Tryz.func11, Tryz.ntmps11
        go_wp2_with fail
        go_ret
        exact ⟨rfl, rfl⟩
      · have d3 : decide ((l.length : Int) < 200) = false := by simp; omega
        rw [decide_eq_false h3]
        clear h1 h2 h3
        go_enter Tryz.func11, Tryz.ntmps11
        go_wp2_with fail
        go_ret
        exact ⟨rfl, rfl⟩
    · have d2 : decide ((64 : Int) < (l.length : Int)) = false := by simp; omega
      rw [decide_eq_false h2, Bool.false_and]
      clear h1 h2
      go_enter Tryz.func11, Tryz.ntmps11
      go_wp2_with fail
      go_ret
      exact ⟨rfl, rfl⟩


def exL : List Spec := [⟨4, 1, 1, 1, 1, 0, 1⟩, ⟨2, 1, 2, 1, 1, 0, 1⟩, ⟨7, 3, 2, 1, 1, 0, 1⟩, ⟨9, 3, 1, 1, 1, 0, 1⟩]
def exA : Die := ⟨0, 1⟩
def exB : Die := ⟨0, 3⟩
theorem ex_noarcs : NoArcs exL := by
  rintro o (rfl | rfl) <;> decide +kernel
theorem ex_check : checkE exL = 0 := by decide +kernel
theorem ex_of : ofE exL = 0 := by decide +kernel
theorem least_calc {l : List Spec} {a b : Die} {L : List Int} (h : ofE l = 0) (hd : b ∈ diesG (ofG l)) (h0 : 0 ≤ roundsF (ofG l) b (diesG (ofG l)).length a) (hne : a ≠ b) (hj : jnL l a b = true)
    (hL : dfsF (ofG l) (roundsF (ofG l) b (diesG (ofG l)).length) (roundsF (ofG l) b (diesG (ofG l)).length a).toNat a [] none = some L) : LeastS l a b L := by
  have hf := far_done hd fun d hd => (dies_end (of_valid h) d).2 hd
  obtain ⟨M, h1, h2⟩ := dfs_least hf (links_asc h) h0
  rw [hL] at h1
  cases h1
  unfold LeastS
  rw [leastE, if_pos h, if_pos hj, if_pos rfl, if_neg hne]
  exact h2
theorem jn_way2 {l : List Spec} {a b c : Die} (x y : Link) (h : ofE l = 0) (hx : x ∈ (ofG l).links) (hy : y ∈ (ofG l).links) (h1 : acrO x a = some c) (h2 : acrO y c = some b) : jnL l a b = true :=
  way_joins h (.cons hx h1 (.cons hy h2 (.nil _))) (by simp)
theorem ex_jn : jnL exL exA exB = true := jn_way2 (c := ⟨1, 2⟩) ⟨2, 1, 2⟩ ⟨7, 3, 2⟩ ex_of (by decide +kernel) (by decide +kernel) (by decide +kernel) (by decide +kernel)
theorem ex_jnA : jnL exL exA exA = true := jn_way2 (c := ⟨1, 2⟩) ⟨2, 1, 2⟩ ⟨2, 1, 2⟩ ex_of (by decide +kernel) (by decide +kernel) (by decide +kernel) (by decide +kernel)
theorem ex_e : leastE exL exA exB = 0 := by rw [leastE, if_pos ex_of, if_pos ex_jn]
theorem ex_eA : leastE exL exA exA = 0 := by rw [leastE, if_pos ex_of, if_pos ex_jnA]
theorem ex_least : LeastS exL exA exB [2, 7] := least_calc ex_of (by decide +kernel) (by decide +kernel) (by decide) ex_jn (by decide +kernel)
theorem ex_leastA : LeastS exL exA exA [2] := by
  unfold LeastS
  rw [if_pos ex_eA, if_pos rfl]
  exact ⟨⟨2, 1, 2⟩, by decide +kernel, rfl⟩
def ex7 : List Spec := onlyL exL [7] false
theorem ex7_of : ofE ex7 = 0 := by decide +kernel
theorem ex7_jn : jnL ex7 exA exB = true := jn_way2 (c := ⟨1, 1⟩) ⟨4, 1, 1⟩ ⟨9, 3, 1⟩ ex7_of (by decide +kernel) (by decide +kernel) (by decide +kernel) (by decide +kernel)
theorem ex7_e : leastE ex7 exA exB = 0 := by rw [leastE, if_pos ex7_of, if_pos ex7_jn]
theorem ex7_least : LeastS ex7 exA exB [4, 9] := least_calc ex7_of (by decide +kernel) (by decide +kernel) (by decide) ex7_jn (by decide +kernel)
theorem ex_links : (ofG exL).links.map Link.id = [2, 4, 7, 9] := by decide +kernel
theorem ex_need : needL exL exA exB = [] := by
  rw [needL, if_pos ex_e, ex_links]
  have h2 : jnL (onlyL exL [2] false) exA exB = true := jn_way2 (c := ⟨1, 1⟩) ⟨4, 1, 1⟩ ⟨9, 3, 1⟩ (only_of ex_of _ _) (by decide +kernel) (by decide +kernel) (by decide +kernel) (by decide +kernel)
  have h4 : jnL (onlyL exL [4] false) exA exB = true := jn_way2 (c := ⟨1, 2⟩) ⟨2, 1, 2⟩ ⟨7, 3, 2⟩ (only_of ex_of _ _) (by decide +kernel) (by decide +kernel) (by decide +kernel) (by decide +kernel)
  have h7 : jnL (onlyL exL [7] false) exA exB = true := ex7_jn
  have h9 : jnL (onlyL exL [9] false) exA exB = true := jn_way2 (c := ⟨1, 2⟩) ⟨2, 1, 2⟩ ⟨7, 3, 2⟩ (only_of ex_of _ _) (by decide +kernel) (by decide +kernel) (by decide +kernel) (by decide +kernel)
  simp [h2, h4, h7, h9]
theorem ex_is : isS exL exA exB [2, 4, 7] = true :=
  isS_of ex_of (by decide) (by decide) (jn_way2 (c := ⟨1, 2⟩) ⟨2, 1, 2⟩ ⟨7, 3, 2⟩ (only_of ex_of _ _) (by decide +kernel) (by decide +kernel) (by decide +kernel) (by decide +kernel))
theorem ex_min : minS exL exA exB [2, 4, 7] = false := by
  have h1 : jnL (onlyL exL [2, 7] true) exA exB = true := jn_way2 (c := ⟨1, 2⟩) ⟨2, 1, 2⟩ ⟨7, 3, 2⟩ (only_of ex_of _ _) (by decide +kernel) (by decide +kernel) (by decide +kernel) (by decide +kernel)
  rw [minS, ex_is, Bool.true_and]
  refine Bool.eq_false_iff.2 fun h => ?_
  have := List.all_eq_true.1 h 1 (by decide)
  rw [show ([2, 4, 7] : List Int).eraseIdx 1 = [2, 7] from rfl, h1] at this
  cases this
end Go.Proofs.YtlmjncncmgmehaaGreat
namespace Go.Proofs.YtlmjncncmgmehaaGreat
open Go.RowKit Go.Maps Go.Shelf

/-- Three blocks of seven cells, of their own. -/
structure Ex4 (W w : World) (t : TypeId) (A B C : Nat) (a b c : List Value) : Prop where
  hb : Below W.heap.size W w
  ra : w.heap[A]? = some (.cells a.toArray t (0, 0))
  rb : w.heap[B]? = some (.cells b.toArray t (0, 0))
  rc : w.heap[C]? = some (.cells c.toArray t (0, 0))
  hA : W.heap.size ≤ A
  hB : W.heap.size ≤ B
  hC : W.heap.size ≤ C
  ab : A ≠ B
  ac : A ≠ C
  bc : B ≠ C
section
variable {W w : World} {t : TypeId} {A B C : Nat} {a b c : List Value}
theorem row_put {g : Nat} {l : List Value} (h : w.heap[g]? = some (.cells l.toArray t (0, 0))) (k : Nat) (x : Value) : (w.setCell ⟨g, k, none⟩ x).heap[g]? = some (.cells (l.set k x).toArray t (0, 0)) := by
  rw [heap_setCell_same w g k _ _ x h]; simp
theorem row_off {g g' : Nat} {o : Obj} (h : w.heap[g]? = some o) (hne : g ≠ g') (k : Nat) (vs : List Value) : (w.setCells g' k vs).heap[g]? = some o :=
  ((setCells_grown g' vs w k).block g (heap_lt h) fun e => hne (Option.some.inj e)).trans h
theorem Ex4.setA (h : Ex4 W w t A B C a b c) (k : Nat) (x : Value) : Ex4 W (w.setCell ⟨A, k, none⟩ x) t A B C (a.set k x) b c :=
  ⟨h.hb.grown (setCells_grown A [x] w k) h.hb.size (fun j e => by cases e; exact h.hA), row_put h.ra k x, row_off h.rb h.ab.symm k [x], row_off h.rc h.ac.symm k [x], h.hA, h.hB, h.hC, h.ab, h.ac, h.bc⟩
theorem Ex4.setB (h : Ex4 W w t A B C a b c) (k : Nat) (x : Value) : Ex4 W (w.setCell ⟨B, k, none⟩ x) t A B C a (b.set k x) c :=
  ⟨h.hb.grown (setCells_grown B [x] w k) h.hb.size (fun j e => by cases e; exact h.hB), row_off h.ra h.ab k [x], row_put h.rb k x, row_off h.rc h.bc.symm k [x], h.hA, h.hB, h.hC, h.ab, h.ac, h.bc⟩
theorem Ex4.setC (h : Ex4 W w t A B C a b c) (k : Nat) (x : Value) : Ex4 W (w.setCell ⟨C, k, none⟩ x) t A B C a b (c.set k x) :=
  ⟨h.hb.grown (setCells_grown C [x] w k) h.hb.size (fun j e => by cases e; exact h.hC), row_off h.ra h.ac k [x], row_off h.rb h.bc k [x], row_put h.rc k x, h.hA, h.hB, h.hC, h.ab, h.ac, h.bc⟩
theorem Ex4.allA (h : Ex4 W w t A B C a b c) (vs : List Value) (hl : a.length = vs.length) : Ex4 W (w.setCells A 0 vs) t A B C vs b c :=
  ⟨h.hb.grown (setCells_grown A vs w 0) h.hb.size (fun j e => by cases e; exact h.hA), heap_setCells vs [] a w h.ra hl, row_off h.rb h.ab.symm 0 vs, row_off h.rc h.ac.symm 0 vs, h.hA, h.hB, h.hC, h.ab, h.ac, h.bc⟩
theorem Ex4.allB (h : Ex4 W w t A B C a b c) (vs : List Value) (hl : b.length = vs.length) : Ex4 W (w.setCells B 0 vs) t A B C a vs c :=
  ⟨h.hb.grown (setCells_grown B vs w 0) h.hb.size (fun j e => by cases e; exact h.hB), row_off h.ra h.ab 0 vs, heap_setCells vs [] b w h.rb hl, row_off h.rc h.bc.symm 0 vs, h.hA, h.hB, h.hC, h.ab, h.ac, h.bc⟩
theorem Ex4.allC (h : Ex4 W w t A B C a b c) (vs : List Value) (hl : c.length = vs.length) : Ex4 W (w.setCells C 0 vs) t A B C a b vs :=
  ⟨h.hb.grown (setCells_grown C vs w 0) h.hb.size (fun j e => by cases e; exact h.hC), row_off h.ra h.ac 0 vs, row_off h.rb h.bc 0 vs, heap_setCells vs [] c w h.rc hl, h.hA, h.hB, h.hC, h.ab, h.ac, h.bc⟩
end
theorem slOf_blk {α : Type} {enc : α → List Value} {k : Nat} {w : World} {g n c : Nat} {t : TypeId} {xs : List α} (hk : ∀ x, (enc x).length = k) (h : w.heap[g]? = some (.cells (xs.flatMap enc).toArray t (0, 0))) (hn : n = xs.length) (h1 : n ≤ c) (h2 : c ≤ maxLen) :
    SlOf enc k w (.slice (some ⟨g, 0, none⟩) n c) xs := by
  subst hn
  refine ⟨some ⟨g, 0, none⟩, c, rfl, h1, h2, flat_len enc k hk xs, fun _ => ⟨g, 0, rfl, heap_lt h, fun j u hu => ?_⟩⟩
  rw [Nat.zero_add, heap_cell h]
  simpa using hu
theorem wpAnyS_three {P : Program} {md : Region.Mode} {ops : Array Oper} {Q : Exit → Act → World → Prop} {S : World → Prop} {n : Nat} (i j k : Nat) {o o' o'' : Oper} {f : Nat} {listed : Array Bool} {a : Act} {w : World} (hr : Region.ready md ops listed = [i, j, k]) (hi : ops[i]? = some o) (hj : ops[j]? = some o') (hk : ops[k]? = some o'') (hin : i < n) (hjn : j < n) (hkn : k < n)
    (h : ∀ K : Act → World → Prop, (∀ a' w', S w' → wpAnyS P md ops Q S n (tailOf P md ops Q n) f (listed.setIfInBounds i true) a' w' → K a' w') → if Region.wanted o (yielded ops a.tmps) = true then Oper.wp P o a w K Q else K (a.put o.dst undef) w)
    (h' : ∀ K : Act → World → Prop, (∀ a' w', S w' → wpAnyS P md ops Q S n (tailOf P md ops Q n) f (listed.setIfInBounds j true) a' w' → K a' w') → if Region.wanted o' (yielded ops a.tmps) = true then Oper.wp P o' a w K Q else K (a.put o'.dst undef) w)
    (h'' : ∀ K : Act → World → Prop, (∀ a' w', S w' → wpAnyS P md ops Q S n (tailOf P md ops Q n) f (listed.setIfInBounds k true) a' w' → K a' w') → if Region.wanted o'' (yielded ops a.tmps) = true then Oper.wp P o'' a w K Q else K (a.put o''.dst undef) w) :
    wpAnyS P md ops Q S n (tailOf P md ops Q n) (f + 1) listed a w := by
  refine ⟨by rw [hr]; simp, fun l hl => ?_⟩
  rw [hr] at hl
  simp only [List.mem_cons, List.not_mem_nil, or_false] at hl
  rcases hl with rfl | rfl | rfl
  · exact ⟨hin, wpOp_want hi (h _ fun a' w' h1 h2 => ⟨h1, h2⟩)⟩
  · exact ⟨hjn, wpOp_want hj (h' _ fun a' w' h1 h2 => ⟨h1, h2⟩)⟩
  · exact ⟨hkn, wpOp_want hk (h'' _ fun a' w' h1 h2 => ⟨h1, h2⟩)⟩
set_option maxHeartbeats 8000000 in
set_option maxRecDepth 100000 in
theorem example_ok (w : World) : Calls Tryz.prog 29 #[] w fun e w' => ∃ g, e = .returned (.slice (some ⟨g, 0, none⟩) 4 4) ∧ Specs w' (.slice (some ⟨g, 0, none⟩) 4 4) exL ∧ Below w.heap.size w w' := by
  obtain ⟨V1, W, hV1, hW, HzW, hkV, hkW, hbW, hltW⟩ := fresh w [.int .i64 0, .int .i64 0, .int .i64 0, .int .i64 0, .int .i64 0, .int .i64 0, .int .i64 0] (encS ⟨4, 1, 1, 1, 1, 0, 1⟩) 38 rfl
  have hsW : ((((((V1.setCell ⟨w.heap.size, 0, none⟩ (.int .i64 4)).setCell ⟨w.heap.size, 1, none⟩ (.int .i64 1)).setCell ⟨w.heap.size, 2, none⟩ (.int .i64 1)).setCell ⟨w.heap.size, 3, none⟩ (.int .i64 1)).setCell ⟨w.heap.size, 4, none⟩ (.int .i64 1)).setCell ⟨w.heap.size, 5, none⟩ (.int .i64 0)).setCell ⟨w.heap.size, 6, none⟩ (.int .i64 1) = W := hW
  clear hW
  obtain ⟨⟨r0, r1, r2, r3, r4, r5, r6⟩, g0, g1, g2, g3, g4, g5, g6⟩ := cellsS hkV
  have HkW := Lib.hid hkW
  clear hkV hkW
  go_enter Tryz.func29, Tryz.ntmps29
  go_wp2_with fail
  clear r0 r1 r2 r3 r4 r5 r6 g0 g1 g2 g3 g4 g5 g6
  obtain ⟨Wd, hWd⟩ : ∃ z, W.drew = z := ⟨_, rfl⟩
  have hba : Below W.heap.size W Wd := by rw [← hWd]; exact (Below.refl _ _).drew
  have hkd := heap_below HkW.out hba (heap_lt HkW.out)
  obtain ⟨D1, hD1, Hz1, hb1, hlt1, _⟩ := boxed Wd #[.int .i64 0, .int .i64 0, .int .i64 0, .int .i64 0, .int .i64 0, .int .i64 0, .int .i64 0] 38
  obtain ⟨D2, hD2, Hz2, hb2', hlt2, _⟩ := boxed D1 #[.int .i64 0, .int .i64 0, .int .i64 0, .int .i64 0, .int .i64 0, .int .i64 0, .int .i64 0] 38
  obtain ⟨D3, hD3, Hz3, hb3', hlt3, _⟩ := boxed D2 #[.int .i64 0, .int .i64 0, .int .i64 0, .int .i64 0, .int .i64 0, .int .i64 0, .int .i64 0] 38
  have hb2 := below_trans hb1 hb2'; have hb3 := below_trans hb2 hb3'
  have k1 : D1.heap[Wd.heap.size]? = some (.cells [.int .i64 0, .int .i64 0, .int .i64 0, .int .i64 0, .int .i64 0, .int .i64 0, .int .i64 0].toArray 38 (0, 0)) := by rw [← hD1]; exact heap_alloc_new _ _
  have k2 : D2.heap[D1.heap.size]? = some (.cells [.int .i64 0, .int .i64 0, .int .i64 0, .int .i64 0, .int .i64 0, .int .i64 0, .int .i64 0].toArray 38 (0, 0)) := by rw [← hD2]; exact heap_alloc_new _ _
  have k3 : D3.heap[D2.heap.size]? = some (.cells [.int .i64 0, .int .i64 0, .int .i64 0, .int .i64 0, .int .i64 0, .int .i64 0, .int .i64 0].toArray 38 (0, 0)) := by rw [← hD3]; exact heap_alloc_new _ _
  have HS : Hid (∀ w', Below W.heap.size W w' → (fun w' : World => (Below W.heap.size W w' ∧ True) ∧ w'.cell? ⟨w.heap.size, 0, none⟩ = some (.int .i64 4) ∧ w'.cell? ⟨w.heap.size, 1, none⟩ = some (.int .i64 1) ∧ w'.cell? ⟨w.heap.size, 2, none⟩ = some (.int .i64 1) ∧ w'.cell? ⟨w.heap.size, 3, none⟩ = some (.int .i64 1) ∧ w'.cell? ⟨w.heap.size, 4, none⟩ = some (.int .i64 1) ∧ w'.cell? ⟨w.heap.size, 5, none⟩ = some (.int .i64 0) ∧ w'.cell? ⟨w.heap.size, 6, none⟩ = some (.int .i64 1)) w') := Lib.hid fun w' hb => ⟨⟨hb, trivial⟩, (cellsS (heap_below HkW.out hb (heap_lt HkW.out))).1⟩
  have hHeld := HS.out Wd hba
  have q1 := hba.size; have q2 := hb1.size; have q3 := hb2'.size
  have hD := below_trans hba hb3
  have k1' := heap_below k1 (below_trans hb2' hb3') (heap_lt k1)
  have k2' := heap_below k2 hb3' (heap_lt k2)
  refine wp_region_S 8 (fun w' : World => (Below W.heap.size W w' ∧ True) ∧ w'.cell? ⟨w.heap.size, 0, none⟩ = some (.int .i64 4) ∧ w'.cell? ⟨w.heap.size, 1, none⟩ = some (.int .i64 1) ∧ w'.cell? ⟨w.heap.size, 2, none⟩ = some (.int .i64 1) ∧ w'.cell? ⟨w.heap.size, 3, none⟩ = some (.int .i64 1) ∧ w'.cell? ⟨w.heap.size, 4, none⟩ = some (.int .i64 1) ∧ w'.cell? ⟨w.heap.size, 5, none⟩ = some (.int .i64 0) ∧ w'.cell? ⟨w.heap.size, 6, none⟩ = some (.int .i64 1)) (by kernel_rfl) (by decide) ?_
  rw [hWd]
  clear hWd
  refine wpAnyS_takeD 0 (some 6) (valS ⟨4, 1, 1, 1, 1, 0, 1⟩) (by rfl) (by rfl) (by kernel_rfl) (by exact fun _ _ _ h => h) (by rfl) (fun w' hS => by (obtain ⟨_, x0, x1, x2, x3, x4, x5, x6⟩ := hS; go_simp)) hHeld ?_
  simp only [Act.put, List.setIfInBounds_toArray, List.set_cons_succ, List.set_cons_zero]
  refine wpAnyS_takeD 1 (some 7) (valS ⟨4, 1, 1, 1, 1, 0, 1⟩) (by rfl) (by rfl) (by kernel_rfl) (by exact fun _ _ _ h => h) (by rfl) (fun w' hS => by (obtain ⟨_, x0, x1, x2, x3, x4, x5, x6⟩ := hS; go_simp)) hHeld ?_
  simp only [Act.put, List.setIfInBounds_toArray, List.set_cons_succ, List.set_cons_zero]
  refine wpAnyS_takeD 2 (some 8) (valS ⟨4, 1, 1, 1, 1, 0, 1⟩) (by rfl) (by rfl) (by kernel_rfl) (by exact fun _ _ _ h => h) (by rfl) (fun w' hS => by (obtain ⟨_, x0, x1, x2, x3, x4, x5, x6⟩ := hS; go_simp)) hHeld ?_
  simp only [Act.put, List.setIfInBounds_toArray, List.set_cons_succ, List.set_cons_zero]
  clear hHeld
  refine wpAnyS_three 3 4 5 (by kernel_rfl) (by rfl) (by rfl) (by rfl) (by decide) (by decide) (by decide) (fun K hK => ?_) (fun K hK => ?_) (fun K hK => ?_)
  · have tok : True := trivial
    clear tok
    have HK := Lib.hid hK
    clear hK
    rw [if_pos (by rfl)]
    go_simp
    refine HK.out _ _ (HS.out _ (below_trans hba hb1)) ?_
    clear HK
    refine wpAnyS_two 4 5 (by kernel_rfl) (by rfl) (by rfl) (by decide) (by decide) (fun K hK => ?_) (fun K hK => ?_)
    · have tok : True := trivial
      clear tok
      have HK := Lib.hid hK
      clear hK
      rw [if_pos (by rfl)]
      go_simp
      refine HK.out _ _ (HS.out _ (below_trans hba hb2)) ?_
      clear HK
      refine wpAnyS_one 5 (by kernel_rfl) (by rfl) (by decide) (fun K hK => ?_)
      have HK := Lib.hid hK; clear hK
      rw [if_pos (by rfl)]
      go_simp
      refine HK.out _ _ (HS.out _ hD) ?_
      clear HK hD1 hD2 hD3
      have X0 : Ex4 W D3 38 (Wd.heap.size) (D1.heap.size) (D2.heap.size) [.int .i64 0, .int .i64 0, .int .i64 0, .int .i64 0, .int .i64 0, .int .i64 0, .int .i64 0] [.int .i64 0, .int .i64 0, .int .i64 0, .int .i64 0, .int .i64 0, .int .i64 0, .int .i64 0] [.int .i64 0, .int .i64 0, .int .i64 0, .int .i64 0, .int .i64 0, .int .i64 0, .int .i64 0] := ⟨hD, k1', k2', k3, by omega, by omega, by omega, by omega, by omega, by omega⟩
      obtain ⟨⟨ca0, ca1, ca2, ca3, ca4, ca5, ca6⟩, da0, da1, da2, da3, da4, da5, da6⟩ := cellsS X0.ra
      obtain ⟨E1, hE1⟩ : ∃ z, (((((((D3.setCell ⟨Wd.heap.size, 0, none⟩ (.int .i64 4)).setCell ⟨Wd.heap.size, 1, none⟩ (.int .i64 1)).setCell ⟨Wd.heap.size, 2, none⟩ (.int .i64 1)).setCell ⟨Wd.heap.size, 3, none⟩ (.int .i64 1)).setCell ⟨Wd.heap.size, 4, none⟩ (.int .i64 1)).setCell ⟨Wd.heap.size, 5, none⟩ (.int .i64 0)).setCell ⟨Wd.heap.size, 6, none⟩ (.int .i64 1)) = z := ⟨_, rfl⟩
      have X1 : Ex4 W E1 38 (Wd.heap.size) (D1.heap.size) (D2.heap.size) [.int .i64 4, .int .i64 1, .int .i64 1, .int .i64 1, .int .i64 1, .int .i64 0, .int .i64 1] [.int .i64 0, .int .i64 0, .int .i64 0, .int .i64 0, .int .i64 0, .int .i64 0, .int .i64 0] [.int .i64 0, .int .i64 0, .int .i64 0, .int .i64 0, .int .i64 0, .int .i64 0, .int .i64 0] := by rw [← hE1]; exact X0.allA [.int .i64 4, .int .i64 1, .int .i64 1, .int .i64 1, .int .i64 1, .int .i64 0, .int .i64 1] rfl
      refine wpAnyS_one 6 (by kernel_rfl) (by rfl) (by decide) (fun K hK => ?_)
      have HK := Lib.hid hK; clear hK
      rw [if_pos (by rfl)]
      go_simp
      refine HK.out _ _ (HS.out _ X1.hb) ?_
      clear HK hE1
      clear ca0 da0 ca1 da1 ca2 da2 ca3 da3 ca4 da4 ca5 da5 ca6 da6
      obtain ⟨⟨cb0, cb1, cb2, cb3, cb4, cb5, cb6⟩, db0, db1, db2, db3, db4, db5, db6⟩ := cellsS X1.rb
      obtain ⟨E2, hE2⟩ : ∃ z, (((((((E1.setCell ⟨D1.heap.size, 0, none⟩ (.int .i64 4)).setCell ⟨D1.heap.size, 1, none⟩ (.int .i64 1)).setCell ⟨D1.heap.size, 2, none⟩ (.int .i64 1)).setCell ⟨D1.heap.size, 3, none⟩ (.int .i64 1)).setCell ⟨D1.heap.size, 4, none⟩ (.int .i64 1)).setCell ⟨D1.heap.size, 5, none⟩ (.int .i64 0)).setCell ⟨D1.heap.size, 6, none⟩ (.int .i64 1)) = z := ⟨_, rfl⟩
      have X2 : Ex4 W E2 38 (Wd.heap.size) (D1.heap.size) (D2.heap.size) [.int .i64 4, .int .i64 1, .int .i64 1, .int .i64 1, .int .i64 1, .int .i64 0, .int .i64 1] [.int .i64 4, .int .i64 1, .int .i64 1, .int .i64 1, .int .i64 1, .int .i64 0, .int .i64 1] [.int .i64 0, .int .i64 0, .int .i64 0, .int .i64 0, .int .i64 0, .int .i64 0, .int .i64 0] := by rw [← hE2]; exact X1.allB [.int .i64 4, .int .i64 1, .int .i64 1, .int .i64 1, .int .i64 1, .int .i64 0, .int .i64 1] rfl
      refine wpAnyS_one 7 (by kernel_rfl) (by rfl) (by decide) (fun K hK => ?_)
      have HK := Lib.hid hK; clear hK
      rw [if_pos (by rfl)]
      go_simp
      refine HK.out _ _ (HS.out _ X2.hb) ?_
      clear HK hE2
      clear cb0 db0 cb1 db1 cb2 db2 cb3 db3 cb4 db4 cb5 db5 cb6 db6
      obtain ⟨⟨cc0, cc1, cc2, cc3, cc4, cc5, cc6⟩, dc0, dc1, dc2, dc3, dc4, dc5, dc6⟩ := cellsS X2.rc
      obtain ⟨E3, hE3⟩ : ∃ z, (((((((E2.setCell ⟨D2.heap.size, 0, none⟩ (.int .i64 4)).setCell ⟨D2.heap.size, 1, none⟩ (.int .i64 1)).setCell ⟨D2.heap.size, 2, none⟩ (.int .i64 1)).setCell ⟨D2.heap.size, 3, none⟩ (.int .i64 1)).setCell ⟨D2.heap.size, 4, none⟩ (.int .i64 1)).setCell ⟨D2.heap.size, 5, none⟩ (.int .i64 0)).setCell ⟨D2.heap.size, 6, none⟩ (.int .i64 1)) = z := ⟨_, rfl⟩
      have X3 : Ex4 W E3 38 (Wd.heap.size) (D1.heap.size) (D2.heap.size) [.int .i64 4, .int .i64 1, .int .i64 1, .int .i64 1, .int .i64 1, .int .i64 0, .int .i64 1] [.int .i64 4, .int .i64 1, .int .i64 1, .int .i64 1, .int .i64 1, .int .i64 0, .int .i64 1] [.int .i64 4, .int .i64 1, .int .i64 1, .int .i64 1, .int .i64 1, .int .i64 0, .int .i64 1] := by rw [← hE3]; exact X2.allC [.int .i64 4, .int .i64 1, .int .i64 1, .int .i64 1, .int .i64 1, .int .i64 0, .int .i64 1] rfl
      refine (show tailOf _ _ _ _ _ _ _ _ from ⟨by kernel_rfl, ?_⟩)
      simp only [List.drop_succ_cons, List.drop_zero]
      obtain ⟨⟨cs10, cs11, cs12, cs13, cs14, cs15, cs16⟩, ds10, ds11, ds12, ds13, ds14, ds15, ds16⟩ := cellsS X3.ra
      clear cs11 ds11 cs12 ds12 cs13 ds13 cs14 ds14 cs15 ds15 cs16 ds16
      obtain ⟨E4, hE4⟩ : ∃ z, E3.setCell ⟨Wd.heap.size, 0, none⟩ (.int .i64 2) = z := ⟨_, rfl⟩
      have X4 : Ex4 W E4 38 (Wd.heap.size) (D1.heap.size) (D2.heap.size) [.int .i64 2, .int .i64 1, .int .i64 1, .int .i64 1, .int .i64 1, .int .i64 0, .int .i64 1] [.int .i64 4, .int .i64 1, .int .i64 1, .int .i64 1, .int .i64 1, .int .i64 0, .int .i64 1] [.int .i64 4, .int .i64 1, .int .i64 1, .int .i64 1, .int .i64 1, .int .i64 0, .int .i64 1] := by rw [← hE4]; exact X3.setA 0 (.int .i64 2)
      obtain ⟨⟨cs20, cs21, cs22, cs23, cs24, cs25, cs26⟩, ds20, ds21, ds22, ds23, ds24, ds25, ds26⟩ := cellsS X4.ra
      clear cs20 ds20 cs21 ds21 cs23 ds23 cs24 ds24 cs25 ds25 cs26 ds26
      obtain ⟨E5, hE5⟩ : ∃ z, E4.setCell ⟨Wd.heap.size, 2, none⟩ (.int .i64 2) = z := ⟨_, rfl⟩
      have X5 : Ex4 W E5 38 (Wd.heap.size) (D1.heap.size) (D2.heap.size) [.int .i64 2, .int .i64 1, .int .i64 2, .int .i64 1, .int .i64 1, .int .i64 0, .int .i64 1] [.int .i64 4, .int .i64 1, .int .i64 1, .int .i64 1, .int .i64 1, .int .i64 0, .int .i64 1] [.int .i64 4, .int .i64 1, .int .i64 1, .int .i64 1, .int .i64 1, .int .i64 0, .int .i64 1] := by rw [← hE5]; exact X4.setA 2 (.int .i64 2)
      obtain ⟨⟨cs30, cs31, cs32, cs33, cs34, cs35, cs36⟩, ds30, ds31, ds32, ds33, ds34, ds35, ds36⟩ := cellsS X5.rb
      clear cs31 ds31 cs32 ds32 cs33 ds33 cs34 ds34 cs35 ds35 cs36 ds36
      obtain ⟨E6, hE6⟩ : ∃ z, E5.setCell ⟨D1.heap.size, 0, none⟩ (.int .i64 7) = z := ⟨_, rfl⟩
      have X6 : Ex4 W E6 38 (Wd.heap.size) (D1.heap.size) (D2.heap.size) [.int .i64 2, .int .i64 1, .int .i64 2, .int .i64 1, .int .i64 1, .int .i64 0, .int .i64 1] [.int .i64 7, .int .i64 1, .int .i64 1, .int .i64 1, .int .i64 1, .int .i64 0, .int .i64 1] [.int .i64 4, .int .i64 1, .int .i64 1, .int .i64 1, .int .i64 1, .int .i64 0, .int .i64 1] := by rw [← hE6]; exact X5.setB 0 (.int .i64 7)
      obtain ⟨⟨cs40, cs41, cs42, cs43, cs44, cs45, cs46⟩, ds40, ds41, ds42, ds43, ds44, ds45, ds46⟩ := cellsS X6.rb
      clear cs40 ds40 cs42 ds42 cs43 ds43 cs44 ds44 cs45 ds45 cs46 ds46
      obtain ⟨E7, hE7⟩ : ∃ z, E6.setCell ⟨D1.heap.size, 1, none⟩ (.int .i64 3) = z := ⟨_, rfl⟩
      have X7 : Ex4 W E7 38 (Wd.heap.size) (D1.heap.size) (D2.heap.size) [.int .i64 2, .int .i64 1, .int .i64 2, .int .i64 1, .int .i64 1, .int .i64 0, .int .i64 1] [.int .i64 7, .int .i64 3, .int .i64 1, .int .i64 1, .int .i64 1, .int .i64 0, .int .i64 1] [.int .i64 4, .int .i64 1, .int .i64 1, .int .i64 1, .int .i64 1, .int .i64 0, .int .i64 1] := by rw [← hE7]; exact X6.setB 1 (.int .i64 3)
      obtain ⟨⟨cs50, cs51, cs52, cs53, cs54, cs55, cs56⟩, ds50, ds51, ds52, ds53, ds54, ds55, ds56⟩ := cellsS X7.rb
      clear cs50 ds50 cs51 ds51 cs53 ds53 cs54 ds54 cs55 ds55 cs56 ds56
      obtain ⟨E8, hE8⟩ : ∃ z, E7.setCell ⟨D1.heap.size, 2, none⟩ (.int .i64 2) = z := ⟨_, rfl⟩
      have X8 : Ex4 W E8 38 (Wd.heap.size) (D1.heap.size) (D2.heap.size) [.int .i64 2, .int .i64 1, .int .i64 2, .int .i64 1, .int .i64 1, .int .i64 0, .int .i64 1] [.int .i64 7, .int .i64 3, .int .i64 2, .int .i64 1, .int .i64 1, .int .i64 0, .int .i64 1] [.int .i64 4, .int .i64 1, .int .i64 1, .int .i64 1, .int .i64 1, .int .i64 0, .int .i64 1] := by rw [← hE8]; exact X7.setB 2 (.int .i64 2)
      obtain ⟨⟨cs60, cs61, cs62, cs63, cs64, cs65, cs66⟩, ds60, ds61, ds62, ds63, ds64, ds65, ds66⟩ := cellsS X8.rc
      clear cs61 ds61 cs62 ds62 cs63 ds63 cs64 ds64 cs65 ds65 cs66 ds66
      obtain ⟨E9, hE9⟩ : ∃ z, E8.setCell ⟨D2.heap.size, 0, none⟩ (.int .i64 9) = z := ⟨_, rfl⟩
      have X9 : Ex4 W E9 38 (Wd.heap.size) (D1.heap.size) (D2.heap.size) [.int .i64 2, .int .i64 1, .int .i64 2, .int .i64 1, .int .i64 1, .int .i64 0, .int .i64 1] [.int .i64 7, .int .i64 3, .int .i64 2, .int .i64 1, .int .i64 1, .int .i64 0, .int .i64 1] [.int .i64 9, .int .i64 1, .int .i64 1, .int .i64 1, .int .i64 1, .int .i64 0, .int .i64 1] := by rw [← hE9]; exact X8.setC 0 (.int .i64 9)
      obtain ⟨⟨cs70, cs71, cs72, cs73, cs74, cs75, cs76⟩, ds70, ds71, ds72, ds73, ds74, ds75, ds76⟩ := cellsS X9.rc
      clear cs70 ds70 cs72 ds72 cs73 ds73 cs74 ds74 cs75 ds75 cs76 ds76
      obtain ⟨E10, hE10⟩ : ∃ z, E9.setCell ⟨D2.heap.size, 1, none⟩ (.int .i64 3) = z := ⟨_, rfl⟩
      have X10 : Ex4 W E10 38 (Wd.heap.size) (D1.heap.size) (D2.heap.size) [.int .i64 2, .int .i64 1, .int .i64 2, .int .i64 1, .int .i64 1, .int .i64 0, .int .i64 1] [.int .i64 7, .int .i64 3, .int .i64 2, .int .i64 1, .int .i64 1, .int .i64 0, .int .i64 1] [.int .i64 9, .int .i64 3, .int .i64 1, .int .i64 1, .int .i64 1, .int .i64 0, .int .i64 1] := by rw [← hE10]; exact X9.setC 1 (.int .i64 3)
      obtain ⟨⟨cu0, cu1, cu2, cu3, cu4, cu5, cu6⟩, du0, du1, du2, du3, du4, du5, du6⟩ := cellsS X10.ra
      obtain ⟨⟨cv0, cv1, cv2, cv3, cv4, cv5, cv6⟩, dv0, dv1, dv2, dv3, dv4, dv5, dv6⟩ := cellsS X10.rb
      obtain ⟨⟨cw0, cw1, cw2, cw3, cw4, cw5, cw6⟩, dw0, dw1, dw2, dw3, dw4, dw5, dw6⟩ := cellsS X10.rc
      obtain ⟨⟨x0, x1, x2, x3, x4, x5, x6⟩, _⟩ := cellsS (heap_below HkW.out X10.hb (heap_lt HkW.out))
      go_wp2_with fail
      go_ret
      have hbE := below_trans hbW X10.hb
      exact ⟨_, rfl, slOf_blk (xs := exL) lenS (heap_alloc_new _ _) rfl (by decide) (by decide), hbE.alloc hbE.size _⟩
    · have tok : True := trivial
      clear tok
      have HK := Lib.hid hK
      clear hK
      rw [if_pos (by rfl)]
      go_simp
      refine HK.out _ _ (HS.out _ (below_trans hba hb2)) ?_
      clear HK
      refine wpAnyS_one 4 (by kernel_rfl) (by rfl) (by decide) (fun K hK => ?_)
      have HK := Lib.hid hK; clear hK
      rw [if_pos (by rfl)]
      go_simp
      refine HK.out _ _ (HS.out _ hD) ?_
      clear HK hD1 hD2 hD3
      have X0 : Ex4 W D3 38 (Wd.heap.size) (D2.heap.size) (D1.heap.size) [.int .i64 0, .int .i64 0, .int .i64 0, .int .i64 0, .int .i64 0, .int .i64 0, .int .i64 0] [.int .i64 0, .int .i64 0, .int .i64 0, .int .i64 0, .int .i64 0, .int .i64 0, .int .i64 0] [.int .i64 0, .int .i64 0, .int .i64 0, .int .i64 0, .int .i64 0, .int .i64 0, .int .i64 0] := ⟨hD, k1', k3, k2', by omega, by omega, by omega, by omega, by omega, by omega⟩
      obtain ⟨⟨ca0, ca1, ca2, ca3, ca4, ca5, ca6⟩, da0, da1, da2, da3, da4, da5, da6⟩ := cellsS X0.ra
      obtain ⟨E1, hE1⟩ : ∃ z, (((((((D3.setCell ⟨Wd.heap.size, 0, none⟩ (.int .i64 4)).setCell ⟨Wd.heap.size, 1, none⟩ (.int .i64 1)).setCell ⟨Wd.heap.size, 2, none⟩ (.int .i64 1)).setCell ⟨Wd.heap.size, 3, none⟩ (.int .i64 1)).setCell ⟨Wd.heap.size, 4, none⟩ (.int .i64 1)).setCell ⟨Wd.heap.size, 5, none⟩ (.int .i64 0)).setCell ⟨Wd.heap.size, 6, none⟩ (.int .i64 1)) = z := ⟨_, rfl⟩
      have X1 : Ex4 W E1 38 (Wd.heap.size) (D2.heap.size) (D1.heap.size) [.int .i64 4, .int .i64 1, .int .i64 1, .int .i64 1, .int .i64 1, .int .i64 0, .int .i64 1] [.int .i64 0, .int .i64 0, .int .i64 0, .int .i64 0, .int .i64 0, .int .i64 0, .int .i64 0] [.int .i64 0, .int .i64 0, .int .i64 0, .int .i64 0, .int .i64 0, .int .i64 0, .int .i64 0] := by rw [← hE1]; exact X0.allA [.int .i64 4, .int .i64 1, .int .i64 1, .int .i64 1, .int .i64 1, .int .i64 0, .int .i64 1] rfl
      refine wpAnyS_one 6 (by kernel_rfl) (by rfl) (by decide) (fun K hK => ?_)
      have HK := Lib.hid hK; clear hK
      rw [if_pos (by rfl)]
      go_simp
      refine HK.out _ _ (HS.out _ X1.hb) ?_
      clear HK hE1
      clear ca0 da0 ca1 da1 ca2 da2 ca3 da3 ca4 da4 ca5 da5 ca6 da6
      obtain ⟨⟨cb0, cb1, cb2, cb3, cb4, cb5, cb6⟩, db0, db1, db2, db3, db4, db5, db6⟩ := cellsS X1.rb
      obtain ⟨E2, hE2⟩ : ∃ z, (((((((E1.setCell ⟨D2.heap.size, 0, none⟩ (.int .i64 4)).setCell ⟨D2.heap.size, 1, none⟩ (.int .i64 1)).setCell ⟨D2.heap.size, 2, none⟩ (.int .i64 1)).setCell ⟨D2.heap.size, 3, none⟩ (.int .i64 1)).setCell ⟨D2.heap.size, 4, none⟩ (.int .i64 1)).setCell ⟨D2.heap.size, 5, none⟩ (.int .i64 0)).setCell ⟨D2.heap.size, 6, none⟩ (.int .i64 1)) = z := ⟨_, rfl⟩
      have X2 : Ex4 W E2 38 (Wd.heap.size) (D2.heap.size) (D1.heap.size) [.int .i64 4, .int .i64 1, .int .i64 1, .int .i64 1, .int .i64 1, .int .i64 0, .int .i64 1] [.int .i64 4, .int .i64 1, .int .i64 1, .int .i64 1, .int .i64 1, .int .i64 0, .int .i64 1] [.int .i64 0, .int .i64 0, .int .i64 0, .int .i64 0, .int .i64 0, .int .i64 0, .int .i64 0] := by rw [← hE2]; exact X1.allB [.int .i64 4, .int .i64 1, .int .i64 1, .int .i64 1, .int .i64 1, .int .i64 0, .int .i64 1] rfl
      refine wpAnyS_one 7 (by kernel_rfl) (by rfl) (by decide) (fun K hK => ?_)
      have HK := Lib.hid hK; clear hK
      rw [if_pos (by rfl)]
      go_simp
      refine HK.out _ _ (HS.out _ X2.hb) ?_
      clear HK hE2
      clear cb0 db0 cb1 db1 cb2 db2 cb3 db3 cb4 db4 cb5 db5 cb6 db6
      obtain ⟨⟨cc0, cc1, cc2, cc3, cc4, cc5, cc6⟩, dc0, dc1, dc2, dc3, dc4, dc5, dc6⟩ := cellsS X2.rc
      obtain ⟨E3, hE3⟩ : ∃ z, (((((((E2.setCell ⟨D1.heap.size, 0, none⟩ (.int .i64 4)).setCell ⟨D1.heap.size, 1, none⟩ (.int .i64 1)).setCell ⟨D1.heap.size, 2, none⟩ (.int .i64 1)).setCell ⟨D1.heap.size, 3, none⟩ (.int .i64 1)).setCell ⟨D1.heap.size, 4, none⟩ (.int .i64 1)).setCell ⟨D1.heap.size, 5, none⟩ (.int .i64 0)).setCell ⟨D1.heap.size, 6, none⟩ (.int .i64 1)) = z := ⟨_, rfl⟩
      have X3 : Ex4 W E3 38 (Wd.heap.size) (D2.heap.size) (D1.heap.size) [.int .i64 4, .int .i64 1, .int .i64 1, .int .i64 1, .int .i64 1, .int .i64 0, .int .i64 1] [.int .i64 4, .int .i64 1, .int .i64 1, .int .i64 1, .int .i64 1, .int .i64 0, .int .i64 1] [.int .i64 4, .int .i64 1, .int .i64 1, .int .i64 1, .int .i64 1, .int .i64 0, .int .i64 1] := by rw [← hE3]; exact X2.allC [.int .i64 4, .int .i64 1, .int .i64 1, .int .i64 1, .int .i64 1, .int .i64 0, .int .i64 1] rfl
      refine (show tailOf _ _ _ _ _ _ _ _ from ⟨by kernel_rfl, ?_⟩)
      simp only [List.drop_succ_cons, List.drop_zero]
      obtain ⟨⟨cs10, cs11, cs12, cs13, cs14, cs15, cs16⟩, ds10, ds11, ds12, ds13, ds14, ds15, ds16⟩ := cellsS X3.ra
      clear cs11 ds11 cs12 ds12 cs13 ds13 cs14 ds14 cs15 ds15 cs16 ds16
      obtain ⟨E4, hE4⟩ : ∃ z, E3.setCell ⟨Wd.heap.size, 0, none⟩ (.int .i64 2) = z := ⟨_, rfl⟩
      have X4 : Ex4 W E4 38 (Wd.heap.size) (D2.heap.size) (D1.heap.size) [.int .i64 2, .int .i64 1, .int .i64 1, .int .i64 1, .int .i64 1, .int .i64 0, .int .i64 1] [.int .i64 4, .int .i64 1, .int .i64 1, .int .i64 1, .int .i64 1, .int .i64 0, .int .i64 1] [.int .i64 4, .int .i64 1, .int .i64 1, .int .i64 1, .int .i64 1, .int .i64 0, .int .i64 1] := by rw [← hE4]; exact X3.setA 0 (.int .i64 2)
      obtain ⟨⟨cs20, cs21, cs22, cs23, cs24, cs25, cs26⟩, ds20, ds21, ds22, ds23, ds24, ds25, ds26⟩ := cellsS X4.ra
      clear cs20 ds20 cs21 ds21 cs23 ds23 cs24 ds24 cs25 ds25 cs26 ds26
      obtain ⟨E5, hE5⟩ : ∃ z, E4.setCell ⟨Wd.heap.size, 2, none⟩ (.int .i64 2) = z := ⟨_, rfl⟩
      have X5 : Ex4 W E5 38 (Wd.heap.size) (D2.heap.size) (D1.heap.size) [.int .i64 2, .int .i64 1, .int .i64 2, .int .i64 1, .int .i64 1, .int .i64 0, .int .i64 1] [.int .i64 4, .int .i64 1, .int .i64 1, .int .i64 1, .int .i64 1, .int .i64 0, .int .i64 1] [.int .i64 4, .int .i64 1, .int .i64 1, .int .i64 1, .int .i64 1, .int .i64 0, .int .i64 1] := by rw [← hE5]; exact X4.setA 2 (.int .i64 2)
      obtain ⟨⟨cs30, cs31, cs32, cs33, cs34, cs35, cs36⟩, ds30, ds31, ds32, ds33, ds34, ds35, ds36⟩ := cellsS X5.rb
      clear cs31 ds31 cs32 ds32 cs33 ds33 cs34 ds34 cs35 ds35 cs36 ds36
      obtain ⟨E6, hE6⟩ : ∃ z, E5.setCell ⟨D2.heap.size, 0, none⟩ (.int .i64 7) = z := ⟨_, rfl⟩
      have X6 : Ex4 W E6 38 (Wd.heap.size) (D2.heap.size) (D1.heap.size) [.int .i64 2, .int .i64 1, .int .i64 2, .int .i64 1, .int .i64 1, .int .i64 0, .int .i64 1] [.int .i64 7, .int .i64 1, .int .i64 1, .int .i64 1, .int .i64 1, .int .i64 0, .int .i64 1] [.int .i64 4, .int .i64 1, .int .i64 1, .int .i64 1, .int .i64 1, .int .i64 0, .int .i64 1] := by rw [← hE6]; exact X5.setB 0 (.int .i64 7)
      obtain ⟨⟨cs40, cs41, cs42, cs43, cs44, cs45, cs46⟩, ds40, ds41, ds42, ds43, ds44, ds45, ds46⟩ := cellsS X6.rb
      clear cs40 ds40 cs42 ds42 cs43 ds43 cs44 ds44 cs45 ds45 cs46 ds46
      obtain ⟨E7, hE7⟩ : ∃ z, E6.setCell ⟨D2.heap.size, 1, none⟩ (.int .i64 3) = z := ⟨_, rfl⟩
      have X7 : Ex4 W E7 38 (Wd.heap.size) (D2.heap.size) (D1.heap.size) [.int .i64 2, .int .i64 1, .int .i64 2, .int .i64 1, .int .i64 1, .int .i64 0, .int .i64 1] [.int .i64 7, .int .i64 3, .int .i64 1, .int .i64 1, .int .i64 1, .int .i64 0, .int .i64 1] [.int .i64 4, .int .i64 1, .int .i64 1, .int .i64 1, .int .i64 1, .int .i64 0, .int .i64 1] := by rw [← hE7]; exact X6.setB 1 (.int .i64 3)
      obtain ⟨⟨cs50, cs51, cs52, cs53, cs54, cs55, cs56⟩, ds50, ds51, ds52, ds53, ds54, ds55, ds56⟩ := cellsS X7.rb
      clear cs50 ds50 cs51 ds51 cs53 ds53 cs54 ds54 cs55 ds55 cs56 ds56
      obtain ⟨E8, hE8⟩ : ∃ z, E7.setCell ⟨D2.heap.size, 2, none⟩ (.int .i64 2) = z := ⟨_, rfl⟩
      have X8 : Ex4 W E8 38 (Wd.heap.size) (D2.heap.size) (D1.heap.size) [.int .i64 2, .int .i64 1, .int .i64 2, .int .i64 1, .int .i64 1, .int .i64 0, .int .i64 1] [.int .i64 7, .int .i64 3, .int .i64 2, .int .i64 1, .int .i64 1, .int .i64 0, .int .i64 1] [.int .i64 4, .int .i64 1, .int .i64 1, .int .i64 1, .int .i64 1, .int .i64 0, .int .i64 1] := by rw [← hE8]; exact X7.setB 2 (.int .i64 2)
      obtain ⟨⟨cs60, cs61, cs62, cs63, cs64, cs65, cs66⟩, ds60, ds61, ds62, ds63, ds64, ds65, ds66⟩ := cellsS X8.rc
      clear cs61 ds61 cs62 ds62 cs63 ds63 cs64 ds64 cs65 ds65 cs66 ds66
      obtain ⟨E9, hE9⟩ : ∃ z, E8.setCell ⟨D1.heap.size, 0, none⟩ (.int .i64 9) = z := ⟨_, rfl⟩
      have X9 : Ex4 W E9 38 (Wd.heap.size) (D2.heap.size) (D1.heap.size) [.int .i64 2, .int .i64 1, .int .i64 2, .int .i64 1, .int .i64 1, .int .i64 0, .int .i64 1] [.int .i64 7, .int .i64 3, .int .i64 2, .int .i64 1, .int .i64 1, .int .i64 0, .int .i64 1] [.int .i64 9, .int .i64 1, .int .i64 1, .int .i64 1, .int .i64 1, .int .i64 0, .int .i64 1] := by rw [← hE9]; exact X8.setC 0 (.int .i64 9)
      obtain ⟨⟨cs70, cs71, cs72, cs73, cs74, cs75, cs76⟩, ds70, ds71, ds72, ds73, ds74, ds75, ds76⟩ := cellsS X9.rc
      clear cs70 ds70 cs72 ds72 cs73 ds73 cs74 ds74 cs75 ds75 cs76 ds76
      obtain ⟨E10, hE10⟩ : ∃ z, E9.setCell ⟨D1.heap.size, 1, none⟩ (.int .i64 3) = z := ⟨_, rfl⟩
      have X10 : Ex4 W E10 38 (Wd.heap.size) (D2.heap.size) (D1.heap.size) [.int .i64 2, .int .i64 1, .int .i64 2, .int .i64 1, .int .i64 1, .int .i64 0, .int .i64 1] [.int .i64 7, .int .i64 3, .int .i64 2, .int .i64 1, .int .i64 1, .int .i64 0, .int .i64 1] [.int .i64 9, .int .i64 3, .int .i64 1, .int .i64 1, .int .i64 1, .int .i64 0, .int .i64 1] := by rw [← hE10]; exact X9.setC 1 (.int .i64 3)
      obtain ⟨⟨cu0, cu1, cu2, cu3, cu4, cu5, cu6⟩, du0, du1, du2, du3, du4, du5, du6⟩ := cellsS X10.ra
      obtain ⟨⟨cv0, cv1, cv2, cv3, cv4, cv5, cv6⟩, dv0, dv1, dv2, dv3, dv4, dv5, dv6⟩ := cellsS X10.rb
      obtain ⟨⟨cw0, cw1, cw2, cw3, cw4, cw5, cw6⟩, dw0, dw1, dw2, dw3, dw4, dw5, dw6⟩ := cellsS X10.rc
      obtain ⟨⟨x0, x1, x2, x3, x4, x5, x6⟩, _⟩ := cellsS (heap_below HkW.out X10.hb (heap_lt HkW.out))
      go_wp2_with fail
      go_ret
      have hbE := below_trans hbW X10.hb
      exact ⟨_, rfl, slOf_blk (xs := exL) lenS (heap_alloc_new _ _) rfl (by decide) (by decide), hbE.alloc hbE.size _⟩
  · have tok : True := trivial
    clear tok
    have HK := Lib.hid hK
    clear hK
    rw [if_pos (by rfl)]
    go_simp
    refine HK.out _ _ (HS.out _ (below_trans hba hb1)) ?_
    clear HK
    refine wpAnyS_two 3 5 (by kernel_rfl) (by rfl) (by rfl) (by decide) (by decide) (fun K hK => ?_) (fun K hK => ?_)
    · have tok : True := trivial
      clear tok
      have HK := Lib.hid hK
      clear hK
      rw [if_pos (by rfl)]
      go_simp
      refine HK.out _ _ (HS.out _ (below_trans hba hb2)) ?_
      clear HK
      refine wpAnyS_one 5 (by kernel_rfl) (by rfl) (by decide) (fun K hK => ?_)
      have HK := Lib.hid hK; clear hK
      rw [if_pos (by rfl)]
      go_simp
      refine HK.out _ _ (HS.out _ hD) ?_
      clear HK hD1 hD2 hD3
      have X0 : Ex4 W D3 38 (D1.heap.size) (Wd.heap.size) (D2.heap.size) [.int .i64 0, .int .i64 0, .int .i64 0, .int .i64 0, .int .i64 0, .int .i64 0, .int .i64 0] [.int .i64 0, .int .i64 0, .int .i64 0, .int .i64 0, .int .i64 0, .int .i64 0, .int .i64 0] [.int .i64 0, .int .i64 0, .int .i64 0, .int .i64 0, .int .i64 0, .int .i64 0, .int .i64 0] := ⟨hD, k2', k1', k3, by omega, by omega, by omega, by omega, by omega, by omega⟩
      obtain ⟨⟨ca0, ca1, ca2, ca3, ca4, ca5, ca6⟩, da0, da1, da2, da3, da4, da5, da6⟩ := cellsS X0.ra
      obtain ⟨E1, hE1⟩ : ∃ z, (((((((D3.setCell ⟨D1.heap.size, 0, none⟩ (.int .i64 4)).setCell ⟨D1.heap.size, 1, none⟩ (.int .i64 1)).setCell ⟨D1.heap.size, 2, none⟩ (.int .i64 1)).setCell ⟨D1.heap.size, 3, none⟩ (.int .i64 1)).setCell ⟨D1.heap.size, 4, none⟩ (.int .i64 1)).setCell ⟨D1.heap.size, 5, none⟩ (.int .i64 0)).setCell ⟨D1.heap.size, 6, none⟩ (.int .i64 1)) = z := ⟨_, rfl⟩
      have X1 : Ex4 W E1 38 (D1.heap.size) (Wd.heap.size) (D2.heap.size) [.int .i64 4, .int .i64 1, .int .i64 1, .int .i64 1, .int .i64 1, .int .i64 0, .int .i64 1] [.int .i64 0, .int .i64 0, .int .i64 0, .int .i64 0, .int .i64 0, .int .i64 0, .int .i64 0] [.int .i64 0, .int .i64 0, .int .i64 0, .int .i64 0, .int .i64 0, .int .i64 0, .int .i64 0] := by rw [← hE1]; exact X0.allA [.int .i64 4, .int .i64 1, .int .i64 1, .int .i64 1, .int .i64 1, .int .i64 0, .int .i64 1] rfl
      refine wpAnyS_one 6 (by kernel_rfl) (by rfl) (by decide) (fun K hK => ?_)
      have HK := Lib.hid hK; clear hK
      rw [if_pos (by rfl)]
      go_simp
      refine HK.out _ _ (HS.out _ X1.hb) ?_
      clear HK hE1
      clear ca0 da0 ca1 da1 ca2 da2 ca3 da3 ca4 da4 ca5 da5 ca6 da6
      obtain ⟨⟨cb0, cb1, cb2, cb3, cb4, cb5, cb6⟩, db0, db1, db2, db3, db4, db5, db6⟩ := cellsS X1.rb
      obtain ⟨E2, hE2⟩ : ∃ z, (((((((E1.setCell ⟨Wd.heap.size, 0, none⟩ (.int .i64 4)).setCell ⟨Wd.heap.size, 1, none⟩ (.int .i64 1)).setCell ⟨Wd.heap.size, 2, none⟩ (.int .i64 1)).setCell ⟨Wd.heap.size, 3, none⟩ (.int .i64 1)).setCell ⟨Wd.heap.size, 4, none⟩ (.int .i64 1)).setCell ⟨Wd.heap.size, 5, none⟩ (.int .i64 0)).setCell ⟨Wd.heap.size, 6, none⟩ (.int .i64 1)) = z := ⟨_, rfl⟩
      have X2 : Ex4 W E2 38 (D1.heap.size) (Wd.heap.size) (D2.heap.size) [.int .i64 4, .int .i64 1, .int .i64 1, .int .i64 1, .int .i64 1, .int .i64 0, .int .i64 1] [.int .i64 4, .int .i64 1, .int .i64 1, .int .i64 1, .int .i64 1, .int .i64 0, .int .i64 1] [.int .i64 0, .int .i64 0, .int .i64 0, .int .i64 0, .int .i64 0, .int .i64 0, .int .i64 0] := by rw [← hE2]; exact X1.allB [.int .i64 4, .int .i64 1, .int .i64 1, .int .i64 1, .int .i64 1, .int .i64 0, .int .i64 1] rfl
      refine wpAnyS_one 7 (by kernel_rfl) (by rfl) (by decide) (fun K hK => ?_)
      have HK := Lib.hid hK; clear hK
      rw [if_pos (by rfl)]
      go_simp
      refine HK.out _ _ (HS.out _ X2.hb) ?_
      clear HK hE2
      clear cb0 db0 cb1 db1 cb2 db2 cb3 db3 cb4 db4 cb5 db5 cb6 db6
      obtain ⟨⟨cc0, cc1, cc2, cc3, cc4, cc5, cc6⟩, dc0, dc1, dc2, dc3, dc4, dc5, dc6⟩ := cellsS X2.rc
      obtain ⟨E3, hE3⟩ : ∃ z, (((((((E2.setCell ⟨D2.heap.size, 0, none⟩ (.int .i64 4)).setCell ⟨D2.heap.size, 1, none⟩ (.int .i64 1)).setCell ⟨D2.heap.size, 2, none⟩ (.int .i64 1)).setCell ⟨D2.heap.size, 3, none⟩ (.int .i64 1)).setCell ⟨D2.heap.size, 4, none⟩ (.int .i64 1)).setCell ⟨D2.heap.size, 5, none⟩ (.int .i64 0)).setCell ⟨D2.heap.size, 6, none⟩ (.int .i64 1)) = z := ⟨_, rfl⟩
      have X3 : Ex4 W E3 38 (D1.heap.size) (Wd.heap.size) (D2.heap.size) [.int .i64 4, .int .i64 1, .int .i64 1, .int .i64 1, .int .i64 1, .int .i64 0, .int .i64 1] [.int .i64 4, .int .i64 1, .int .i64 1, .int .i64 1, .int .i64 1, .int .i64 0, .int .i64 1] [.int .i64 4, .int .i64 1, .int .i64 1, .int .i64 1, .int .i64 1, .int .i64 0, .int .i64 1] := by rw [← hE3]; exact X2.allC [.int .i64 4, .int .i64 1, .int .i64 1, .int .i64 1, .int .i64 1, .int .i64 0, .int .i64 1] rfl
      refine (show tailOf _ _ _ _ _ _ _ _ from ⟨by kernel_rfl, ?_⟩)
      simp only [List.drop_succ_cons, List.drop_zero]
      obtain ⟨⟨cs10, cs11, cs12, cs13, cs14, cs15, cs16⟩, ds10, ds11, ds12, ds13, ds14, ds15, ds16⟩ := cellsS X3.ra
      clear cs11 ds11 cs12 ds12 cs13 ds13 cs14 ds14 cs15 ds15 cs16 ds16
      obtain ⟨E4, hE4⟩ : ∃ z, E3.setCell ⟨D1.heap.size, 0, none⟩ (.int .i64 2) = z := ⟨_, rfl⟩
      have X4 : Ex4 W E4 38 (D1.heap.size) (Wd.heap.size) (D2.heap.size) [.int .i64 2, .int .i64 1, .int .i64 1, .int .i64 1, .int .i64 1, .int .i64 0, .int .i64 1] [.int .i64 4, .int .i64 1, .int .i64 1, .int .i64 1, .int .i64 1, .int .i64 0, .int .i64 1] [.int .i64 4, .int .i64 1, .int .i64 1, .int .i64 1, .int .i64 1, .int .i64 0, .int .i64 1] := by rw [← hE4]; exact X3.setA 0 (.int .i64 2)
      obtain ⟨⟨cs20, cs21, cs22, cs23, cs24, cs25, cs26⟩, ds20, ds21, ds22, ds23, ds24, ds25, ds26⟩ := cellsS X4.ra
      clear cs20 ds20 cs21 ds21 cs23 ds23 cs24 ds24 cs25 ds25 cs26 ds26
      obtain ⟨E5, hE5⟩ : ∃ z, E4.setCell ⟨D1.heap.size, 2, none⟩ (.int .i64 2) = z := ⟨_, rfl⟩
      have X5 : Ex4 W E5 38 (D1.heap.size) (Wd.heap.size) (D2.heap.size) [.int .i64 2, .int .i64 1, .int .i64 2, .int .i64 1, .int .i64 1, .int .i64 0, .int .i64 1] [.int .i64 4, .int .i64 1, .int .i64 1, .int .i64 1, .int .i64 1, .int .i64 0, .int .i64 1] [.int .i64 4, .int .i64 1, .int .i64 1, .int .i64 1, .int .i64 1, .int .i64 0, .int .i64 1] := by rw [← hE5]; exact X4.setA 2 (.int .i64 2)
      obtain ⟨⟨cs30, cs31, cs32, cs33, cs34, cs35, cs36⟩, ds30, ds31, ds32, ds33, ds34, ds35, ds36⟩ := cellsS X5.rb
      clear cs31 ds31 cs32 ds32 cs33 ds33 cs34 ds34 cs35 ds35 cs36 ds36
      obtain ⟨E6, hE6⟩ : ∃ z, E5.setCell ⟨Wd.heap.size, 0, none⟩ (.int .i64 7) = z := ⟨_, rfl⟩
      have X6 : Ex4 W E6 38 (D1.heap.size) (Wd.heap.size) (D2.heap.size) [.int .i64 2, .int .i64 1, .int .i64 2, .int .i64 1, .int .i64 1, .int .i64 0, .int .i64 1] [.int .i64 7, .int .i64 1, .int .i64 1, .int .i64 1, .int .i64 1, .int .i64 0, .int .i64 1] [.int .i64 4, .int .i64 1, .int .i64 1, .int .i64 1, .int .i64 1, .int .i64 0, .int .i64 1] := by rw [← hE6]; exact X5.setB 0 (.int .i64 7)
      obtain ⟨⟨cs40, cs41, cs42, cs43, cs44, cs45, cs46⟩, ds40, ds41, ds42, ds43, ds44, ds45, ds46⟩ := cellsS X6.rb
      clear cs40 ds40 cs42 ds42 cs43 ds43 cs44 ds44 cs45 ds45 cs46 ds46
      obtain ⟨E7, hE7⟩ : ∃ z, E6.setCell ⟨Wd.heap.size, 1, none⟩ (.int .i64 3) = z := ⟨_, rfl⟩
      have X7 : Ex4 W E7 38 (D1.heap.size) (Wd.heap.size) (D2.heap.size) [.int .i64 2, .int .i64 1, .int .i64 2, .int .i64 1, .int .i64 1, .int .i64 0, .int .i64 1] [.int .i64 7, .int .i64 3, .int .i64 1, .int .i64 1, .int .i64 1, .int .i64 0, .int .i64 1] [.int .i64 4, .int .i64 1, .int .i64 1, .int .i64 1, .int .i64 1, .int .i64 0, .int .i64 1] := by rw [← hE7]; exact X6.setB 1 (.int .i64 3)
      obtain ⟨⟨cs50, cs51, cs52, cs53, cs54, cs55, cs56⟩, ds50, ds51, ds52, ds53, ds54, ds55, ds56⟩ := cellsS X7.rb
      clear cs50 ds50 cs51 ds51 cs53 ds53 cs54 ds54 cs55 ds55 cs56 ds56
      obtain ⟨E8, hE8⟩ : ∃ z, E7.setCell ⟨Wd.heap.size, 2, none⟩ (.int .i64 2) = z := ⟨_, rfl⟩
      have X8 : Ex4 W E8 38 (D1.heap.size) (Wd.heap.size) (D2.heap.size) [.int .i64 2, .int .i64 1, .int .i64 2, .int .i64 1, .int .i64 1, .int .i64 0, .int .i64 1] [.int .i64 7, .int .i64 3, .int .i64 2, .int .i64 1, .int .i64 1, .int .i64 0, .int .i64 1] [.int .i64 4, .int .i64 1, .int .i64 1, .int .i64 1, .int .i64 1, .int .i64 0, .int .i64 1] := by rw [← hE8]; exact X7.setB 2 (.int .i64 2)
      obtain ⟨⟨cs60, cs61, cs62, cs63, cs64, cs65, cs66⟩, ds60, ds61, ds62, ds63, ds64, ds65, ds66⟩ := cellsS X8.rc
      clear cs61 ds61 cs62 ds62 cs63 ds63 cs64 ds64 cs65 ds65 cs66 ds66
      obtain ⟨E9, hE9⟩ : ∃ z, E8.setCell ⟨D2.heap.size, 0, none⟩ (.int .i64 9) = z := ⟨_, rfl⟩
      have X9 : Ex4 W E9 38 (D1.heap.size) (Wd.heap.size) (D2.heap.size) [.int .i64 2, .int .i64 1, .int .i64 2, .int .i64 1, .int .i64 1, .int .i64 0, .int .i64 1] [.int .i64 7, .int .i64 3, .int .i64 2, .int .i64 1, .int .i64 1, .int .i64 0, .int .i64 1] [.int .i64 9, .int .i64 1, .int .i64 1, .int .i64 1, .int .i64 1, .int .i64 0, .int .i64 1] := by rw [← hE9]; exact X8.setC 0 (.int .i64 9)
      obtain ⟨⟨cs70, cs71, cs72, cs73, cs74, cs75, cs76⟩, ds70, ds71, ds72, ds73, ds74, ds75, ds76⟩ := cellsS X9.rc
      clear cs70 ds70 cs72 ds72 cs73 ds73 cs74 ds74 cs75 ds75 cs76 ds76
      obtain ⟨E10, hE10⟩ : ∃ z, E9.setCell ⟨D2.heap.size, 1, none⟩ (.int .i64 3) = z := ⟨_, rfl⟩
      have X10 : Ex4 W E10 38 (D1.heap.size) (Wd.heap.size) (D2.heap.size) [.int .i64 2, .int .i64 1, .int .i64 2, .int .i64 1, .int .i64 1, .int .i64 0, .int .i64 1] [.int .i64 7, .int .i64 3, .int .i64 2, .int .i64 1, .int .i64 1, .int .i64 0, .int .i64 1] [.int .i64 9, .int .i64 3, .int .i64 1, .int .i64 1, .int .i64 1, .int .i64 0, .int .i64 1] := by rw [← hE10]; exact X9.setC 1 (.int .i64 3)
      obtain ⟨⟨cu0, cu1, cu2, cu3, cu4, cu5, cu6⟩, du0, du1, du2, du3, du4, du5, du6⟩ := cellsS X10.ra
      obtain ⟨⟨cv0, cv1, cv2, cv3, cv4, cv5, cv6⟩, dv0, dv1, dv2, dv3, dv4, dv5, dv6⟩ := cellsS X10.rb
      obtain ⟨⟨cw0, cw1, cw2, cw3, cw4, cw5, cw6⟩, dw0, dw1, dw2, dw3, dw4, dw5, dw6⟩ := cellsS X10.rc
      obtain ⟨⟨x0, x1, x2, x3, x4, x5, x6⟩, _⟩ := cellsS (heap_below HkW.out X10.hb (heap_lt HkW.out))
      go_wp2_with fail
      go_ret
      have hbE := below_trans hbW X10.hb
      exact ⟨_, rfl, slOf_blk (xs := exL) lenS (heap_alloc_new _ _) rfl (by decide) (by decide), hbE.alloc hbE.size _⟩
    · have tok : True := trivial
      clear tok
      have HK := Lib.hid hK
      clear hK
      rw [if_pos (by rfl)]
      go_simp
      refine HK.out _ _ (HS.out _ (below_trans hba hb2)) ?_
      clear HK
      refine wpAnyS_one 3 (by kernel_rfl) (by rfl) (by decide) (fun K hK => ?_)
      have HK := Lib.hid hK; clear hK
      rw [if_pos (by rfl)]
      go_simp
      refine HK.out _ _ (HS.out _ hD) ?_
      clear HK hD1 hD2 hD3
      have X0 : Ex4 W D3 38 (D2.heap.size) (Wd.heap.size) (D1.heap.size) [.int .i64 0, .int .i64 0, .int .i64 0, .int .i64 0, .int .i64 0, .int .i64 0, .int .i64 0] [.int .i64 0, .int .i64 0, .int .i64 0, .int .i64 0, .int .i64 0, .int .i64 0, .int .i64 0] [.int .i64 0, .int .i64 0, .int .i64 0, .int .i64 0, .int .i64 0, .int .i64 0, .int .i64 0] := ⟨hD, k3, k1', k2', by omega, by omega, by omega, by omega, by omega, by omega⟩
      obtain ⟨⟨ca0, ca1, ca2, ca3, ca4, ca5, ca6⟩, da0, da1, da2, da3, da4, da5, da6⟩ := cellsS X0.ra
      obtain ⟨E1, hE1⟩ : ∃ z, (((((((D3.setCell ⟨D2.heap.size, 0, none⟩ (.int .i64 4)).setCell ⟨D2.heap.size, 1, none⟩ (.int .i64 1)).setCell ⟨D2.heap.size, 2, none⟩ (.int .i64 1)).setCell ⟨D2.heap.size, 3, none⟩ (.int .i64 1)).setCell ⟨D2.heap.size, 4, none⟩ (.int .i64 1)).setCell ⟨D2.heap.size, 5, none⟩ (.int .i64 0)).setCell ⟨D2.heap.size, 6, none⟩ (.int .i64 1)) = z := ⟨_, rfl⟩
      have X1 : Ex4 W E1 38 (D2.heap.size) (Wd.heap.size) (D1.heap.size) [.int .i64 4, .int .i64 1, .int .i64 1, .int .i64 1, .int .i64 1, .int .i64 0, .int .i64 1] [.int .i64 0, .int .i64 0, .int .i64 0, .int .i64 0, .int .i64 0, .int .i64 0, .int .i64 0] [.int .i64 0, .int .i64 0, .int .i64 0, .int .i64 0, .int .i64 0, .int .i64 0, .int .i64 0] := by rw [← hE1]; exact X0.allA [.int .i64 4, .int .i64 1, .int .i64 1, .int .i64 1, .int .i64 1, .int .i64 0, .int .i64 1] rfl
      refine wpAnyS_one 6 (by kernel_rfl) (by rfl) (by decide) (fun K hK => ?_)
      have HK := Lib.hid hK; clear hK
      rw [if_pos (by rfl)]
      go_simp
      refine HK.out _ _ (HS.out _ X1.hb) ?_
      clear HK hE1
      clear ca0 da0 ca1 da1 ca2 da2 ca3 da3 ca4 da4 ca5 da5 ca6 da6
      obtain ⟨⟨cb0, cb1, cb2, cb3, cb4, cb5, cb6⟩, db0, db1, db2, db3, db4, db5, db6⟩ := cellsS X1.rb
      obtain ⟨E2, hE2⟩ : ∃ z, (((((((E1.setCell ⟨Wd.heap.size, 0, none⟩ (.int .i64 4)).setCell ⟨Wd.heap.size, 1, none⟩ (.int .i64 1)).setCell ⟨Wd.heap.size, 2, none⟩ (.int .i64 1)).setCell ⟨Wd.heap.size, 3, none⟩ (.int .i64 1)).setCell ⟨Wd.heap.size, 4, none⟩ (.int .i64 1)).setCell ⟨Wd.heap.size, 5, none⟩ (.int .i64 0)).setCell ⟨Wd.heap.size, 6, none⟩ (.int .i64 1)) = z := ⟨_, rfl⟩
      have X2 : Ex4 W E2 38 (D2.heap.size) (Wd.heap.size) (D1.heap.size) [.int .i64 4, .int .i64 1, .int .i64 1, .int .i64 1, .int .i64 1, .int .i64 0, .int .i64 1] [.int .i64 4, .int .i64 1, .int .i64 1, .int .i64 1, .int .i64 1, .int .i64 0, .int .i64 1] [.int .i64 0, .int .i64 0, .int .i64 0, .int .i64 0, .int .i64 0, .int .i64 0, .int .i64 0] := by rw [← hE2]; exact X1.allB [.int .i64 4, .int .i64 1, .int .i64 1, .int .i64 1, .int .i64 1, .int .i64 0, .int .i64 1] rfl
      refine wpAnyS_one 7 (by kernel_rfl) (by rfl) (by decide) (fun K hK => ?_)
      have HK := Lib.hid hK; clear hK
      rw [if_pos (by rfl)]
      go_simp
      refine HK.out _ _ (HS.out _ X2.hb) ?_
      clear HK hE2
      clear cb0 db0 cb1 db1 cb2 db2 cb3 db3 cb4 db4 cb5 db5 cb6 db6
      obtain ⟨⟨cc0, cc1, cc2, cc3, cc4, cc5, cc6⟩, dc0, dc1, dc2, dc3, dc4, dc5, dc6⟩ := cellsS X2.rc
      obtain ⟨E3, hE3⟩ : ∃ z, (((((((E2.setCell ⟨D1.heap.size, 0, none⟩ (.int .i64 4)).setCell ⟨D1.heap.size, 1, none⟩ (.int .i64 1)).setCell ⟨D1.heap.size, 2, none⟩ (.int .i64 1)).setCell ⟨D1.heap.size, 3, none⟩ (.int .i64 1)).setCell ⟨D1.heap.size, 4, none⟩ (.int .i64 1)).setCell ⟨D1.heap.size, 5, none⟩ (.int .i64 0)).setCell ⟨D1.heap.size, 6, none⟩ (.int .i64 1)) = z := ⟨_, rfl⟩
      have X3 : Ex4 W E3 38 (D2.heap.size) (Wd.heap.size) (D1.heap.size) [.int .i64 4, .int .i64 1, .int .i64 1, .int .i64 1, .int .i64 1, .int .i64 0, .int .i64 1] [.int .i64 4, .int .i64 1, .int .i64 1, .int .i64 1, .int .i64 1, .int .i64 0, .int .i64 1] [.int .i64 4, .int .i64 1, .int .i64 1, .int .i64 1, .int .i64 1, .int .i64 0, .int .i64 1] := by rw [← hE3]; exact X2.allC [.int .i64 4, .int .i64 1, .int .i64 1, .int .i64 1, .int .i64 1, .int .i64 0, .int .i64 1] rfl
      refine (show tailOf _ _ _ _ _ _ _ _ from ⟨by kernel_rfl, ?_⟩)
      simp only [List.drop_succ_cons, List.drop_zero]
      obtain ⟨⟨cs10, cs11, cs12, cs13, cs14, cs15, cs16⟩, ds10, ds11, ds12, ds13, ds14, ds15, ds16⟩ := cellsS X3.ra
      clear cs11 ds11 cs12 ds12 cs13 ds13 cs14 ds14 cs15 ds15 cs16 ds16
      obtain ⟨E4, hE4⟩ : ∃ z, E3.setCell ⟨D2.heap.size, 0, none⟩ (.int .i64 2) = z := ⟨_, rfl⟩
      have X4 : Ex4 W E4 38 (D2.heap.size) (Wd.heap.size) (D1.heap.size) [.int .i64 2, .int .i64 1, .int .i64 1, .int .i64 1, .int .i64 1, .int .i64 0, .int .i64 1] [.int .i64 4, .int .i64 1, .int .i64 1, .int .i64 1, .int .i64 1, .int .i64 0, .int .i64 1] [.int .i64 4, .int .i64 1, .int .i64 1, .int .i64 1, .int .i64 1, .int .i64 0, .int .i64 1] := by rw [← hE4]; exact X3.setA 0 (.int .i64 2)
      obtain ⟨⟨cs20, cs21, cs22, cs23, cs24, cs25, cs26⟩, ds20, ds21, ds22, ds23, ds24, ds25, ds26⟩ := cellsS X4.ra
      clear cs20 ds20 cs21 ds21 cs23 ds23 cs24 ds24 cs25 ds25 cs26 ds26
      obtain ⟨E5, hE5⟩ : ∃ z, E4.setCell ⟨D2.heap.size, 2, none⟩ (.int .i64 2) = z := ⟨_, rfl⟩
      have X5 : Ex4 W E5 38 (D2.heap.size) (Wd.heap.size) (D1.heap.size) [.int .i64 2, .int .i64 1, .int .i64 2, .int .i64 1, .int .i64 1, .int .i64 0, .int .i64 1] [.int .i64 4, .int .i64 1, .int .i64 1, .int .i64 1, .int .i64 1, .int .i64 0, .int .i64 1] [.int .i64 4, .int .i64 1, .int .i64 1, .int .i64 1, .int .i64 1, .int .i64 0, .int .i64 1] := by rw [← hE5]; exact X4.setA 2 (.int .i64 2)
      obtain ⟨⟨cs30, cs31, cs32, cs33, cs34, cs35, cs36⟩, ds30, ds31, ds32, ds33, ds34, ds35, ds36⟩ := cellsS X5.rb
      clear cs31 ds31 cs32 ds32 cs33 ds33 cs34 ds34 cs35 ds35 cs36 ds36
      obtain ⟨E6, hE6⟩ : ∃ z, E5.setCell ⟨Wd.heap.size, 0, none⟩ (.int .i64 7) = z := ⟨_, rfl⟩
      have X6 : Ex4 W E6 38 (D2.heap.size) (Wd.heap.size) (D1.heap.size) [.int .i64 2, .int .i64 1, .int .i64 2, .int .i64 1, .int .i64 1, .int .i64 0, .int .i64 1] [.int .i64 7, .int .i64 1, .int .i64 1, .int .i64 1, .int .i64 1, .int .i64 0, .int .i64 1] [.int .i64 4, .int .i64 1, .int .i64 1, .int .i64 1, .int .i64 1, .int .i64 0, .int .i64 1] := by rw [← hE6]; exact X5.setB 0 (.int .i64 7)
      obtain ⟨⟨cs40, cs41, cs42, cs43, cs44, cs45, cs46⟩, ds40, ds41, ds42, ds43, ds44, ds45, ds46⟩ := cellsS X6.rb
      clear cs40 ds40 cs42 ds42 cs43 ds43 cs44 ds44 cs45 ds45 cs46 ds46
      obtain ⟨E7, hE7⟩ : ∃ z, E6.setCell ⟨Wd.heap.size, 1, none⟩ (.int .i64 3) = z := ⟨_, rfl⟩
      have X7 : Ex4 W E7 38 (D2.heap.size) (Wd.heap.size) (D1.heap.size) [.int .i64 2, .int .i64 1, .int .i64 2, .int .i64 1, .int .i64 1, .int .i64 0, .int .i64 1] [.int .i64 7, .int .i64 3, .int .i64 1, .int .i64 1, .int .i64 1, .int .i64 0, .int .i64 1] [.int .i64 4, .int .i64 1, .int .i64 1, .int .i64 1, .int .i64 1, .int .i64 0, .int .i64 1] := by rw [← hE7]; exact X6.setB 1 (.int .i64 3)
      obtain ⟨⟨cs50, cs51, cs52, cs53, cs54, cs55, cs56⟩, ds50, ds51, ds52, ds53, ds54, ds55, ds56⟩ := cellsS X7.rb
      clear cs50 ds50 cs51 ds51 cs53 ds53 cs54 ds54 cs55 ds55 cs56 ds56
      obtain ⟨E8, hE8⟩ : ∃ z, E7.setCell ⟨Wd.heap.size, 2, none⟩ (.int .i64 2) = z := ⟨_, rfl⟩
      have X8 : Ex4 W E8 38 (D2.heap.size) (Wd.heap.size) (D1.heap.size) [.int .i64 2, .int .i64 1, .int .i64 2, .int .i64 1, .int .i64 1, .int .i64 0, .int .i64 1] [.int .i64 7, .int .i64 3, .int .i64 2, .int .i64 1, .int .i64 1, .int .i64 0, .int .i64 1] [.int .i64 4, .int .i64 1, .int .i64 1, .int .i64 1, .int .i64 1, .int .i64 0, .int .i64 1] := by rw [← hE8]; exact X7.setB 2 (.int .i64 2)
      obtain ⟨⟨cs60, cs61, cs62, cs63, cs64, cs65, cs66⟩, ds60, ds61, ds62, ds63, ds64, ds65, ds66⟩ := cellsS X8.rc
      clear cs61 ds61 cs62 ds62 cs63 ds63 cs64 ds64 cs65 ds65 cs66 ds66
      obtain ⟨E9, hE9⟩ : ∃ z, E8.setCell ⟨D1.heap.size, 0, none⟩ (.int .i64 9) = z := ⟨_, rfl⟩
      have X9 : Ex4 W E9 38 (D2.heap.size) (Wd.heap.size) (D1.heap.size) [.int .i64 2, .int .i64 1, .int .i64 2, .int .i64 1, .int .i64 1, .int .i64 0, .int .i64 1] [.int .i64 7, .int .i64 3, .int .i64 2, .int .i64 1, .int .i64 1, .int .i64 0, .int .i64 1] [.int .i64 9, .int .i64 1, .int .i64 1, .int .i64 1, .int .i64 1, .int .i64 0, .int .i64 1] := by rw [← hE9]; exact X8.setC 0 (.int .i64 9)
      obtain ⟨⟨cs70, cs71, cs72, cs73, cs74, cs75, cs76⟩, ds70, ds71, ds72, ds73, ds74, ds75, ds76⟩ := cellsS X9.rc
      clear cs70 ds70 cs72 ds72 cs73 ds73 cs74 ds74 cs75 ds75 cs76 ds76
      obtain ⟨E10, hE10⟩ : ∃ z, E9.setCell ⟨D1.heap.size, 1, none⟩ (.int .i64 3) = z := ⟨_, rfl⟩
      have X10 : Ex4 W E10 38 (D2.heap.size) (Wd.heap.size) (D1.heap.size) [.int .i64 2, .int .i64 1, .int .i64 2, .int .i64 1, .int .i64 1, .int .i64 0, .int .i64 1] [.int .i64 7, .int .i64 3, .int .i64 2, .int .i64 1, .int .i64 1, .int .i64 0, .int .i64 1] [.int .i64 9, .int .i64 3, .int .i64 1, .int .i64 1, .int .i64 1, .int .i64 0, .int .i64 1] := by rw [← hE10]; exact X9.setC 1 (.int .i64 3)
      obtain ⟨⟨cu0, cu1, cu2, cu3, cu4, cu5, cu6⟩, du0, du1, du2, du3, du4, du5, du6⟩ := cellsS X10.ra
      obtain ⟨⟨cv0, cv1, cv2, cv3, cv4, cv5, cv6⟩, dv0, dv1, dv2, dv3, dv4, dv5, dv6⟩ := cellsS X10.rb
      obtain ⟨⟨cw0, cw1, cw2, cw3, cw4, cw5, cw6⟩, dw0, dw1, dw2, dw3, dw4, dw5, dw6⟩ := cellsS X10.rc
      obtain ⟨⟨x0, x1, x2, x3, x4, x5, x6⟩, _⟩ := cellsS (heap_below HkW.out X10.hb (heap_lt HkW.out))
      go_wp2_with fail
      go_ret
      have hbE := below_trans hbW X10.hb
      exact ⟨_, rfl, slOf_blk (xs := exL) lenS (heap_alloc_new _ _) rfl (by decide) (by decide), hbE.alloc hbE.size _⟩
  · have tok : True := trivial
    clear tok
    have HK := Lib.hid hK
    clear hK
    rw [if_pos (by rfl)]
    go_simp
    refine HK.out _ _ (HS.out _ (below_trans hba hb1)) ?_
    clear HK
    refine wpAnyS_two 3 4 (by kernel_rfl) (by rfl) (by rfl) (by decide) (by decide) (fun K hK => ?_) (fun K hK => ?_)
    · have tok : True := trivial
      clear tok
      have HK := Lib.hid hK
      clear hK
      rw [if_pos (by rfl)]
      go_simp
      refine HK.out _ _ (HS.out _ (below_trans hba hb2)) ?_
      clear HK
      refine wpAnyS_one 4 (by kernel_rfl) (by rfl) (by decide) (fun K hK => ?_)
      have HK := Lib.hid hK; clear hK
      rw [if_pos (by rfl)]
      go_simp
      refine HK.out _ _ (HS.out _ hD) ?_
      clear HK hD1 hD2 hD3
      have X0 : Ex4 W D3 38 (D1.heap.size) (D2.heap.size) (Wd.heap.size) [.int .i64 0, .int .i64 0, .int .i64 0, .int .i64 0, .int .i64 0, .int .i64 0, .int .i64 0] [.int .i64 0, .int .i64 0, .int .i64 0, .int .i64 0, .int .i64 0, .int .i64 0, .int .i64 0] [.int .i64 0, .int .i64 0, .int .i64 0, .int .i64 0, .int .i64 0, .int .i64 0, .int .i64 0] := ⟨hD, k2', k3, k1', by omega, by omega, by omega, by omega, by omega, by omega⟩
      obtain ⟨⟨ca0, ca1, ca2, ca3, ca4, ca5, ca6⟩, da0, da1, da2, da3, da4, da5, da6⟩ := cellsS X0.ra
      obtain ⟨E1, hE1⟩ : ∃ z, (((((((D3.setCell ⟨D1.heap.size, 0, none⟩ (.int .i64 4)).setCell ⟨D1.heap.size, 1, none⟩ (.int .i64 1)).setCell ⟨D1.heap.size, 2, none⟩ (.int .i64 1)).setCell ⟨D1.heap.size, 3, none⟩ (.int .i64 1)).setCell ⟨D1.heap.size, 4, none⟩ (.int .i64 1)).setCell ⟨D1.heap.size, 5, none⟩ (.int .i64 0)).setCell ⟨D1.heap.size, 6, none⟩ (.int .i64 1)) = z := ⟨_, rfl⟩
      have X1 : Ex4 W E1 38 (D1.heap.size) (D2.heap.size) (Wd.heap.size) [.int .i64 4, .int .i64 1, .int .i64 1, .int .i64 1, .int .i64 1, .int .i64 0, .int .i64 1] [.int .i64 0, .int .i64 0, .int .i64 0, .int .i64 0, .int .i64 0, .int .i64 0, .int .i64 0] [.int .i64 0, .int .i64 0, .int .i64 0, .int .i64 0, .int .i64 0, .int .i64 0, .int .i64 0] := by rw [← hE1]; exact X0.allA [.int .i64 4, .int .i64 1, .int .i64 1, .int .i64 1, .int .i64 1, .int .i64 0, .int .i64 1] rfl
      refine wpAnyS_one 6 (by kernel_rfl) (by rfl) (by decide) (fun K hK => ?_)
      have HK := Lib.hid hK; clear hK
      rw [if_pos (by rfl)]
      go_simp
      refine HK.out _ _ (HS.out _ X1.hb) ?_
      clear HK hE1
      clear ca0 da0 ca1 da1 ca2 da2 ca3 da3 ca4 da4 ca5 da5 ca6 da6
      obtain ⟨⟨cb0, cb1, cb2, cb3, cb4, cb5, cb6⟩, db0, db1, db2, db3, db4, db5, db6⟩ := cellsS X1.rb
      obtain ⟨E2, hE2⟩ : ∃ z, (((((((E1.setCell ⟨D2.heap.size, 0, none⟩ (.int .i64 4)).setCell ⟨D2.heap.size, 1, none⟩ (.int .i64 1)).setCell ⟨D2.heap.size, 2, none⟩ (.int .i64 1)).setCell ⟨D2.heap.size, 3, none⟩ (.int .i64 1)).setCell ⟨D2.heap.size, 4, none⟩ (.int .i64 1)).setCell ⟨D2.heap.size, 5, none⟩ (.int .i64 0)).setCell ⟨D2.heap.size, 6, none⟩ (.int .i64 1)) = z := ⟨_, rfl⟩
      have X2 : Ex4 W E2 38 (D1.heap.size) (D2.heap.size) (Wd.heap.size) [.int .i64 4, .int .i64 1, .int .i64 1, .int .i64 1, .int .i64 1, .int .i64 0, .int .i64 1] [.int .i64 4, .int .i64 1, .int .i64 1, .int .i64 1, .int .i64 1, .int .i64 0, .int .i64 1] [.int .i64 0, .int .i64 0, .int .i64 0, .int .i64 0, .int .i64 0, .int .i64 0, .int .i64 0] := by rw [← hE2]; exact X1.allB [.int .i64 4, .int .i64 1, .int .i64 1, .int .i64 1, .int .i64 1, .int .i64 0, .int .i64 1] rfl
      refine wpAnyS_one 7 (by kernel_rfl) (by rfl) (by decide) (fun K hK => ?_)
      have HK := Lib.hid hK; clear hK
      rw [if_pos (by rfl)]
      go_simp
      refine HK.out _ _ (HS.out _ X2.hb) ?_
      clear HK hE2
      clear cb0 db0 cb1 db1 cb2 db2 cb3 db3 cb4 db4 cb5 db5 cb6 db6
      obtain ⟨⟨cc0, cc1, cc2, cc3, cc4, cc5, cc6⟩, dc0, dc1, dc2, dc3, dc4, dc5, dc6⟩ := cellsS X2.rc
      obtain ⟨E3, hE3⟩ : ∃ z, (((((((E2.setCell ⟨Wd.heap.size, 0, none⟩ (.int .i64 4)).setCell ⟨Wd.heap.size, 1, none⟩ (.int .i64 1)).setCell ⟨Wd.heap.size, 2, none⟩ (.int .i64 1)).setCell ⟨Wd.heap.size, 3, none⟩ (.int .i64 1)).setCell ⟨Wd.heap.size, 4, none⟩ (.int .i64 1)).setCell ⟨Wd.heap.size, 5, none⟩ (.int .i64 0)).setCell ⟨Wd.heap.size, 6, none⟩ (.int .i64 1)) = z := ⟨_, rfl⟩
      have X3 : Ex4 W E3 38 (D1.heap.size) (D2.heap.size) (Wd.heap.size) [.int .i64 4, .int .i64 1, .int .i64 1, .int .i64 1, .int .i64 1, .int .i64 0, .int .i64 1] [.int .i64 4, .int .i64 1, .int .i64 1, .int .i64 1, .int .i64 1, .int .i64 0, .int .i64 1] [.int .i64 4, .int .i64 1, .int .i64 1, .int .i64 1, .int .i64 1, .int .i64 0, .int .i64 1] := by rw [← hE3]; exact X2.allC [.int .i64 4, .int .i64 1, .int .i64 1, .int .i64 1, .int .i64 1, .int .i64 0, .int .i64 1] rfl
      refine (show tailOf _ _ _ _ _ _ _ _ from ⟨by kernel_rfl, ?_⟩)
      simp only [List.drop_succ_cons, List.drop_zero]
      obtain ⟨⟨cs10, cs11, cs12, cs13, cs14, cs15, cs16⟩, ds10, ds11, ds12, ds13, ds14, ds15, ds16⟩ := cellsS X3.ra
      clear cs11 ds11 cs12 ds12 cs13 ds13 cs14 ds14 cs15 ds15 cs16 ds16
      obtain ⟨E4, hE4⟩ : ∃ z, E3.setCell ⟨D1.heap.size, 0, none⟩ (.int .i64 2) = z := ⟨_, rfl⟩
      have X4 : Ex4 W E4 38 (D1.heap.size) (D2.heap.size) (Wd.heap.size) [.int .i64 2, .int .i64 1, .int .i64 1, .int .i64 1, .int .i64 1, .int .i64 0, .int .i64 1] [.int .i64 4, .int .i64 1, .int .i64 1, .int .i64 1, .int .i64 1, .int .i64 0, .int .i64 1] [.int .i64 4, .int .i64 1, .int .i64 1, .int .i64 1, .int .i64 1, .int .i64 0, .int .i64 1] := by rw [← hE4]; exact X3.setA 0 (.int .i64 2)
      obtain ⟨⟨cs20, cs21, cs22, cs23, cs24, cs25, cs26⟩, ds20, ds21, ds22, ds23, ds24, ds25, ds26⟩ := cellsS X4.ra
      clear cs20 ds20 cs21 ds21 cs23 ds23 cs24 ds24 cs25 ds25 cs26 ds26
      obtain ⟨E5, hE5⟩ : ∃ z, E4.setCell ⟨D1.heap.size, 2, none⟩ (.int .i64 2) = z := ⟨_, rfl⟩
      have X5 : Ex4 W E5 38 (D1.heap.size) (D2.heap.size) (Wd.heap.size) [.int .i64 2, .int .i64 1, .int .i64 2, .int .i64 1, .int .i64 1, .int .i64 0, .int .i64 1] [.int .i64 4, .int .i64 1, .int .i64 1, .int .i64 1, .int .i64 1, .int .i64 0, .int .i64 1] [.int .i64 4, .int .i64 1, .int .i64 1, .int .i64 1, .int .i64 1, .int .i64 0, .int .i64 1] := by rw [← hE5]; exact X4.setA 2 (.int .i64 2)
      obtain ⟨⟨cs30, cs31, cs32, cs33, cs34, cs35, cs36⟩, ds30, ds31, ds32, ds33, ds34, ds35, ds36⟩ := cellsS X5.rb
      clear cs31 ds31 cs32 ds32 cs33 ds33 cs34 ds34 cs35 ds35 cs36 ds36
      obtain ⟨E6, hE6⟩ : ∃ z, E5.setCell ⟨D2.heap.size, 0, none⟩ (.int .i64 7) = z := ⟨_, rfl⟩
      have X6 : Ex4 W E6 38 (D1.heap.size) (D2.heap.size) (Wd.heap.size) [.int .i64 2, .int .i64 1, .int .i64 2, .int .i64 1, .int .i64 1, .int .i64 0, .int .i64 1] [.int .i64 7, .int .i64 1, .int .i64 1, .int .i64 1, .int .i64 1, .int .i64 0, .int .i64 1] [.int .i64 4, .int .i64 1, .int .i64 1, .int .i64 1, .int .i64 1, .int .i64 0, .int .i64 1] := by rw [← hE6]; exact X5.setB 0 (.int .i64 7)
      obtain ⟨⟨cs40, cs41, cs42, cs43, cs44, cs45, cs46⟩, ds40, ds41, ds42, ds43, ds44, ds45, ds46⟩ := cellsS X6.rb
      clear cs40 ds40 cs42 ds42 cs43 ds43 cs44 ds44 cs45 ds45 cs46 ds46
      obtain ⟨E7, hE7⟩ : ∃ z, E6.setCell ⟨D2.heap.size, 1, none⟩ (.int .i64 3) = z := ⟨_, rfl⟩
      have X7 : Ex4 W E7 38 (D1.heap.size) (D2.heap.size) (Wd.heap.size) [.int .i64 2, .int .i64 1, .int .i64 2, .int .i64 1, .int .i64 1, .int .i64 0, .int .i64 1] [.int .i64 7, .int .i64 3, .int .i64 1, .int .i64 1, .int .i64 1, .int .i64 0, .int .i64 1] [.int .i64 4, .int .i64 1, .int .i64 1, .int .i64 1, .int .i64 1, .int .i64 0, .int .i64 1] := by rw [← hE7]; exact X6.setB 1 (.int .i64 3)
      obtain ⟨⟨cs50, cs51, cs52, cs53, cs54, cs55, cs56⟩, ds50, ds51, ds52, ds53, ds54, ds55, ds56⟩ := cellsS X7.rb
      clear cs50 ds50 cs51 ds51 cs53 ds53 cs54 ds54 cs55 ds55 cs56 ds56
      obtain ⟨E8, hE8⟩ : ∃ z, E7.setCell ⟨D2.heap.size, 2, none⟩ (.int .i64 2) = z := ⟨_, rfl⟩
      have X8 : Ex4 W E8 38 (D1.heap.size) (D2.heap.size) (Wd.heap.size) [.int .i64 2, .int .i64 1, .int .i64 2, .int .i64 1, .int .i64 1, .int .i64 0, .int .i64 1] [.int .i64 7, .int .i64 3, .int .i64 2, .int .i64 1, .int .i64 1, .int .i64 0, .int .i64 1] [.int .i64 4, .int .i64 1, .int .i64 1, .int .i64 1, .int .i64 1, .int .i64 0, .int .i64 1] := by rw [← hE8]; exact X7.setB 2 (.int .i64 2)
      obtain ⟨⟨cs60, cs61, cs62, cs63, cs64, cs65, cs66⟩, ds60, ds61, ds62, ds63, ds64, ds65, ds66⟩ := cellsS X8.rc
      clear cs61 ds61 cs62 ds62 cs63 ds63 cs64 ds64 cs65 ds65 cs66 ds66
      obtain ⟨E9, hE9⟩ : ∃ z, E8.setCell ⟨Wd.heap.size, 0, none⟩ (.int .i64 9) = z := ⟨_, rfl⟩
      have X9 : Ex4 W E9 38 (D1.heap.size) (D2.heap.size) (Wd.heap.size) [.int .i64 2, .int .i64 1, .int .i64 2, .int .i64 1, .int .i64 1, .int .i64 0, .int .i64 1] [.int .i64 7, .int .i64 3, .int .i64 2, .int .i64 1, .int .i64 1, .int .i64 0, .int .i64 1] [.int .i64 9, .int .i64 1, .int .i64 1, .int .i64 1, .int .i64 1, .int .i64 0, .int .i64 1] := by rw [← hE9]; exact X8.setC 0 (.int .i64 9)
      obtain ⟨⟨cs70, cs71, cs72, cs73, cs74, cs75, cs76⟩, ds70, ds71, ds72, ds73, ds74, ds75, ds76⟩ := cellsS X9.rc
      clear cs70 ds70 cs72 ds72 cs73 ds73 cs74 ds74 cs75 ds75 cs76 ds76
      obtain ⟨E10, hE10⟩ : ∃ z, E9.setCell ⟨Wd.heap.size, 1, none⟩ (.int .i64 3) = z := ⟨_, rfl⟩
      have X10 : Ex4 W E10 38 (D1.heap.size) (D2.heap.size) (Wd.heap.size) [.int .i64 2, .int .i64 1, .int .i64 2, .int .i64 1, .int .i64 1, .int .i64 0, .int .i64 1] [.int .i64 7, .int .i64 3, .int .i64 2, .int .i64 1, .int .i64 1, .int .i64 0, .int .i64 1] [.int .i64 9, .int .i64 3, .int .i64 1, .int .i64 1, .int .i64 1, .int .i64 0, .int .i64 1] := by rw [← hE10]; exact X9.setC 1 (.int .i64 3)
      obtain ⟨⟨cu0, cu1, cu2, cu3, cu4, cu5, cu6⟩, du0, du1, du2, du3, du4, du5, du6⟩ := cellsS X10.ra
      obtain ⟨⟨cv0, cv1, cv2, cv3, cv4, cv5, cv6⟩, dv0, dv1, dv2, dv3, dv4, dv5, dv6⟩ := cellsS X10.rb
      obtain ⟨⟨cw0, cw1, cw2, cw3, cw4, cw5, cw6⟩, dw0, dw1, dw2, dw3, dw4, dw5, dw6⟩ := cellsS X10.rc
      obtain ⟨⟨x0, x1, x2, x3, x4, x5, x6⟩, _⟩ := cellsS (heap_below HkW.out X10.hb (heap_lt HkW.out))
      go_wp2_with fail
      go_ret
      have hbE := below_trans hbW X10.hb
      exact ⟨_, rfl, slOf_blk (xs := exL) lenS (heap_alloc_new _ _) rfl (by decide) (by decide), hbE.alloc hbE.size _⟩
    · have tok : True := trivial
      clear tok
      have HK := Lib.hid hK
      clear hK
      rw [if_pos (by rfl)]
      go_simp
      refine HK.out _ _ (HS.out _ (below_trans hba hb2)) ?_
      clear HK
      refine wpAnyS_one 3 (by kernel_rfl) (by rfl) (by decide) (fun K hK => ?_)
      have HK := Lib.hid hK; clear hK
      rw [if_pos (by rfl)]
      go_simp
      refine HK.out _ _ (HS.out _ hD) ?_
      clear HK hD1 hD2 hD3
      have X0 : Ex4 W D3 38 (D2.heap.size) (D1.heap.size) (Wd.heap.size) [.int .i64 0, .int .i64 0, .int .i64 0, .int .i64 0, .int .i64 0, .int .i64 0, .int .i64 0] [.int .i64 0, .int .i64 0, .int .i64 0, .int .i64 0, .int .i64 0, .int .i64 0, .int .i64 0] [.int .i64 0, .int .i64 0, .int .i64 0, .int .i64 0, .int .i64 0, .int .i64 0, .int .i64 0] := ⟨hD, k3, k2', k1', by omega, by omega, by omega, by omega, by omega, by omega⟩
      obtain ⟨⟨ca0, ca1, ca2, ca3, ca4, ca5, ca6⟩, da0, da1, da2, da3, da4, da5, da6⟩ := cellsS X0.ra
      obtain ⟨E1, hE1⟩ : ∃ z, (((((((D3.setCell ⟨D2.heap.size, 0, none⟩ (.int .i64 4)).setCell ⟨D2.heap.size, 1, none⟩ (.int .i64 1)).setCell ⟨D2.heap.size, 2, none⟩ (.int .i64 1)).setCell ⟨D2.heap.size, 3, none⟩ (.int .i64 1)).setCell ⟨D2.heap.size, 4, none⟩ (.int .i64 1)).setCell ⟨D2.heap.size, 5, none⟩ (.int .i64 0)).setCell ⟨D2.heap.size, 6, none⟩ (.int .i64 1)) = z := ⟨_, rfl⟩
      have X1 : Ex4 W E1 38 (D2.heap.size) (D1.heap.size) (Wd.heap.size) [.int .i64 4, .int .i64 1, .int .i64 1, .int .i64 1, .int .i64 1, .int .i64 0, .int .i64 1] [.int .i64 0, .int .i64 0, .int .i64 0, .int .i64 0, .int .i64 0, .int .i64 0, .int .i64 0] [.int .i64 0, .int .i64 0, .int .i64 0, .int .i64 0, .int .i64 0, .int .i64 0, .int .i64 0] := by rw [← hE1]; exact X0.allA [.int .i64 4, .int .i64 1, .int .i64 1, .int .i64 1, .int .i64 1, .int .i64 0, .int .i64 1] rfl
      refine wpAnyS_one 6 (by kernel_rfl) (by rfl) (by decide) (fun K hK => ?_)
      have HK := Lib.hid hK; clear hK
      rw [if_pos (by rfl)]
      go_simp
      refine HK.out _ _ (HS.out _ X1.hb) ?_
      clear HK hE1
      clear ca0 da0 ca1 da1 ca2 da2 ca3 da3 ca4 da4 ca5 da5 ca6 da6
      obtain ⟨⟨cb0, cb1, cb2, cb3, cb4, cb5, cb6⟩, db0, db1, db2, db3, db4, db5, db6⟩ := cellsS X1.rb
      obtain ⟨E2, hE2⟩ : ∃ z, (((((((E1.setCell ⟨D1.heap.size, 0, none⟩ (.int .i64 4)).setCell ⟨D1.heap.size, 1, none⟩ (.int .i64 1)).setCell ⟨D1.heap.size, 2, none⟩ (.int .i64 1)).setCell ⟨D1.heap.size, 3, none⟩ (.int .i64 1)).setCell ⟨D1.heap.size, 4, none⟩ (.int .i64 1)).setCell ⟨D1.heap.size, 5, none⟩ (.int .i64 0)).setCell ⟨D1.heap.size, 6, none⟩ (.int .i64 1)) = z := ⟨_, rfl⟩
      have X2 : Ex4 W E2 38 (D2.heap.size) (D1.heap.size) (Wd.heap.size) [.int .i64 4, .int .i64 1, .int .i64 1, .int .i64 1, .int .i64 1, .int .i64 0, .int .i64 1] [.int .i64 4, .int .i64 1, .int .i64 1, .int .i64 1, .int .i64 1, .int .i64 0, .int .i64 1] [.int .i64 0, .int .i64 0, .int .i64 0, .int .i64 0, .int .i64 0, .int .i64 0, .int .i64 0] := by rw [← hE2]; exact X1.allB [.int .i64 4, .int .i64 1, .int .i64 1, .int .i64 1, .int .i64 1, .int .i64 0, .int .i64 1] rfl
      refine wpAnyS_one 7 (by kernel_rfl) (by rfl) (by decide) (fun K hK => ?_)
      have HK := Lib.hid hK; clear hK
      rw [if_pos (by rfl)]
      go_simp
      refine HK.out _ _ (HS.out _ X2.hb) ?_
      clear HK hE2
      clear cb0 db0 cb1 db1 cb2 db2 cb3 db3 cb4 db4 cb5 db5 cb6 db6
      obtain ⟨⟨cc0, cc1, cc2, cc3, cc4, cc5, cc6⟩, dc0, dc1, dc2, dc3, dc4, dc5, dc6⟩ := cellsS X2.rc
      obtain ⟨E3, hE3⟩ : ∃ z, (((((((E2.setCell ⟨Wd.heap.size, 0, none⟩ (.int .i64 4)).setCell ⟨Wd.heap.size, 1, none⟩ (.int .i64 1)).setCell ⟨Wd.heap.size, 2, none⟩ (.int .i64 1)).setCell ⟨Wd.heap.size, 3, none⟩ (.int .i64 1)).setCell ⟨Wd.heap.size, 4, none⟩ (.int .i64 1)).setCell ⟨Wd.heap.size, 5, none⟩ (.int .i64 0)).setCell ⟨Wd.heap.size, 6, none⟩ (.int .i64 1)) = z := ⟨_, rfl⟩
      have X3 : Ex4 W E3 38 (D2.heap.size) (D1.heap.size) (Wd.heap.size) [.int .i64 4, .int .i64 1, .int .i64 1, .int .i64 1, .int .i64 1, .int .i64 0, .int .i64 1] [.int .i64 4, .int .i64 1, .int .i64 1, .int .i64 1, .int .i64 1, .int .i64 0, .int .i64 1] [.int .i64 4, .int .i64 1, .int .i64 1, .int .i64 1, .int .i64 1, .int .i64 0, .int .i64 1] := by rw [← hE3]; exact X2.allC [.int .i64 4, .int .i64 1, .int .i64 1, .int .i64 1, .int .i64 1, .int .i64 0, .int .i64 1] rfl
      refine (show tailOf _ _ _ _ _ _ _ _ from ⟨by kernel_rfl, ?_⟩)
      simp only [List.drop_succ_cons, List.drop_zero]
      obtain ⟨⟨cs10, cs11, cs12, cs13, cs14, cs15, cs16⟩, ds10, ds11, ds12, ds13, ds14, ds15, ds16⟩ := cellsS X3.ra
      clear cs11 ds11 cs12 ds12 cs13 ds13 cs14 ds14 cs15 ds15 cs16 ds16
      obtain ⟨E4, hE4⟩ : ∃ z, E3.setCell ⟨D2.heap.size, 0, none⟩ (.int .i64 2) = z := ⟨_, rfl⟩
      have X4 : Ex4 W E4 38 (D2.heap.size) (D1.heap.size) (Wd.heap.size) [.int .i64 2, .int .i64 1, .int .i64 1, .int .i64 1, .int .i64 1, .int .i64 0, .int .i64 1] [.int .i64 4, .int .i64 1, .int .i64 1, .int .i64 1, .int .i64 1, .int .i64 0, .int .i64 1] [.int .i64 4, .int .i64 1, .int .i64 1, .int .i64 1, .int .i64 1, .int .i64 0, .int .i64 1] := by rw [← hE4]; exact X3.setA 0 (.int .i64 2)
      obtain ⟨⟨cs20, cs21, cs22, cs23, cs24, cs25, cs26⟩, ds20, ds21, ds22, ds23, ds24, ds25, ds26⟩ := cellsS X4.ra
      clear cs20 ds20 cs21 ds21 cs23 ds23 cs24 ds24 cs25 ds25 cs26 ds26
      obtain ⟨E5, hE5⟩ : ∃ z, E4.setCell ⟨D2.heap.size, 2, none⟩ (.int .i64 2) = z := ⟨_, rfl⟩
      have X5 : Ex4 W E5 38 (D2.heap.size) (D1.heap.size) (Wd.heap.size) [.int .i64 2, .int .i64 1, .int .i64 2, .int .i64 1, .int .i64 1, .int .i64 0, .int .i64 1] [.int .i64 4, .int .i64 1, .int .i64 1, .int .i64 1, .int .i64 1, .int .i64 0, .int .i64 1] [.int .i64 4, .int .i64 1, .int .i64 1, .int .i64 1, .int .i64 1, .int .i64 0, .int .i64 1] := by rw [← hE5]; exact X4.setA 2 (.int .i64 2)
      obtain ⟨⟨cs30, cs31, cs32, cs33, cs34, cs35, cs36⟩, ds30, ds31, ds32, ds33, ds34, ds35, ds36⟩ := cellsS X5.rb
      clear cs31 ds31 cs32 ds32 cs33 ds33 cs34 ds34 cs35 ds35 cs36 ds36
      obtain ⟨E6, hE6⟩ : ∃ z, E5.setCell ⟨D1.heap.size, 0, none⟩ (.int .i64 7) = z := ⟨_, rfl⟩
      have X6 : Ex4 W E6 38 (D2.heap.size) (D1.heap.size) (Wd.heap.size) [.int .i64 2, .int .i64 1, .int .i64 2, .int .i64 1, .int .i64 1, .int .i64 0, .int .i64 1] [.int .i64 7, .int .i64 1, .int .i64 1, .int .i64 1, .int .i64 1, .int .i64 0, .int .i64 1] [.int .i64 4, .int .i64 1, .int .i64 1, .int .i64 1, .int .i64 1, .int .i64 0, .int .i64 1] := by rw [← hE6]; exact X5.setB 0 (.int .i64 7)
      obtain ⟨⟨cs40, cs41, cs42, cs43, cs44, cs45, cs46⟩, ds40, ds41, ds42, ds43, ds44, ds45, ds46⟩ := cellsS X6.rb
      clear cs40 ds40 cs42 ds42 cs43 ds43 cs44 ds44 cs45 ds45 cs46 ds46
      obtain ⟨E7, hE7⟩ : ∃ z, E6.setCell ⟨D1.heap.size, 1, none⟩ (.int .i64 3) = z := ⟨_, rfl⟩
      have X7 : Ex4 W E7 38 (D2.heap.size) (D1.heap.size) (Wd.heap.size) [.int .i64 2, .int .i64 1, .int .i64 2, .int .i64 1, .int .i64 1, .int .i64 0, .int .i64 1] [.int .i64 7, .int .i64 3, .int .i64 1, .int .i64 1, .int .i64 1, .int .i64 0, .int .i64 1] [.int .i64 4, .int .i64 1, .int .i64 1, .int .i64 1, .int .i64 1, .int .i64 0, .int .i64 1] := by rw [← hE7]; exact X6.setB 1 (.int .i64 3)
      obtain ⟨⟨cs50, cs51, cs52, cs53, cs54, cs55, cs56⟩, ds50, ds51, ds52, ds53, ds54, ds55, ds56⟩ := cellsS X7.rb
      clear cs50 ds50 cs51 ds51 cs53 ds53 cs54 ds54 cs55 ds55 cs56 ds56
      obtain ⟨E8, hE8⟩ : ∃ z, E7.setCell ⟨D1.heap.size, 2, none⟩ (.int .i64 2) = z := ⟨_, rfl⟩
      have X8 : Ex4 W E8 38 (D2.heap.size) (D1.heap.size) (Wd.heap.size) [.int .i64 2, .int .i64 1, .int .i64 2, .int .i64 1, .int .i64 1, .int .i64 0, .int .i64 1] [.int .i64 7, .int .i64 3, .int .i64 2, .int .i64 1, .int .i64 1, .int .i64 0, .int .i64 1] [.int .i64 4, .int .i64 1, .int .i64 1, .int .i64 1, .int .i64 1, .int .i64 0, .int .i64 1] := by rw [← hE8]; exact X7.setB 2 (.int .i64 2)
      obtain ⟨⟨cs60, cs61, cs62, cs63, cs64, cs65, cs66⟩, ds60, ds61, ds62, ds63, ds64, ds65, ds66⟩ := cellsS X8.rc
      clear cs61 ds61 cs62 ds62 cs63 ds63 cs64 ds64 cs65 ds65 cs66 ds66
      obtain ⟨E9, hE9⟩ : ∃ z, E8.setCell ⟨Wd.heap.size, 0, none⟩ (.int .i64 9) = z := ⟨_, rfl⟩
      have X9 : Ex4 W E9 38 (D2.heap.size) (D1.heap.size) (Wd.heap.size) [.int .i64 2, .int .i64 1, .int .i64 2, .int .i64 1, .int .i64 1, .int .i64 0, .int .i64 1] [.int .i64 7, .int .i64 3, .int .i64 2, .int .i64 1, .int .i64 1, .int .i64 0, .int .i64 1] [.int .i64 9, .int .i64 1, .int .i64 1, .int .i64 1, .int .i64 1, .int .i64 0, .int .i64 1] := by rw [← hE9]; exact X8.setC 0 (.int .i64 9)
      obtain ⟨⟨cs70, cs71, cs72, cs73, cs74, cs75, cs76⟩, ds70, ds71, ds72, ds73, ds74, ds75, ds76⟩ := cellsS X9.rc
      clear cs70 ds70 cs72 ds72 cs73 ds73 cs74 ds74 cs75 ds75 cs76 ds76
      obtain ⟨E10, hE10⟩ : ∃ z, E9.setCell ⟨Wd.heap.size, 1, none⟩ (.int .i64 3) = z := ⟨_, rfl⟩
      have X10 : Ex4 W E10 38 (D2.heap.size) (D1.heap.size) (Wd.heap.size) [.int .i64 2, .int .i64 1, .int .i64 2, .int .i64 1, .int .i64 1, .int .i64 0, .int .i64 1] [.int .i64 7, .int .i64 3, .int .i64 2, .int .i64 1, .int .i64 1, .int .i64 0, .int .i64 1] [.int .i64 9, .int .i64 3, .int .i64 1, .int .i64 1, .int .i64 1, .int .i64 0, .int .i64 1] := by rw [← hE10]; exact X9.setC 1 (.int .i64 3)
      obtain ⟨⟨cu0, cu1, cu2, cu3, cu4, cu5, cu6⟩, du0, du1, du2, du3, du4, du5, du6⟩ := cellsS X10.ra
      obtain ⟨⟨cv0, cv1, cv2, cv3, cv4, cv5, cv6⟩, dv0, dv1, dv2, dv3, dv4, dv5, dv6⟩ := cellsS X10.rb
      obtain ⟨⟨cw0, cw1, cw2, cw3, cw4, cw5, cw6⟩, dw0, dw1, dw2, dw3, dw4, dw5, dw6⟩ := cellsS X10.rc
      obtain ⟨⟨x0, x1, x2, x3, x4, x5, x6⟩, _⟩ := cellsS (heap_below HkW.out X10.hb (heap_lt HkW.out))
      go_wp2_with fail
      go_ret
      have hbE := below_trans hbW X10.hb
      exact ⟨_, rfl, slOf_blk (xs := exL) lenS (heap_alloc_new _ _) rfl (by decide) (by decide), hbE.alloc hbE.size _⟩
end Go.Proofs.YtlmjncncmgmehaaGreat
/- law51.awake. No condition. -/
namespace Go.Proofs.YtlmjncncmgmehaaGreat
open Go.RowKit Go.Maps Go.Shelf

theorem exA_wf : wfD exA := by decide
theorem exB_wf : wfD exB := by decide
set_option maxHeartbeats 8000000 in
set_option maxRecDepth 100000 in
theorem wake51_ok (w : World) : Calls Tryz.prog 10 #[] w fun e w' => e = .returned (.bool true) ∧ Below w.heap.size w w' := by
  go_enter Tryz.func10, Tryz.ntmps10
  go_wp2_with fail
  refine (example_ok _).mono ?_
  rintro e w1 ⟨g, rfl, hS1, hb1⟩
  obtain ⟨V1, V2, V, hV1, hV2, hV, HzV, hltV, kz1, kz2, k1, k2, hbV, hltV'⟩ := fresh2 w1 [.int .i64 0, .int .i64 0] [.int .i64 0, .int .i64 1] [.int .i64 0, .int .i64 0] [.int .i64 0, .int .i64 3] 24 rfl rfl
  have hsV : (((V2.setCell ⟨w1.heap.size, 0, none⟩ (.int .i64 0)).setCell ⟨w1.heap.size, 1, none⟩ (.int .i64 1)).setCell ⟨V1.heap.size, 0, none⟩ (.int .i64 0)).setCell ⟨V1.heap.size, 1, none⟩ (.int .i64 3) = V := hV
  clear hV
  obtain ⟨⟨z0, z1⟩, f0, f1⟩ := cells2 kz1
  obtain ⟨⟨z2, z3⟩, f2, f3⟩ := cells2 kz2
  obtain ⟨⟨p0, p1⟩, _, _⟩ := cells2 k1
  obtain ⟨⟨q0, q1⟩, _, _⟩ := cells2 k2
  have hw2 := below_trans hb1 hbV
  have hS := hS1.below hbV
  have P0 := Lib.hid p0; have P1 := Lib.hid p1; have Q0 := Lib.hid q0; have Q1 := Lib.hid q1
  clear kz1 kz2 k1 k2 hS1
  go_wp2_with fail
  clear z0 z1 z2 z3 f0 f1 f2 f3 hsV hV1 hV2
  refine (LeastX_ok _ exL exA exB _ hS exA_wf exB_wf).mono ?_
  rintro e w3 ⟨u3, L3, rfl, hi3, hL3, hb3⟩
  obtain rfl := hL3.uniq ex_least
  rw [ex_e]
  have hS3 := hS.below hb3
  have hw3 := below_trans hw2 hb3
  have p0 := cell_later hb3 p0; have p1 := cell_later hb3 p1; have q0 := cell_later hb3 q0; have q1 := cell_later hb3 q1
  clear P0 P1 Q0 Q1 hS hL3
  go_wp2_with fail
  obtain ⟨M1, hM1⟩ : ∃ z, World.alloc w3 (.cells (#[.int .i64 7]) 3) = z := ⟨_, rfl⟩
  rw [hM1]
  have hkM1 : M1.heap[w3.heap.size]? = some (.cells (([7] : List Int).flatMap encI).toArray 3 (0, 0)) := by rw [← hM1]; exact heap_alloc_new _ _
  have hbM1 : Below w3.heap.size w3 M1 := by rw [← hM1]; exact (Below.refl _ _).alloc (Nat.le_refl _) _
  have hiM1 : Ints M1 (.slice (some ⟨w3.heap.size, 0, none⟩) (1) (1)) [7] := slOf_blk lenI hkM1 rfl (by decide) (by decide)
  clear hkM1 hM1
  have p0 := cell_later hbM1 p0; have p1 := cell_later hbM1 p1; have q0 := cell_later hbM1 q0; have q1 := cell_later hbM1 q1
  have hw4 := below_trans hw3 hbM1
  have hS4 := hS3.below hbM1; have hi3 := hi3.below hbM1
  refine (SomeX_ok _ _ exL [7] exA exB _ hS4 hiM1 exA_wf exB_wf).mono ?_
  rintro e w5 ⟨u5, L5, rfl, hi5, hL5, hb5⟩
  rw [SomeS, if_pos ex_of] at hL5
  obtain rfl := hL5.uniq ex7_least
  rw [show someE exL exA exB [7] = 0 from by rw [someE, if_pos ex_of]; exact ex7_e]
  have p0 := cell_later hb5 p0; have p1 := cell_later hb5 p1; have q0 := cell_later hb5 q0; have q1 := cell_later hb5 q1
  have hw5 := below_trans hw4 hb5
  have hS5 := hS4.below hb5; have hi3 := hi3.below hb5
  clear hL5 hS3 hS4 hiM1
  go_wp2_with fail
  refine (NeedX_ok _ exL exA exB _ hS5 exA_wf exB_wf).mono ?_
  rintro e w6 ⟨u6, rfl, hi6, hb6⟩
  rw [ex_e]
  rw [ex_need] at hi6
  have p0 := cell_later hb6 p0; have p1 := cell_later hb6 p1; have q0 := cell_later hb6 q0; have q1 := cell_later hb6 q1
  have hw6 := below_trans hw5 hb6
  have hS6 := hS5.below hb6; have hi3 := hi3.below hb6; have hi5 := hi5.below hb6
  obtain ⟨A6, c6, rfl, _⟩ := id hi6
  clear hS5 hi6
  go_wp2_with fail
  refine (LeastX_ok _ exL exA exA _ hS6 exA_wf exA_wf).mono ?_
  rintro e w7 ⟨u7, L7, rfl, hi7, hL7, hb7⟩
  obtain rfl := hL7.uniq ex_leastA
  rw [ex_eA]
  have p0 := cell_later hb7 p0; have p1 := cell_later hb7 p1; have q0 := cell_later hb7 q0; have q1 := cell_later hb7 q1
  have hw7 := below_trans hw6 hb7
  have hS7 := hS6.below hb7; have hi3 := hi3.below hb7; have hi5 := hi5.below hb7
  clear hS6 hL7
  go_wp2_with fail
  refine (before0_ok _ 4 exL 2 4 1 0 _ hS7 ex_check (by decide) ex_noarcs (by decide) (by decide) (by decide)).mono ?_
  rintro e w8 ⟨rfl, hb8⟩
  have p0 := cell_later hb8 p0; have p1 := cell_later hb8 p1; have q0 := cell_later hb8 q0; have q1 := cell_later hb8 q1
  have hw8 := below_trans hw7 hb8
  have hS8 := hS7.below hb8; have hi3 := hi3.below hb8; have hi5 := hi5.below hb8; have hi7 := hi7.below hb8
  clear hS7
  go_wp2_with fail
  refine (refutes0_ok _ 4 exL _ hS8 ex_check (by decide) ex_noarcs).mono ?_
  rintro e w9 ⟨rfl, hb9⟩
  have p0 := cell_later hb9 p0; have p1 := cell_later hb9 p1; have q0 := cell_later hb9 q0; have q1 := cell_later hb9 q1
  have hw9 := below_trans hw8 hb9
  have hS9 := hS8.below hb9; have hi3 := hi3.below hb9; have hi5 := hi5.below hb9; have hi7 := hi7.below hb9
  clear hS8
  go_wp2_with fail
  obtain ⟨M2, hM2⟩ : ∃ z, World.alloc w9 (.cells (#[.int .i64 2, .int .i64 7]) 3) = z := ⟨_, rfl⟩
  rw [hM2]
  have hkM2 : M2.heap[w9.heap.size]? = some (.cells (([2, 7] : List Int).flatMap encI).toArray 3 (0, 0)) := by rw [← hM2]; exact heap_alloc_new _ _
  have hbM2 : Below w9.heap.size w9 M2 := by rw [← hM2]; exact (Below.refl _ _).alloc (Nat.le_refl _) _
  have hiM2 : Ints M2 (.slice (some ⟨w9.heap.size, 0, none⟩) (2) (2)) [2, 7] := slOf_blk lenI hkM2 rfl (by decide) (by decide)
  clear hkM2 hM2
  refine (baseInts_ok _ _ _ _ M2 (hi3.below hbM2) hiM2).mono ?_
  rintro e wa ⟨rfl, hba⟩
  have hba' := below_trans hbM2 hba
  have p0 := cell_later hba' p0; have p1 := cell_later hba' p1; have q0 := cell_later hba' q0; have q1 := cell_later hba' q1
  have hwa := below_trans hw9 hba'
  have hSa := hS9.below hba'; have hi5 := hi5.below hba'; have hi7 := hi7.below hba'
  clear hS9 hi3 hiM2
  go_wp2_with fail
  obtain ⟨M3, hM3⟩ : ∃ z, World.alloc wa (.cells (#[.int .i64 4, .int .i64 9]) 3) = z := ⟨_, rfl⟩
  rw [hM3]
  have hkM3 : M3.heap[wa.heap.size]? = some (.cells (([4, 9] : List Int).flatMap encI).toArray 3 (0, 0)) := by rw [← hM3]; exact heap_alloc_new _ _
  have hbM3 : Below wa.heap.size wa M3 := by rw [← hM3]; exact (Below.refl _ _).alloc (Nat.le_refl _) _
  have hiM3 : Ints M3 (.slice (some ⟨wa.heap.size, 0, none⟩) (2) (2)) [4, 9] := slOf_blk lenI hkM3 rfl (by decide) (by decide)
  clear hkM3 hM3
  refine (baseInts_ok _ _ _ _ M3 (hi5.below hbM3) hiM3).mono ?_
  rintro e wb ⟨rfl, hbb⟩
  have hbb' := below_trans hbM3 hbb
  have p0 := cell_later hbb' p0; have p1 := cell_later hbb' p1; have q0 := cell_later hbb' q0; have q1 := cell_later hbb' q1
  have hwb := below_trans hwa hbb'
  have hSb := hSa.below hbb'; have hi7 := hi7.below hbb'
  clear hSa hi5 hiM3
  go_wp2_with fail
  obtain ⟨M4, hM4⟩ : ∃ z, World.alloc wb (.cells (#[.int .i64 2]) 3) = z := ⟨_, rfl⟩
  rw [hM4]
  have hkM4 : M4.heap[wb.heap.size]? = some (.cells (([2] : List Int).flatMap encI).toArray 3 (0, 0)) := by rw [← hM4]; exact heap_alloc_new _ _
  have hbM4 : Below wb.heap.size wb M4 := by rw [← hM4]; exact (Below.refl _ _).alloc (Nat.le_refl _) _
  have hiM4 : Ints M4 (.slice (some ⟨wb.heap.size, 0, none⟩) (1) (1)) [2] := slOf_blk lenI hkM4 rfl (by decide) (by decide)
  clear hkM4 hM4
  refine (baseInts_ok _ _ _ _ M4 (hi7.below hbM4) hiM4).mono ?_
  rintro e wc ⟨rfl, hbc⟩
  have hbc' := below_trans hbM4 hbc
  have p0 := cell_later hbc' p0; have p1 := cell_later hbc' p1; have q0 := cell_later hbc' q0; have q1 := cell_later hbc' q1
  have hwc := below_trans hwb hbc'
  have hSc := hSb.below hbc'
  clear hSb hi7 hiM4
  go_wp2_with fail
  obtain ⟨M5, hM5⟩ : ∃ z, World.alloc wc (.cells (#[.int .i64 2, .int .i64 4, .int .i64 7]) 3) = z := ⟨_, rfl⟩
  rw [hM5]
  have hkM5 : M5.heap[wc.heap.size]? = some (.cells (([2, 4, 7] : List Int).flatMap encI).toArray 3 (0, 0)) := by rw [← hM5]; exact heap_alloc_new _ _
  have hbM5 : Below wc.heap.size wc M5 := by rw [← hM5]; exact (Below.refl _ _).alloc (Nat.le_refl _) _
  have hiM5 : Ints M5 (.slice (some ⟨wc.heap.size, 0, none⟩) (3) (3)) [2, 4, 7] := slOf_blk lenI hkM5 rfl (by decide) (by decide)
  clear hkM5 hM5
  have hSm := hSc.below hbM5
  refine (IsE_ok _ _ exL exA exB [2, 4, 7] M5 hSm hiM5 exA_wf exB_wf (by decide)).mono ?_
  rintro e wd ⟨rfl, hbd⟩
  rw [ex_is]
  have hbd' := below_trans hbM5 hbd
  have p0 := cell_later hbd' p0; have p1 := cell_later hbd' p1; have q0 := cell_later hbd' q0; have q1 := cell_later hbd' q1
  have hwd := below_trans hwc hbd'
  have hSd := hSc.below hbd'
  clear hSc hiM5 hSm
  go_wp2_with fail
  obtain ⟨M6, hM6⟩ : ∃ z, World.alloc wd (.cells (#[.int .i64 2, .int .i64 4, .int .i64 7]) 3) = z := ⟨_, rfl⟩
  rw [hM6]
  have hkM6 : M6.heap[wd.heap.size]? = some (.cells (([2, 4, 7] : List Int).flatMap encI).toArray 3 (0, 0)) := by rw [← hM6]; exact heap_alloc_new _ _
  have hbM6 : Below wd.heap.size wd M6 := by rw [← hM6]; exact (Below.refl _ _).alloc (Nat.le_refl _) _
  have hiM6 : Ints M6 (.slice (some ⟨wd.heap.size, 0, none⟩) (3) (3)) [2, 4, 7] := slOf_blk lenI hkM6 rfl (by decide) (by decide)
  clear hkM6 hM6
  refine (MinE_ok _ _ exL exA exB [2, 4, 7] M6 (hSd.below hbM6) hiM6 exA_wf exB_wf (by decide) (by decide)).mono ?_
  rintro e we ⟨rfl, hbe⟩
  rw [ex_min]
  go_wp2_with fail
  go_ret
  exact ⟨rfl, below_trans hwd (below_trans hbM6 hbe)⟩
end Go.Proofs.YtlmjncncmgmehaaGreat
/- Chapter 51's laws: two dies as an array, read; the heads. No condition. -/
namespace Go.Proofs.YtlmjncncmgmehaaGreat
open Go.RowKit Go.ChangeShapes Go.WideShapes Go.Deep

section
variable {H : Type} {enc : TypeId × Value → H} {P : Program} {w : World} {base : Nat} {spare : Nat → Bool} {held : Bool}
theorem okWide_arr {r : Reach} {b0 n : Nat} {t e : TypeId} {v : Value} (ht : P.underlying t = some (.array n e)) (h : Value.okWide P w r b0 t v) : ∃ cs, v = .agg cs ∧ cs.size = P.cellsOf t := by
  unfold Value.okWide at h
  simp only [ht] at h
  obtain ⟨cs, h1, h2, _⟩ := h
  exact ⟨cs, h1, h2⟩
set_option maxRecDepth 100000 in
theorem die_elem {n : Nat} {a b : Value} {y : DataW H × List MemPlace} (h : DataW.trod enc Tryz.prog w base spare held n 24 [a, b] = some y) : ∃ x : Die, a = .int .i64 x.side ∧ b = .int .i64 x.num ∧ wfI x.side ∧ wfI x.num := by
  obtain ⟨y0, y1, m, _, _, h0, h1⟩ := trod_struct2 Tryz.underlying24 h
  have cI : Tryz.prog.cellsOf 3 = 1 := by kernel_rfl
  have h0' : DataW.trod enc Tryz.prog w base spare held m 3 ((List.drop 0 [a, b]).take (Tryz.prog.cellsOf 3)) = some y0 := h0
  have h1' : DataW.trod enc Tryz.prog w base spare held m 3 ((List.drop 1 [a, b]).take (Tryz.prog.cellsOf 3)) = some y1 := h1
  rw [cI] at h0' h1'
  obtain ⟨s, e1, _, w1⟩ := DataW.trod_int Tryz.underlying3 h0'
  obtain ⟨k, e2, _, w2⟩ := DataW.trod_int Tryz.underlying3 h1'
  simp at e1 e2
  exact ⟨⟨s, k⟩, e1, e2, w1, w2⟩
set_option maxRecDepth 100000 in
theorem opens_dd {r : Reach} {b0 : Nat} {v : Value} {d : DataW H} {p : List MemPlace} (hv : Value.okWide Tryz.prog w r b0 25 v) (h : DataW.Trod enc Tryz.prog w base spare held 25 v d p) :
    ∃ x y : Die, v = .agg #[.int .i64 x.side, .int .i64 x.num, .int .i64 y.side, .int .i64 y.num] ∧ (wfI x.side ∧ wfI x.num) ∧ wfI y.side ∧ wfI y.num := by
  have c4 : Tryz.prog.cellsOf 25 = 4 := by kernel_rfl
  have c2 : Tryz.prog.cellsOf 24 = 2 := by kernel_rfl
  obtain ⟨cs, rfl, hsz⟩ := okWide_arr Tryz.underlying25 hv
  rw [c4] at hsz
  obtain ⟨fuel, hf⟩ := h
  obtain ⟨L, hL⟩ : ∃ L, cs = L.toArray := ⟨cs.toList, by simp⟩
  subst hL
  have hf' : DataW.trod enc Tryz.prog w base spare held fuel 25 L = some (d, p) := by simpa [Value.cells] using hf
  obtain ⟨xs, m, _, _, _, hl, hel⟩ := DataW.trod_array Tryz.underlying25 hf'
  rw [c2] at hel
  have hsz' : L.length = 4 := by simpa using hsz
  match L, hsz' with
  | [a, b, c, e], _ =>
    have h0 : DataW.trod enc Tryz.prog w base spare held m 24 [a, b] = xs[0]? := hel 0 (by omega)
    have h1 : DataW.trod enc Tryz.prog w base spare held m 24 [c, e] = xs[1]? := hel 1 (by omega)
    rw [List.getElem?_eq_getElem (by omega)] at h0 h1
    obtain ⟨x, rfl, rfl, x1, x2⟩ := die_elem h0
    obtain ⟨y, rfl, rfl, y1, y2⟩ := die_elem h1
    exact ⟨x, y, rfl, ⟨x1, x2⟩, y1, y2⟩
end
end Go.Proofs.YtlmjncncmgmehaaGreat
