/- cover.order, of, list. Condition: the arguments read as pairs and maps. -/
import Derived.Test.YtnaoiochfdipiaaPairA
import Derived.Test.YtnaoiochfdipiaaKuhnC
import Derived.Test.YtnaoiochfdipiaaMapK
import Derived.Test.YtnaoiochfdipiaaQTail
import Derived.Test.YtnaoiochfdipiaaTail
namespace Go.Proofs.Ytnaoiochfdipiaa
open Go.RowKit Go.Shelf

set_option maxHeartbeats 2000000 in
set_option maxRecDepth 100000 in
theorem order_ok (x y : Pair) (W : World) : Calls Try.prog 39 #[valP x, valP y] W fun e w' => e = .returned (.int .i64 (cmpP x y)) ∧ ∃ q os', w' = Go.Sort.grow (W.drewN q) os' := by
  have hca := fun W' => AnyG.cmp_Compare_int Try.layCmp x.a y.a W'
  have hcb := fun W' => AnyG.cmp_Compare_int Try.layCmp x.b y.b W'
  change ∀ W', Calls Try.prog 52 _ _ _ at hca
  change ∀ W', Calls Try.prog 52 _ _ _ at hcb
  unfold cmpP
  generalize Lib.compareInt x.a y.a = r at hca ⊢
  generalize Lib.compareInt x.b y.b = s at hcb ⊢
  go_enter Try.func39, Try.ntmps39
  go_wp2_with fail
  obtain ⟨W0, hW0, Hz0, hb0, hlt0, hc0⟩ := boxed W #[.int .i64 x.a, .int .i64 x.b] 48
  obtain ⟨W1, hW1, Hz1, hb1, hlt1, hc1⟩ := boxed W0 #[.int .i64 y.a, .int .i64 y.b] 48
  have a0 : W1.drew.cell? _ = _ := cell_later hb1.drew (hc0 0 _ rfl); have a1 : W1.drew.cell? _ = _ := cell_later hb1.drew (hc0 1 _ rfl)
  have b0 : W1.drew.cell? _ = _ := hc1 0 _ rfl; have b1 : W1.drew.cell? _ = _ := hc1 1 _ rfl
  rw [Hz0.out] at b0 b1
  clear hc0 hc1
  have hgrow' : ∃ os', W1 = Go.Sort.grow W os' := ⟨_, by rw [← hW1, ← hW0, Go.Sort.alloc_eq_grow, Go.Sort.alloc_eq_grow, Go.Sort.grow_grow]⟩
  have hgrow := Lib.hid hgrow'; clear hgrow'
  rw [hW0, hW1]
  clear hW0 hW1
  refine wp_region_S 10 (fun w' => w' = W1.drew) (by kernel_rfl) (by decide) ?_
  have hHeld : W1.drew = W1.drew := rfl
  refine wpAnyS_take 0 (.pointer (some ⟨W.heap.size, 0, none⟩)) (by rfl) (by kernel_rfl) (by exact fun _ _ _ h => h) (by rfl) (fun w' hS => by (subst hS; go_simp)) hHeld ?_
  simp only [Act.put]
  refine wpAnyS_take 1 (.int .i64 x.a) (by rfl) (by kernel_rfl) (by exact fun _ _ _ h => h) (by rfl) (fun w' hS => by (subst hS; go_simp)) hHeld ?_
  simp only [Act.put]
  refine wpAnyS_take 2 (.pointer (some ⟨W.heap.size + 1, 0, none⟩)) (by rfl) (by kernel_rfl) (by exact fun _ _ _ h => h) (by rfl) (fun w' hS => by (subst hS; go_simp)) hHeld ?_
  simp only [Act.put]
  refine wpAnyS_take 3 (.int .i64 y.a) (by rfl) (by kernel_rfl) (by exact fun _ _ _ h => h) (by rfl) (fun w' hS => by (subst hS; go_simp)) hHeld ?_
  simp only [Act.put]
  refine wpAnyS_take 5 (.pointer (some ⟨W.heap.size, 1, none⟩)) (by rfl) (by kernel_rfl) (by exact fun _ _ _ h => h) (by rfl) (fun w' hS => by (subst hS; go_simp)) hHeld ?_
  simp only [Act.put]
  refine wpAnyS_take 6 (.int .i64 x.b) (by rfl) (by kernel_rfl) (by exact fun _ _ _ h => h) (by rfl) (fun w' hS => by (subst hS; go_simp)) hHeld ?_
  simp only [Act.put]
  refine wpAnyS_take 7 (.pointer (some ⟨W.heap.size + 1, 1, none⟩)) (by rfl) (by kernel_rfl) (by exact fun _ _ _ h => h) (by rfl) (fun w' hS => by (subst hS; go_simp)) hHeld ?_
  simp only [Act.put]
  refine wpAnyS_take 8 (.int .i64 y.b) (by rfl) (by kernel_rfl) (by exact fun _ _ _ h => h) (by rfl) (fun w' hS => by (subst hS; go_simp)) hHeld ?_
  simp only [Act.put]
  clear hHeld
  refine wpAnyS_one 4 (by kernel_rfl) (by rfl) (by decide) (fun K hK => ?_)
  have HK := Lib.hid hK; clear hK
  rw [if_pos (by rfl)]
  go_simp
  refine (hca _).mono ?_
  rintro e w2 ⟨rfl, rfl⟩
  refine HK.out _ _ rfl ?_
  clear HK
  refine wpAnyS_one 9 (by kernel_rfl) (by rfl) (by decide) (fun K hK => ?_)
  have HK := Lib.hid hK; clear hK
  rw [if_pos (by rfl)]
  go_simp
  refine (hcb _).mono ?_
  rintro e w2 ⟨rfl, rfl⟩
  refine HK.out _ _ rfl ?_
  clear HK
  refine (show tailOf _ _ _ _ _ _ _ _ from ⟨by kernel_rfl, ?_⟩)
  simp only [List.drop_succ_cons, List.drop_zero]
  go_wp2_with fail
  refine (Or_ok _ r s _ (by go_simp) (by go_simp)).mono ?_
  rintro e w3 ⟨rfl, rfl⟩
  go_wp2_with fail
  go_ret
  obtain ⟨os, hq⟩ := hgrow.out
  exact ⟨rfl, 1, _, by rw [hq, Go.Sort.alloc_eq_grow, Go.Sort.grow_grow]; rfl⟩
theorem order_lays (blk off size : Nat) (w : World) : CmpLays Try.prog 39 #[] encP 2 cmpP blk off size w := fun _ _ _ _ x y => order_ok x y _
set_option maxHeartbeats 2000000 in
theorem sortOrder_ok (B : Nat) (v : Value) (zs : List Pair) (w : World) (h : OwnP B w v zs) (hn : zs.length ≤ 1048576) :
    Calls Try.prog 53 #[v, .func (.func 39) #[] #[]] w fun e w' => e = .returned (.tuple #[]) ∧ ∃ ys, OwnP B w' v ys ∧ ByPair zs ys ∧ ys.length = zs.length ∧ w.grownBy w' v.ownBlock := by
  have eg : ∀ args w, (callFunc 39 args).run Try.prog w = .ok (.enter 39 args) w := enters_of Try.func39 (by kernel_rfl) rfl
  rcases h.cases with ⟨rfl, rfl⟩ | ⟨g, cap, rfl, hg, hgw, _, _⟩
  · refine (show Calls Try.prog 53 _ w _ from AnyF.slices_SortFunc_none Try.laySortP none 0 _ w).mono ?_
    rintro e w' ⟨rfl, rfl⟩
    exact ⟨rfl, [], h, ⟨List.Perm.refl _, List.Pairwise.nil⟩, rfl, World.grownBy.refl _ _⟩
  · have hH := h.holdsK rfl lenP
    refine (show Calls Try.prog 53 _ w _ from AnyQ.slices_SortFunc Try.laySortP 2 Try.isAgg48 Try.sizeOf48 encP lenP oneP cmpP cmpP_swo 39 #[] g 0 cap zs.toArray w eg (order_lays g 0 _ w) hH hgw (by simp; omega)).mono ?_
    rintro e w' ⟨rfl, d', n, os, hp, hs, rfl⟩
    obtain ⟨hby, hl⟩ := byPair_of hp hs
    exact ⟨rfl, d'.toList, h.sorted rfl lenP hl, hby, hl, Own.grown encP 2 (ys := d'.toList)⟩

/-- The two maps of a matching. -/
structure StAt (w : World) (bo br : Nat) (s : St) : Prop where
  o : MapII w bo s.obv
  r : MapII w br s.rev
  ne : bo ≠ br
section
variable {w w' : World} {bo br : Nat} {s : St}
theorem StAt.below (h : StAt w bo br s) (hb : Below w.heap.size w w') : StAt w' bo br s := ⟨h.o.below hb, h.r.below hb, h.ne⟩
theorem StAt.kept {row : Option Nat} (h : StAt w bo br s) (hg : w.grownBy w' row) (h1 : some bo ≠ row) (h2 : some br ≠ row) : StAt w' bo br s := ⟨h.o.kept hg h1, h.r.kept hg h2, h.ne⟩
/-- Both maps written, one behind the other. -/
theorem StAt.set (h : StAt w bo br s) {o r : Int} (ho : wfI o) (hr : wfI r) (h1 : s.obv.length < maxLen) (h2 : s.rev.length < maxLen) :
    ∃ w1 w2, (Instr.mapUpdate 60 (.map (some bo)) (.int .i64 o) (.int .i64 r)).run Try.prog w = .ok () w1 ∧ (Instr.mapUpdate 60 (.map (some br)) (.int .i64 r) (.int .i64 o)).run Try.prog w1 = .ok () w2 ∧
      StAt w2 bo br (s.set o r) ∧ w.grownBy w1 (some bo) ∧ w1.grownBy w2 (some br) := by
  obtain ⟨w1, a1, a2, a3⟩ := h.o.put ho hr h1
  obtain ⟨w2, b1, b2, b3⟩ := (h.r.kept a3 (fun e => h.ne (Option.some.inj e).symm)).put hr ho h2
  exact ⟨w1, w2, a1, b1, ⟨a2.kept b3 (fun e => h.ne (Option.some.inj e)), b2, h.ne⟩, a3, b3⟩
end
theorem infoM2 : (Try.prog.info? 62).map (·.size) = some 2 := by kernel_rfl
def ofS (l : List Pair) : St := l.foldl (fun s p => s.set p.a p.b) ⟨[], [], []⟩
theorem ofS_snoc {l : List Pair} {k : Nat} {p : Pair} (h : l[k]? = some p) : ofS (l.take (k + 1)) = (ofS (l.take k)).set p.a p.b := by
  unfold ofS
  rw [take_snoc' h, List.foldl_append]
  rfl
theorem set_len (s : St) (o r : Int) : (s.set o r).obv.length ≤ s.obv.length + 1 ∧ (s.set o r).rev.length ≤ s.rev.length + 1 := by
  unfold St.set
  constructor
  · simp only; rw [putM_len]; split <;> omega
  · simp only; rw [putM_len]; split <;> omega
theorem ofS_len (l : List Pair) : (ofS l).obv.length ≤ l.length ∧ (ofS l).rev.length ≤ l.length := by
  have : ∀ (l : List Pair) (s : St), (l.foldl (fun s p => s.set p.a p.b) s).obv.length ≤ s.obv.length + l.length ∧ (l.foldl (fun s p => s.set p.a p.b) s).rev.length ≤ s.rev.length + l.length := by
    intro l
    induction l with
    | nil => intro s; simp
    | cons p l ih =>
      intro s
      have h1 := ih (s.set p.a p.b)
      have h2 := set_len s p.a p.b
      simp only [List.foldl_cons, List.length_cons]
      omega
  have := this l ⟨[], [], []⟩
  unfold ofS
  simpa using this
theorem heap_set2 {w : World} {g : Nat} {a b x y : Value} {t : TypeId} (h : w.heap[g]? = some (.cells #[a, b] t (0, 0))) :
    ((w.setCell ⟨g, 0, none⟩ x).setCell ⟨g, 1, none⟩ y).heap[g]? = some (.cells #[x, y] t (0, 0)) := by
  have h1 := heap_setCell_same w g 0 _ _ x h
  have h2 := heap_setCell_same _ g 1 _ _ y h1
  simpa using h2
theorem blk2 {w : World} {g : Nat} {a b : Value} {t : TypeId} (h : w.heap[g]? = some (.cells #[a, b] t (0, 0))) :
    w.cell? ⟨g, 0, none⟩ = some a ∧ w.cell? ⟨g, 1, none⟩ = some b ∧ w.frozen? ⟨g, 0, none⟩ = false ∧ w.frozen? ⟨g, 1, none⟩ = false := ⟨heap_cell h, heap_cell h, heap_free h, heap_free h⟩
theorem set2_grown (w : World) (g : Nat) (x y : Value) : w.grownBy ((w.setCell ⟨g, 0, none⟩ x).setCell ⟨g, 1, none⟩ y) (some g) := setCells_grown g [x, y] w 0

/-- While of runs: the result's block, the maps behind it, the local struct. -/
structure OfSt (w wr : World) (s : St) : Prop where
  r : wr.heap[w.heap.size]? = some (.cells #[.map none, .map none] 62 (0, 0))
  m : wr.heap[w.heap.size + 1 + 1 + 1]? = some (.cells #[.map (some (w.heap.size + 1)), .map (some (w.heap.size + 1 + 1))] 62 (0, 0))
  st : StAt wr (w.heap.size + 1) (w.heap.size + 1 + 1) s
  b : Below w.heap.size w wr
theorem OfSt.later {w wr w' : World} {s : St} (h : OfSt w wr s) (hb : Below wr.heap.size wr w') : OfSt w w' s := ⟨heap_below h.r hb (heap_lt h.r), heap_below h.m hb (heap_lt h.m), h.st.below hb, h.b.trans (hb.mono h.b.size)⟩
theorem of_start (w : World) : OfSt w ((((w.alloc (.cells #[.map none, .map none] 62)).alloc (.map #[] 0)).alloc (.map #[] 0)).alloc (.cells #[.map (some (w.heap.size + 1)), .map (some (w.heap.size + 1 + 1))] 62)) ⟨[], [], []⟩ := by
  obtain ⟨W1, h1⟩ : ∃ W, w.alloc (.cells #[.map none, .map none] 62) = W := ⟨_, rfl⟩
  have z1 : W1.heap.size = w.heap.size + 1 := by rw [← h1]; simp
  have c1 : W1.heap[w.heap.size]? = some (.cells #[.map none, .map none] 62 (0, 0)) := by rw [← h1]; exact heap_alloc_new _ _
  have b1 : Below w.heap.size w W1 := by rw [← h1]; exact (Below.refl _ _).alloc (Nat.le_refl _) _
  rw [h1]
  obtain ⟨W2, h2⟩ : ∃ W, W1.alloc (.map #[] 0) = W := ⟨_, rfl⟩
  have z2 : W2.heap.size = w.heap.size + 1 + 1 := by rw [← h2]; simp [z1]
  have m2 : MapII W2 (w.heap.size + 1) [] := by rw [← z1, ← h2]; exact mapII_made W1
  have b2 : Below W1.heap.size W1 W2 := by rw [← h2]; exact (Below.refl _ _).alloc (Nat.le_refl _) _
  rw [h2]
  obtain ⟨W3, h3⟩ : ∃ W, W2.alloc (.map #[] 0) = W := ⟨_, rfl⟩
  have z3 : W3.heap.size = w.heap.size + 1 + 1 + 1 := by rw [← h3]; simp [z2]
  have m3 : MapII W3 (w.heap.size + 1 + 1) [] := by rw [← z2, ← h3]; exact mapII_made W2
  have b3 : Below W2.heap.size W2 W3 := by rw [← h3]; exact (Below.refl _ _).alloc (Nat.le_refl _) _
  rw [h3]
  obtain ⟨W4, h4⟩ : ∃ W, W3.alloc (.cells #[.map (some (w.heap.size + 1)), .map (some (w.heap.size + 1 + 1))] 62) = W := ⟨_, rfl⟩
  have c4 : W4.heap[w.heap.size + 1 + 1 + 1]? = some (.cells #[.map (some (w.heap.size + 1)), .map (some (w.heap.size + 1 + 1))] 62 (0, 0)) := by rw [← z3, ← h4]; exact heap_alloc_new _ _
  have b4 : Below W3.heap.size W3 W4 := by rw [← h4]; exact (Below.refl _ _).alloc (Nat.le_refl _) _
  rw [h4]
  have b14 := below_trans b2 (below_trans b3 b4)
  exact ⟨heap_below c1 b14 (heap_lt c1), c4, ⟨m2.below (below_trans b3 b4), m3.below b4, by omega⟩, below_trans b1 b14⟩

set_option maxHeartbeats 4000000 in
set_option maxRecDepth 100000 in
theorem of_ok (v : Value) (l : List Pair) (w : World) (h : Pairs w v l) (hwf : ∀ p ∈ l, wfI p.a ∧ wfI p.b) :
    Calls Try.prog 40 #[v] w fun e w' => ∃ bo br, e = .returned (.agg #[.map (some bo), .map (some br)]) ∧ StAt w' bo br (ofS l) ∧ w.heap.size ≤ bo ∧ w.heap.size ≤ br ∧ Below w.heap.size w w' := by
  obtain ⟨A, c, rfl, h1, h2, hc⟩ := h.cells
  have hmm := @run_makeMap Try.prog
  go_enter Try.func40, Try.ntmps40
  go_wp2
  clear hmm
  go_loopw [11] (fun i wr => ∃ k : Nat, k ≤ l.length ∧ i = .int .i64 k ∧ OfSt w wr (ofS (l.take k))) (fun i _ => l.length - (intOf i).toNat)
  case atStart => exact ⟨0, Nat.zero_le _, rfl, of_start w⟩
  case round =>
    obtain ⟨k, hk, rfl, hm⟩ := hrel
    by_cases hlt : k < l.length
    · obtain ⟨b, o, rfl, hbb, hc⟩ := hc k hlt
      obtain ⟨p, hp⟩ := get_of_lt hlt
      obtain ⟨c0, c1⟩ := hc wr hm.b k p hp
      have hw := hwf p (List.mem_of_getElem? hp)
      obtain ⟨W1, hW1, Hz1, hb1, hlt1, hc1⟩ := boxed wr #[.int .i64 p.a, .int .i64 p.b] 48
      have hp1 : W1.heap[wr.heap.size]? = some (.cells #[.int .i64 p.a, .int .i64 p.b] 48 (0, 0)) := by rw [← hW1]; exact heap_alloc_new _ _
      have hm1 := hm.later hb1
      have Hp := Lib.hid hp
      have Hm := Lib.hid hm; have Hm1 := Lib.hid hm1
      have hol := ofS_len (l.take k)
      rw [List.length_take] at hol
      clear hp hc hc1 hm hm1
      go_wp2_with fail
      refine wp_region_S 13 (fun w' => w'.heap[wr.heap.size]? = some (.cells #[.int .i64 p.a, .int .i64 p.b] 48 (0, 0)) ∧ w'.heap[w.heap.size + 1 + 1 + 1]? = some (.cells #[.map (some (w.heap.size + 1)), .map (some (w.heap.size + 1 + 1))] 62 (0, 0))) (by kernel_rfl) (by decide) ?_
      have hba : Below W1.heap.size W1 W1.drew := (Below.refl _ _).drew
      obtain ⟨wa, hwa⟩ : ∃ W, W1.drew = W := ⟨_, rfl⟩
      rw [hwa] at hba ⊢
      have hHeld : wa.heap[wr.heap.size]? = some (.cells #[.int .i64 p.a, .int .i64 p.b] 48 (0, 0)) ∧ wa.heap[w.heap.size + 1 + 1 + 1]? = some (.cells #[.map (some (w.heap.size + 1)), .map (some (w.heap.size + 1 + 1))] 62 (0, 0)) := ⟨heap_below hp1 hba (heap_lt hp1), heap_below Hm1.out.m hba (heap_lt Hm1.out.m)⟩
      clear hwa hW1 hp1 c0 c1
      obtain ⟨w1, w2, u1, u2, hst, g1, g2⟩ := (Hm1.out.later hba).st.set hw.1 hw.2 (by simp only [maxLen]; omega) (by simp only [maxLen]; omega)
      rw [← ofS_snoc Hp.out] at hst
      refine wpAnyS_take 0 (.pointer (some ⟨w.heap.size + 1 + 1 + 1, 0, none⟩)) (by rfl) (by kernel_rfl) (by exact fun _ _ _ h => h) (by rfl) (fun w' hS => by go_simp) hHeld ?_
      simp only [Act.put]
      refine wpAnyS_take 1 (.map (some (w.heap.size + 1))) (by rfl) (by kernel_rfl) (by exact fun _ _ _ h => h) (by rfl) (fun w' hS => by (have g0 := heap_cell (i := 0) hS.2; go_simp)) hHeld ?_
      simp only [Act.put]
      refine wpAnyS_take 2 (.pointer (some ⟨wr.heap.size, 0, none⟩)) (by rfl) (by kernel_rfl) (by exact fun _ _ _ h => h) (by rfl) (fun w' hS => by go_simp) hHeld ?_
      simp only [Act.put]
      refine wpAnyS_take 3 (.int .i64 p.a) (by rfl) (by kernel_rfl) (by exact fun _ _ _ h => h) (by rfl) (fun w' hS => by (have g0 := heap_cell (i := 0) hS.1; go_simp)) hHeld ?_
      simp only [Act.put]
      refine wpAnyS_take 4 (.pointer (some ⟨w.heap.size + 1 + 1 + 1, 1, none⟩)) (by rfl) (by kernel_rfl) (by exact fun _ _ _ h => h) (by rfl) (fun w' hS => by go_simp) hHeld ?_
      simp only [Act.put]
      refine wpAnyS_take 5 (.map (some (w.heap.size + 1 + 1))) (by rfl) (by kernel_rfl) (by exact fun _ _ _ h => h) (by rfl) (fun w' hS => by (have g0 := heap_cell (i := 1) hS.2; go_simp)) hHeld ?_
      simp only [Act.put]
      refine wpAnyS_take 6 (.pointer (some ⟨wr.heap.size, 1, none⟩)) (by rfl) (by kernel_rfl) (by exact fun _ _ _ h => h) (by rfl) (fun w' hS => by go_simp) hHeld ?_
      simp only [Act.put]
      refine wpAnyS_take 7 (.int .i64 p.b) (by rfl) (by kernel_rfl) (by exact fun _ _ _ h => h) (by rfl) (fun w' hS => by (have g0 := heap_cell (i := 1) hS.1; go_simp)) hHeld ?_
      simp only [Act.put]
      refine wpAnyS_take 8 (.pointer (some ⟨wr.heap.size, 1, none⟩)) (by rfl) (by kernel_rfl) (by exact fun _ _ _ h => h) (by rfl) (fun w' hS => by go_simp) hHeld ?_
      simp only [Act.put]
      refine wpAnyS_take 9 (.int .i64 p.b) (by rfl) (by kernel_rfl) (by exact fun _ _ _ h => h) (by rfl) (fun w' hS => by (have g0 := heap_cell (i := 1) hS.1; go_simp)) hHeld ?_
      simp only [Act.put]
      refine wpAnyS_take 10 (.pointer (some ⟨wr.heap.size, 0, none⟩)) (by rfl) (by kernel_rfl) (by exact fun _ _ _ h => h) (by rfl) (fun w' hS => by go_simp) hHeld ?_
      simp only [Act.put]
      refine wpAnyS_take 11 (.int .i64 p.a) (by rfl) (by kernel_rfl) (by exact fun _ _ _ h => h) (by rfl) (fun w' hS => by (have g0 := heap_cell (i := 0) hS.1; go_simp)) hHeld ?_
      simp only [Act.put]
      refine wpAnyS_one 12 (by kernel_rfl) (by rfl) (by decide) (fun K hK => ?_)
      have HK := Lib.hid hK; clear hK
      rw [if_pos (by rfl)]
      go_simp
      have hx : w.heap.size + 1 < wr.heap.size := by have := heap_lt Hm.out.m; omega
      refine HK.out _ _ ⟨(g1.block _ (heap_lt hHeld.1) (fun e => absurd (Option.some.inj e) (by omega))).trans hHeld.1, (g1.block _ (heap_lt hHeld.2) (fun e => absurd (Option.some.inj e) (by omega))).trans hHeld.2⟩ ?_
      clear HK hHeld hx
      refine (show tailOf _ _ _ _ _ _ _ _ from ⟨by kernel_rfl, ?_⟩)
      simp only [List.drop_succ_cons, List.drop_zero]
      have hOf : Hid (OfSt w w2 (ofS (l.take (k + 1)))) := by
        have ha := Hm1.out.later hba
        have hz := ha.b.size
        refine ⟨?_, ?_, hst, (ha.b.grown g1 hz (fun j e => by cases e; omega)).grown g2 (by have := g1.size; omega) (fun j e => by cases e; omega)⟩
        · rw [g2.block _ (by have := g1.size; have := heap_lt ha.r; omega) (fun e => absurd (Option.some.inj e) (by omega)), g1.block _ (heap_lt ha.r) (fun e => absurd (Option.some.inj e) (by omega))]; exact ha.r
        · rw [g2.block _ (by have := g1.size; have := heap_lt ha.m; omega) (fun e => absurd (Option.some.inj e) (by omega)), g1.block _ (heap_lt ha.m) (fun e => absurd (Option.some.inj e) (by omega))]; exact ha.m
      clear hst g1 g2 u1
      go_wp2_with fail
      refine ⟨?rel, ?measure⟩
      case rel => exact ⟨k + 1, by omega, by go_num, hOf.out⟩
      case measure => first | (simp [intOf]; done) | (simp [intOf]; omega)
    · have e1 : l.take k = l := List.take_of_length_le (by omega)
      rw [e1] at hm
      clear e1 hc
      have Hm := Lib.hid hm; clear hm
      obtain ⟨r0, r1, q0, q1⟩ := blk2 Hm.out.r
      obtain ⟨n0, n1, _, _⟩ := blk2 Hm.out.m
      go_wp2_with fail
      refine bodyPost_ret (results_cell_row rfl _ _ w.heap.size 62 #[.map (some (w.heap.size + 1)), .map (some (w.heap.size + 1 + 1))] (0, 0) _ (by simp) (heap_set2 Hm.out.r) Try.underlying62 rfl infoM2) rfl
        ⟨_, _, rfl, Hm.out.st.kept (set2_grown _ _ _ _) (fun e => absurd (Option.some.inj e) (by omega)) (fun e => absurd (Option.some.inj e) (by omega)), by omega, by omega, Hm.out.b.grown (set2_grown _ _ _ _) Hm.out.b.size (fun j e => by cases e; exact Nat.le_refl _)⟩
end Go.Proofs.Ytnaoiochfdipiaa
