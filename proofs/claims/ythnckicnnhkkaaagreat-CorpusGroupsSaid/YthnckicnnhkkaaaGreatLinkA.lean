/- slices.Sort, Compact and BinarySearch at numbers of the call's own; linkage.with. Condition: the argument reads as a list of links. -/
import Derived.Test.YthnckicnnhkkaaaGreatShelf
import Derived.Test.YthnckicnnhkkaaaGreatOwn
import Derived.Test.YthnckicnnhkkaaaGreatRefA
import Derived.Test.YthnckicnnhkkaaaGreatTail
namespace Go.Proofs.YthnckicnnhkkaaaGreat
open Go.RowKit Go.Shelf

def sortI (xs : List Int) : List Int := xs.mergeSort fun x y => decide (x ≤ y)
theorem sortI_len (xs : List Int) : (sortI xs).length = xs.length := by simp [sortI]
theorem compact_sortI (l : List Int) : Lib.compact (sortI l) = withs l := compact_sorted l
theorem sortI_ok (B : Nat) (v : Value) (xs : List Int) (w : World) (h : OwnI B w v xs) (hn : xs.length ≤ 1048576) :
    Calls Tryz.prog 159 #[v] w fun e w' => e = .returned (.tuple #[]) ∧ OwnI B w' v (sortI xs) ∧ w.grownBy w' v.ownBlock := by
  rcases h.cases with ⟨rfl, rfl⟩ | ⟨g, cap, rfl, hg, hgw, _, _⟩
  · refine (show Calls Tryz.prog 159 _ w _ from AnyM.slices_Sort_int_none Tryz.laySort none 0 w).mono ?_
    rintro e w' ⟨rfl, rfl⟩
    exact ⟨rfl, by simpa [sortI] using h, World.grownBy.refl _ _⟩
  · refine (show Calls Tryz.prog 159 _ w _ from AnyM.slices_Sort_int Tryz.laySort g 0 cap xs w (own_holdsI h rfl) hgw (by omega)).mono ?_
    rintro e w' ⟨rfl, n, os, rfl⟩
    have := own_sortedI (q := n) (os := os) h rfl (ys := sortI xs) (sortI_len xs)
    exact ⟨rfl, this.1, this.2⟩
theorem compactUpTo_len {α : Type} [Inhabited α] [DecidableEq α] (d : Array α) : ∀ m, (Lib.compactUpTo d m).length ≤ m
  | 0 => by simp [Lib.compactUpTo]
  | m + 1 => by
    rw [Lib.compactUpTo_succ, List.length_append]
    have := compactUpTo_len d m
    split <;> simp <;> omega
theorem compact_len {α : Type} [Inhabited α] [DecidableEq α] (xs : List α) : (Lib.compact xs).length ≤ xs.length := compactUpTo_len _ _
theorem compactI_ok (B : Nat) (v : Value) (xs : List Int) (w : World) (h : OwnI B w v xs) (hn : xs.length ≤ 1048576) :
    Calls Tryz.prog 160 #[v] w fun e w' => ∃ u, e = .returned u ∧ OwnI B w' u (Lib.compact xs) ∧ u.ownBlock = v.ownBlock ∧ w.grownBy w' v.ownBlock := by
  rcases h.cases with ⟨rfl, rfl⟩ | ⟨g, cap, rfl, hg, hgw, hcap, _⟩
  · refine (show Calls Tryz.prog 160 _ w _ from AnyG.slices_Compact_int_empty Tryz.layCompact none 0 w).mono ?_
    rintro e w' ⟨rfl, rfl⟩
    exact ⟨_, rfl, by simpa [Lib.compact, Lib.compactUpTo] using h, rfl, World.grownBy.refl _ _⟩
  · refine (show Calls Tryz.prog 160 _ w _ from AnyG.slices_Compact_int Tryz.layCompact g 0 cap xs w (own_holdsI h rfl) (by omega) hcap).mono ?_
    rintro e w' ⟨rfl, q, rfl⟩
    have hl := compact_len xs
    have := own_compactI (q := q) h rfl (ys := Lib.compact xs) (zs := List.replicate (xs.length - (Lib.compact xs).length) 0) (by simp; omega)
    exact ⟨_, rfl, this.1, rfl, this.2⟩

/-- Growth that may turn two rows. -/
structure Grown2 (w w' : World) (r s : Option Nat) : Prop where
  os : w'.os = w.os
  tape : w'.tape = w.tape
  output : w'.output = w.output
  size : w.heap.size ≤ w'.heap.size
  block : ∀ k, k < w.heap.size → some k ≠ r → some k ≠ s → w'.heap[k]? = w.heap[k]?
section
variable {w w' w'' : World} {r s t : Option Nat}
theorem Grown2.refl (w : World) (r s : Option Nat) : Grown2 w w r s := ⟨rfl, rfl, rfl, Nat.le_refl _, fun _ _ _ _ => rfl⟩
theorem Grown2.drew (h : Grown2 w w' r s) : Grown2 w w'.drew r s := ⟨h.os, h.tape, h.output, h.size, h.block⟩
theorem Grown2.by (h : Grown2 w w' r s) (hg : w'.grownBy w'' t) (ht : t = r ∨ t = s ∨ ∀ k, t = some k → w.heap.size ≤ k) : Grown2 w w'' r s :=
  ⟨hg.os.trans h.os, hg.tape.trans h.tape, hg.output.trans h.output, Nat.le_trans h.size hg.size, fun k hk h1 h2 => (hg.block k (Nat.lt_of_lt_of_le hk h.size) (fun e => by
    rcases ht with rfl | rfl | ht
    · exact h1 e
    · exact h2 e
    · have := ht k e.symm; omega)).trans (h.block k hk h1 h2)⟩
theorem Grown2.alloc (h : Grown2 w w' r s) (o : Obj) : Grown2 w (w'.alloc o) r s := h.by (World.grownBy_alloc w' o none) (.inr (.inr fun k e => by cases e))
theorem Grown2.below {B : Nat} (h : Grown2 w w' r s) (hB : B ≤ w.heap.size) (hr : ∀ k, r = some k → B ≤ k) (hs : ∀ k, s = some k → B ≤ k) : Below B w w' :=
  ⟨h.os, h.tape, h.output, h.size, fun k hk => h.block k (by omega) (fun e => by have := hr k e.symm; omega) (fun e => by have := hs k e.symm; omega)⟩
end
end Go.Proofs.YthnckicnnhkkaaaGreat
/- linkage.with. Condition: the argument reads as a list of links. -/
namespace Go.Proofs.YthnckicnnhkkaaaGreat
open Go.RowKit Go.Shelf

/-- The local graph in block w.heap.size + 1, the result's block before it, the two lists under way. -/
structure WSt (w wr : World) (u1 u2 u3 : Value) (a b : List Int) : Prop where
  g : wr.heap[w.heap.size + 1]? = some (.cells #[u1, u2, u3] 76 (0, 0))
  r : wr.heap[w.heap.size]? = some (.cells #[.slice none 0 0, .slice none 0 0, .slice none 0 0] 76 (0, 0))
  o1 : OwnI (w.heap.size + 2) wr u1 a
  o2 : OwnI (w.heap.size + 2) wr u2 b
  ap : Apart u1 u2
  b : Below w.heap.size w wr
theorem Own.form {α : Type} {enc : α → List Value} {k : Nat} {e : TypeId} {B : Nat} {w : World} {v : Value} {xs : List α} {y : α} (h : Own enc k e B w v (xs ++ [y])) {m : Nat} (hm : (xs ++ [y]).length = m) : ∃ g cap, v = .slice (some ⟨g, 0, none⟩) m cap := by
  subst hm
  rcases h.cases with ⟨_, h0⟩ | ⟨g, cap, e, _⟩
  · simp at h0
  · exact ⟨g, cap, e⟩
section
variable {w wr w' : World} {u1 u2 u3 v1 v2 : Value} {a b a' b' : List Int}
theorem own_ne {B g : Nat} {u : Value} {xs : List Int} (h : OwnI B wr u xs) (hg : g < B) : some g ≠ u.ownBlock := fun e => by have := (h.lt g e.symm).1; omega
theorem own_setCell {B g i : Nat} {u x : Value} {xs : List Int} (h : OwnI B wr u xs) (hg : g < B) : OwnI B (wr.setCell ⟨g, i, none⟩ x) u xs :=
  Own.kept h (row := some g) ⟨rfl, rfl, rfl, by simp, fun k _ hk => Below.heap_setCell _ _ _ k (fun e => hk (by rw [e]))⟩ (.inr fun e => by have := (h.lt g e).1; omega)
theorem WSt.step (hg : w'.heap[w.heap.size + 1]? = some (.cells #[u1, u2, u3] 76 (0, 0))) (hr : w'.heap[w.heap.size]? = some (.cells #[.slice none 0 0, .slice none 0 0, .slice none 0 0] 76 (0, 0)))
    (o1 : OwnI (w.heap.size + 2) w' v1 a') (o2 : OwnI (w.heap.size + 2) w' v2 b') (ap : Apart v1 v2) (hb : Below w.heap.size w w') :
    WSt w ((w'.setCell ⟨w.heap.size + 1, 0, none⟩ v1).setCell ⟨w.heap.size + 1, 1, none⟩ v2) v1 v2 u3 a' b' := by
  refine ⟨?_, ?_, own_setCell (own_setCell o1 (by omega)) (by omega), own_setCell (own_setCell o2 (by omega)) (by omega), ap, (hb.setCell (by simp) _).setCell (by simp) _⟩
  · have h1 := heap_setCell_same w' (w.heap.size + 1) 0 _ _ v1 hg
    have h2 := heap_setCell_same _ (w.heap.size + 1) 1 _ _ v2 h1
    simpa using h2
  · rw [heap_setCell_other _ _ _ _ (by simp), heap_setCell_other _ _ _ _ (by simp)]; exact hr
/-- What stands while only the two rows and new blocks turn. -/
theorem WSt.held (h : WSt w wr u1 u2 u3 a b) {cs : Array Value} {t : TypeId} {W1 : World} (hW : wr.alloc (.cells cs t) = W1) (hs : Grown2 W1 w' u1.ownBlock u2.ownBlock) :
    w'.heap[w.heap.size + 1]? = some (.cells #[u1, u2, u3] 76 (0, 0)) ∧ w'.heap[w.heap.size]? = some (.cells #[.slice none 0 0, .slice none 0 0, .slice none 0 0] 76 (0, 0)) ∧ w'.heap[wr.heap.size]? = some (.cells cs t (0, 0)) ∧ Below w.heap.size w w' := by
  subst hW
  have hz := heap_lt h.g
  have hz2 := heap_lt h.r
  refine ⟨?_, ?_, ?_, ?_⟩
  · rw [hs.block _ (by simp; omega) (own_ne h.o1 (by omega)) (own_ne h.o2 (by omega)), Below.heap_alloc _ _ _ hz]; exact h.g
  · rw [hs.block _ (by simp; omega) (own_ne h.o1 (by omega)) (own_ne h.o2 (by omega)), Below.heap_alloc _ _ _ hz2]; exact h.r
  · rw [hs.block _ (by simp) (fun e => by have := (h.o1.lt _ e.symm).2; omega) (fun e => by have := (h.o2.lt _ e.symm).2; omega)]; exact heap_alloc_new _ _
  · exact (h.b.alloc h.b.size _).trans (hs.below (by simp; omega) (fun k e => by have := (h.o1.lt k e).1; omega) (fun k e => by have := (h.o2.lt k e).1; omega))
end
end Go.Proofs.YthnckicnnhkkaaaGreat
/- linkage.with: the walk. Condition: the argument reads as a list of links. -/
namespace Go.Proofs.YthnckicnnhkkaaaGreat
open Go.RowKit Go.Shelf

set_option maxHeartbeats 4000000 in
theorem with_ok (v : Value) (ls : List Link) (w : World) (h : Links w v ls) (hn : ls.length ≤ 1048576) :
    Calls Tryz.prog 122 #[v] w fun e w' => ∃ v1 v2, e = .returned (.agg #[v1, v2, v]) ∧ Ints w' v1 (withs (ls.map Link.obv)) ∧ Ints w' v2 (withs (ls.map Link.rev)) ∧ Fresh w.heap.size v1 ∧ Fresh w.heap.size v2 ∧ Below w.heap.size w w' := by
  obtain ⟨A, c, rfl, h1, h2, hc⟩ := h.cells
  go_enter Tryz.func122, Tryz.ntmps122
  go_wp2
  go_loopw [10] (fun i wr => ∃ (k : Nat) (u1 u2 : Value), k ≤ ls.length ∧ i = .int .i64 k ∧ WSt w wr u1 u2 (.slice A ls.length c) ((ls.take k).map Link.obv) ((ls.take k).map Link.rev)) (fun i _ => ls.length - (intOf i).toNat)
  case atStart =>
    exact ⟨0, .slice none 0 0, .slice none 0 0, Nat.zero_le _, rfl, ⟨heap_alloc2_new _ _ _, heap_alloc2_old _ _ _, own_nil _ _ _ _ _, own_nil _ _ _ _ _, .inl rfl, ((Below.refl _ _).alloc (Nat.le_refl _) _).alloc (by simp) _⟩⟩
  case round =>
    obtain ⟨k, u1, u2, hk, rfl, hm⟩ := hrel
    have hz := heap_lt hm.g
    by_cases hlt : k < ls.length
    · obtain ⟨b, o, rfl, hbb, hc⟩ := hc k hlt
      obtain ⟨x, hx⟩ := get_of_lt hlt
      obtain ⟨c0, c1, c2⟩ := hc wr hm.b k x hx
      have Hx := Lib.hid hx; clear hx hc
      obtain ⟨W1, hW1⟩ : ∃ W1, wr.alloc (.cells #[.int .i64 x.id, .int .i64 x.obv, .int .i64 x.rev] 135) = W1 := ⟨_, rfl⟩
      have Held := Lib.hid (fun (w' : World) (hs : Grown2 W1 w' u1.ownBlock u2.ownBlock) => hm.held hW1 hs)
      have hsz : W1.heap.size = wr.heap.size + 1 := by rw [← hW1]; simp
      have Hsz := Lib.hid hsz; clear hsz
      have o1 : OwnI (w.heap.size + 2) W1.drew u1 ((ls.take k).map Link.obv) := by rw [← hW1]; exact (hm.o1.alloc _).drew
      have o2 : OwnI (w.heap.size + 2) W1.drew u2 ((ls.take k).map Link.rev) := by rw [← hW1]; exact (hm.o2.alloc _).drew
      have Hap := Lib.hid hm.ap
      obtain ⟨iI, hiI, hzI, hkI, hbI⟩ := info_parts infoI
      have hl1 : ((ls.take k).map Link.obv).length ≤ 1048576 := by simp; omega
      have hl2 : ((ls.take k).map Link.rev).length ≤ 1048576 := by simp; omega
      have hbs : w.heap.size + 2 ≤ W1.heap.size := by have := Hsz.out; omega
      go_wp2
      obtain ⟨Wd, hWd⟩ : ∃ Wd, W1.drew = Wd := ⟨_, rfl⟩
      refine wp_region_S 13 (fun w' => Grown2 W1 w' u1.ownBlock u2.ownBlock) (by kernel_rfl) (by decide) ?_
      rw [hWd] at o1 o2 ⊢
      have hHWd : Grown2 W1 Wd u1.ownBlock u2.ownBlock := by rw [← hWd]; exact (Grown2.refl W1 u1.ownBlock u2.ownBlock).drew
      have hbsWd : w.heap.size + 2 ≤ Wd.heap.size := by rw [← hWd]; exact hbs
      have hHeld := hHWd
      clear hWd hW1 c0 c1 c2
      have o1Wd := o1; have o2Wd := o2
      clear o1 o2
      refine wpAnyS_take 0 (.pointer (some ⟨w.heap.size + 1, 0, none⟩)) (by rfl) (by kernel_rfl) (by exact fun _ _ _ h => h) (by rfl) (fun w' hS => by go_simp) hHeld ?_
      simp only [Act.put]
      refine wpAnyS_take 1 u1 (by rfl) (by kernel_rfl) (by exact fun _ _ _ h => h) (by rfl) (fun w' hS => by (have g0 := heap_cell (i := 0) (Held.out w' hS).1; go_simp)) hHeld ?_
      simp only [Act.put]
      refine wpAnyS_take 2 (.pointer (some ⟨wr.heap.size, 1, none⟩)) (by rfl) (by kernel_rfl) (by exact fun _ _ _ h => h) (by rfl) (fun w' hS => by go_simp) hHeld ?_
      simp only [Act.put]
      refine wpAnyS_take 3 (.int .i64 x.obv) (by rfl) (by kernel_rfl) (by exact fun _ _ _ h => h) (by rfl) (fun w' hS => by (have g0 := heap_cell (i := 1) (Held.out w' hS).2.2.1; go_simp)) hHeld ?_
      simp only [Act.put]
      refine wpAnyS_take 6 (.pointer (some ⟨w.heap.size + 1, 1, none⟩)) (by rfl) (by kernel_rfl) (by exact fun _ _ _ h => h) (by rfl) (fun w' hS => by go_simp) hHeld ?_
      simp only [Act.put]
      refine wpAnyS_take 7 u2 (by rfl) (by kernel_rfl) (by exact fun _ _ _ h => h) (by rfl) (fun w' hS => by (have g0 := heap_cell (i := 1) (Held.out w' hS).1; go_simp)) hHeld ?_
      simp only [Act.put]
      refine wpAnyS_take 8 (.pointer (some ⟨wr.heap.size, 2, none⟩)) (by rfl) (by kernel_rfl) (by exact fun _ _ _ h => h) (by rfl) (fun w' hS => by go_simp) hHeld ?_
      simp only [Act.put]
      refine wpAnyS_take 9 (.int .i64 x.rev) (by rfl) (by kernel_rfl) (by exact fun _ _ _ h => h) (by rfl) (fun w' hS => by (have g0 := heap_cell (i := 2) (Held.out w' hS).2.2.1; go_simp)) hHeld ?_
      simp only [Act.put]
      clear hHeld
      refine wpAnyS_two 4 10 (by kernel_rfl) (by rfl) (by rfl) (by decide) (by decide) (fun K hK => ?_) (fun K hK => ?_)
      · have HK := Lib.hid hK; clear hK
        rw [if_pos (by rfl)]
        go_simp
        obtain ⟨Wa, hWa⟩ : ∃ W, World.alloc Wd (.cells #[.int .i64 x.obv] 3) = W := ⟨_, rfl⟩
        rw [hWa]
        have bWa : Wa.heap[Wd.heap.size]? = some (.cells (encI x.obv).toArray 3 (0, 0)) := by rw [← hWa]; exact heap_alloc_new _ _
        have ltWa : Wd.heap.size < Wa.heap.size := by rw [← hWa]; simp
        have hbsWa : w.heap.size + 2 ≤ Wa.heap.size := by omega
        have kWa : ∀ i, i < Wd.heap.size → Wa.heap[i]? = Wd.heap[i]? := fun i hi => by rw [← hWa]; exact Below.heap_alloc _ _ _ hi
        have hHWa : Grown2 W1 Wa u1.ownBlock u2.ownBlock := by rw [← hWa]; exact hHWd.alloc _
        have o1Wa := by have := o1Wd.alloc (.cells #[.int .i64 x.obv] 3); rw [hWa] at this; exact this
        have o2Wa := by have := o2Wd.alloc (.cells #[.int .i64 x.obv] 3); rw [hWa] at this; exact this
        clear hWa
        refine HK.out _ _ hHWa ?_
        clear HK
        refine wpAnyS_two 5 10 (by kernel_rfl) (by rfl) (by rfl) (by decide) (by decide) (fun K hK => ?_) (fun K hK => ?_)
        · have HK := Lib.hid hK; clear hK
          refine step_append_sl (by rfl) (.tmp 15) (.tmp 18) _ (by rfl) iI _ 8 Tryz.underlying68 hiI hzI hkI hbI (by rfl) (by decide) oneI (by rfl) o1Wa _ 1 1 [x.obv] (by rfl) (by rfl) (sl_one (by rfl) bWa) (by simp; omega) (by simp; omega) (by omega) ?_
          intro v1 Wb o1Wb hg1 hat1
          have hHWb := hHWa.by hg1 (.inl rfl)
          have o2Wb := Own.kept o2Wa hg1 (Apart.keep Hap.out)
          have hbsWb : w.heap.size + 2 ≤ Wb.heap.size := by have := hg1.size; omega
          have Hap1 := Lib.hid (Hap.out.append hat1 fun g hg => (o2Wa.lt g hg).2)
          refine HK.out _ _ hHWb ?_
          clear HK
          have hHeld := hHWb
          refine wpAnyS_take 12 (.pointer (some ⟨w.heap.size + 1, 0, none⟩)) (by rfl) (by kernel_rfl) (by exact fun _ _ _ h => h) (by rfl) (fun w' hS => by go_simp) hHeld ?_
          simp only [Act.put]
          clear hHeld
          refine wpAnyS_one 10 (by kernel_rfl) (by rfl) (by decide) (fun K hK => ?_)
          have HK := Lib.hid hK; clear hK
          rw [if_pos (by rfl)]
          go_simp
          obtain ⟨Wc, hWc⟩ : ∃ W, World.alloc Wb (.cells #[.int .i64 x.rev] 3) = W := ⟨_, rfl⟩
          rw [hWc]
          have bWc : Wc.heap[Wb.heap.size]? = some (.cells (encI x.rev).toArray 3 (0, 0)) := by rw [← hWc]; exact heap_alloc_new _ _
          have ltWc : Wb.heap.size < Wc.heap.size := by rw [← hWc]; simp
          have hbsWc : w.heap.size + 2 ≤ Wc.heap.size := by omega
          have kWc : ∀ i, i < Wb.heap.size → Wc.heap[i]? = Wb.heap[i]? := fun i hi => by rw [← hWc]; exact Below.heap_alloc _ _ _ hi
          have hHWc : Grown2 W1 Wc u1.ownBlock u2.ownBlock := by rw [← hWc]; exact hHWb.alloc _
          have o1Wc := by have := o1Wb.alloc (.cells #[.int .i64 x.rev] 3); rw [hWc] at this; exact this
          have o2Wc := by have := o2Wb.alloc (.cells #[.int .i64 x.rev] 3); rw [hWc] at this; exact this
          clear hWc
          refine HK.out _ _ hHWc ?_
          clear HK
          refine wpAnyS_one 11 (by kernel_rfl) (by rfl) (by decide) (fun K hK => ?_)
          have HK := Lib.hid hK; clear hK
          refine step_append_sl (by rfl) (.tmp 21) (.tmp 24) _ (by rfl) iI _ 8 Tryz.underlying68 hiI hzI hkI hbI (by rfl) (by decide) oneI (by rfl) o2Wc _ 1 1 [x.rev] (by rfl) (by rfl) (sl_one (by rfl) bWc) (by simp; omega) (by simp; omega) (by omega) ?_
          intro v2 We o2We hg2 hat2
          have hHWe := hHWc.by hg2 (.inr (.inl rfl))
          have o1We := Own.kept o1Wc hg2 Hap1.out
          have Hap2 := Lib.hid (Apart.append' Hap1.out hat2 fun g hg => (o1Wc.lt g hg).2)
          refine HK.out _ _ hHWe ?_
          clear HK
          obtain ⟨hgG, hgR, _, hbB⟩ := Held.out We hHWe
          have q0 := heap_cell (i := 0) hgG; have q1 := heap_cell (i := 1) hgG; have f0 := heap_free (i := 0) hgG; have f1 := heap_free (i := 1) hgG
          have HG := Lib.hid hgG; have HR := Lib.hid hgR; have HB := Lib.hid hbB; clear hgG hgR hbB
          obtain ⟨g1, cp1, rfl⟩ := o1We.form (m := k + 1) (by simp; omega)
          obtain ⟨g2, cp2, rfl⟩ := o2We.form (m := k + 1) (by simp; omega)
          refine (show tailOf _ _ _ _ _ _ _ _ from ⟨by kernel_rfl, ?_⟩)
          simp only [List.drop_succ_cons, List.drop_zero]
          go_wp2
          refine ⟨?rel, ?measure⟩
          case rel => exact ⟨k + 1, _, _, by omega, by go_num, by rw [map_take_snoc _ Hx.out, map_take_snoc _ Hx.out]; exact WSt.step HG.out HR.out o1We o2We Hap2.out HB.out⟩
          case measure => simp [intOf]; omega
        · have HK := Lib.hid hK; clear hK
          rw [if_pos (by rfl)]
          go_simp
          obtain ⟨Wb, hWb⟩ : ∃ W, World.alloc Wa (.cells #[.int .i64 x.rev] 3) = W := ⟨_, rfl⟩
          rw [hWb]
          have bWb : Wb.heap[Wa.heap.size]? = some (.cells (encI x.rev).toArray 3 (0, 0)) := by rw [← hWb]; exact heap_alloc_new _ _
          have ltWb : Wa.heap.size < Wb.heap.size := by rw [← hWb]; simp
          have hbsWb : w.heap.size + 2 ≤ Wb.heap.size := by omega
          have kWb : ∀ i, i < Wa.heap.size → Wb.heap[i]? = Wa.heap[i]? := fun i hi => by rw [← hWb]; exact Below.heap_alloc _ _ _ hi
          have hHWb : Grown2 W1 Wb u1.ownBlock u2.ownBlock := by rw [← hWb]; exact hHWa.alloc _
          have o1Wb := by have := o1Wa.alloc (.cells #[.int .i64 x.rev] 3); rw [hWb] at this; exact this
          have o2Wb := by have := o2Wa.alloc (.cells #[.int .i64 x.rev] 3); rw [hWb] at this; exact this
          clear hWb
          refine HK.out _ _ hHWb ?_
          clear HK
          refine wpAnyS_one 5 (by kernel_rfl) (by rfl) (by decide) (fun K hK => ?_)
          have HK := Lib.hid hK; clear hK
          have hK := HK.out; clear HK
          have HK := Lib.hid hK; clear hK
          refine step_append_sl (by rfl) (.tmp 15) (.tmp 18) _ (by rfl) iI _ 8 Tryz.underlying68 hiI hzI hkI hbI (by rfl) (by decide) oneI (by rfl) o1Wb _ 1 1 [x.obv] (by rfl) (by rfl) (sl_one (by rfl) ((kWb _ (by omega)).trans bWa)) (by simp; omega) (by simp; omega) (by omega) ?_
          intro v1 Wc o1Wc hg1 hat1
          have hHWc := hHWb.by hg1 (.inl rfl)
          have o2Wc := Own.kept o2Wb hg1 (Apart.keep Hap.out)
          have hbsWc : w.heap.size + 2 ≤ Wc.heap.size := by have := hg1.size; omega
          have Hap1 := Lib.hid (Hap.out.append hat1 fun g hg => (o2Wb.lt g hg).2)
          refine HK.out _ _ hHWc ?_
          clear HK
          have hHeld := hHWc
          refine wpAnyS_take 12 (.pointer (some ⟨w.heap.size + 1, 0, none⟩)) (by rfl) (by kernel_rfl) (by exact fun _ _ _ h => h) (by rfl) (fun w' hS => by go_simp) hHeld ?_
          simp only [Act.put]
          clear hHeld
          refine wpAnyS_one 11 (by kernel_rfl) (by rfl) (by decide) (fun K hK => ?_)
          have HK := Lib.hid hK; clear hK
          refine step_append_sl (by rfl) (.tmp 21) (.tmp 24) _ (by rfl) iI _ 8 Tryz.underlying68 hiI hzI hkI hbI (by rfl) (by decide) oneI (by rfl) o2Wc _ 1 1 [x.rev] (by rfl) (by rfl) (sl_one (by rfl) ((hg1.block _ (by omega) (fun e => by have := (o1Wa.lt _ e.symm).2; omega)).trans bWb)) (by simp; omega) (by simp; omega) (by omega) ?_
          intro v2 We o2We hg2 hat2
          have hHWe := hHWc.by hg2 (.inr (.inl rfl))
          have o1We := Own.kept o1Wc hg2 Hap1.out
          have Hap2 := Lib.hid (Apart.append' Hap1.out hat2 fun g hg => (o1Wc.lt g hg).2)
          refine HK.out _ _ hHWe ?_
          clear HK
          obtain ⟨hgG, hgR, _, hbB⟩ := Held.out We hHWe
          have q0 := heap_cell (i := 0) hgG; have q1 := heap_cell (i := 1) hgG; have f0 := heap_free (i := 0) hgG; have f1 := heap_free (i := 1) hgG
          have HG := Lib.hid hgG; have HR := Lib.hid hgR; have HB := Lib.hid hbB; clear hgG hgR hbB
          obtain ⟨g1, cp1, rfl⟩ := o1We.form (m := k + 1) (by simp; omega)
          obtain ⟨g2, cp2, rfl⟩ := o2We.form (m := k + 1) (by simp; omega)
          refine (show tailOf _ _ _ _ _ _ _ _ from ⟨by kernel_rfl, ?_⟩)
          simp only [List.drop_succ_cons, List.drop_zero]
          go_wp2
          refine ⟨?rel, ?measure⟩
          case rel => exact ⟨k + 1, _, _, by omega, by go_num, by rw [map_take_snoc _ Hx.out, map_take_snoc _ Hx.out]; exact WSt.step HG.out HR.out o1We o2We Hap2.out HB.out⟩
          case measure => simp [intOf]; omega
      · have HK := Lib.hid hK; clear hK
        rw [if_pos (by rfl)]
        go_simp
        obtain ⟨Wa, hWa⟩ : ∃ W, World.alloc Wd (.cells #[.int .i64 x.rev] 3) = W := ⟨_, rfl⟩
        rw [hWa]
        have bWa : Wa.heap[Wd.heap.size]? = some (.cells (encI x.rev).toArray 3 (0, 0)) := by rw [← hWa]; exact heap_alloc_new _ _
        have ltWa : Wd.heap.size < Wa.heap.size := by rw [← hWa]; simp
        have hbsWa : w.heap.size + 2 ≤ Wa.heap.size := by omega
        have kWa : ∀ i, i < Wd.heap.size → Wa.heap[i]? = Wd.heap[i]? := fun i hi => by rw [← hWa]; exact Below.heap_alloc _ _ _ hi
        have hHWa : Grown2 W1 Wa u1.ownBlock u2.ownBlock := by rw [← hWa]; exact hHWd.alloc _
        have o1Wa := by have := o1Wd.alloc (.cells #[.int .i64 x.rev] 3); rw [hWa] at this; exact this
        have o2Wa := by have := o2Wd.alloc (.cells #[.int .i64 x.rev] 3); rw [hWa] at this; exact this
        clear hWa
        refine HK.out _ _ hHWa ?_
        clear HK
        refine wpAnyS_one 4 (by kernel_rfl) (by rfl) (by decide) (fun K hK => ?_)
        have HK := Lib.hid hK; clear hK
        rw [if_pos (by rfl)]
        go_simp
        obtain ⟨Wb, hWb⟩ : ∃ W, World.alloc Wa (.cells #[.int .i64 x.obv] 3) = W := ⟨_, rfl⟩
        rw [hWb]
        have bWb : Wb.heap[Wa.heap.size]? = some (.cells (encI x.obv).toArray 3 (0, 0)) := by rw [← hWb]; exact heap_alloc_new _ _
        have ltWb : Wa.heap.size < Wb.heap.size := by rw [← hWb]; simp
        have hbsWb : w.heap.size + 2 ≤ Wb.heap.size := by omega
        have kWb : ∀ i, i < Wa.heap.size → Wb.heap[i]? = Wa.heap[i]? := fun i hi => by rw [← hWb]; exact Below.heap_alloc _ _ _ hi
        have hHWb : Grown2 W1 Wb u1.ownBlock u2.ownBlock := by rw [← hWb]; exact hHWa.alloc _
        have o1Wb := by have := o1Wa.alloc (.cells #[.int .i64 x.obv] 3); rw [hWb] at this; exact this
        have o2Wb := by have := o2Wa.alloc (.cells #[.int .i64 x.obv] 3); rw [hWb] at this; exact this
        clear hWb
        refine HK.out _ _ hHWb ?_
        clear HK
        refine wpAnyS_one 5 (by kernel_rfl) (by rfl) (by decide) (fun K hK => ?_)
        have HK := Lib.hid hK; clear hK
        have hK := HK.out; clear HK
        have HK := Lib.hid hK; clear hK
        refine step_append_sl (by rfl) (.tmp 15) (.tmp 18) _ (by rfl) iI _ 8 Tryz.underlying68 hiI hzI hkI hbI (by rfl) (by decide) oneI (by rfl) o1Wb _ 1 1 [x.obv] (by rfl) (by rfl) (sl_one (by rfl) bWb) (by simp; omega) (by simp; omega) (by omega) ?_
        intro v1 Wc o1Wc hg1 hat1
        have hHWc := hHWb.by hg1 (.inl rfl)
        have o2Wc := Own.kept o2Wb hg1 (Apart.keep Hap.out)
        have hbsWc : w.heap.size + 2 ≤ Wc.heap.size := by have := hg1.size; omega
        have Hap1 := Lib.hid (Hap.out.append hat1 fun g hg => (o2Wb.lt g hg).2)
        refine HK.out _ _ hHWc ?_
        clear HK
        have hHeld := hHWc
        refine wpAnyS_take 12 (.pointer (some ⟨w.heap.size + 1, 0, none⟩)) (by rfl) (by kernel_rfl) (by exact fun _ _ _ h => h) (by rfl) (fun w' hS => by go_simp) hHeld ?_
        simp only [Act.put]
        clear hHeld
        refine wpAnyS_one 11 (by kernel_rfl) (by rfl) (by decide) (fun K hK => ?_)
        have HK := Lib.hid hK; clear hK
        refine step_append_sl (by rfl) (.tmp 21) (.tmp 24) _ (by rfl) iI _ 8 Tryz.underlying68 hiI hzI hkI hbI (by rfl) (by decide) oneI (by rfl) o2Wc _ 1 1 [x.rev] (by rfl) (by rfl) (sl_one (by rfl) ((hg1.block _ (by omega) (fun e => by have := (o1Wd.lt _ e.symm).2; omega)).trans ((kWb _ (by omega)).trans bWa))) (by simp; omega) (by simp; omega) (by omega) ?_
        intro v2 We o2We hg2 hat2
        have hHWe := hHWc.by hg2 (.inr (.inl rfl))
        have o1We := Own.kept o1Wc hg2 Hap1.out
        have Hap2 := Lib.hid (Apart.append' Hap1.out hat2 fun g hg => (o1Wc.lt g hg).2)
        refine HK.out _ _ hHWe ?_
        clear HK
        obtain ⟨hgG, hgR, _, hbB⟩ := Held.out We hHWe
        have q0 := heap_cell (i := 0) hgG; have q1 := heap_cell (i := 1) hgG; have f0 := heap_free (i := 0) hgG; have f1 := heap_free (i := 1) hgG
        have HG := Lib.hid hgG; have HR := Lib.hid hgR; have HB := Lib.hid hbB; clear hgG hgR hbB
        obtain ⟨g1, cp1, rfl⟩ := o1We.form (m := k + 1) (by simp; omega)
        obtain ⟨g2, cp2, rfl⟩ := o2We.form (m := k + 1) (by simp; omega)
        refine (show tailOf _ _ _ _ _ _ _ _ from ⟨by kernel_rfl, ?_⟩)
        simp only [List.drop_succ_cons, List.drop_zero]
        go_wp2
        refine ⟨?rel, ?measure⟩
        case rel => exact ⟨k + 1, _, _, by omega, by go_num, by rw [map_take_snoc _ Hx.out, map_take_snoc _ Hx.out]; exact WSt.step HG.out HR.out o1We o2We Hap2.out HB.out⟩
        case measure => simp [intOf]; omega
    · have e1 : ls.take k = ls := List.take_of_length_le (by omega)
      rw [e1] at hm
      clear e1 hc
      have g0 := heap_cell (i := 0) hm.g
      have hl1 : (ls.map Link.obv).length ≤ 1048576 := by simpa using hn
      have hl2 : (ls.map Link.rev).length ≤ 1048576 := by simpa using hn
      have hl3 : (sortI (ls.map Link.obv)).length ≤ 1048576 := by rw [sortI_len]; exact hl1
      have hl4 : (sortI (ls.map Link.rev)).length ≤ 1048576 := by rw [sortI_len]; exact hl2
      have Hm := Lib.hid hm; clear hm
      go_wp2_with fail
      refine (sortI_ok _ u1 _ _ Hm.out.o1 hl1).mono ?_
      rintro e w1 ⟨rfl, s1, hg1⟩
      clear g0
      have s2 := Own.kept Hm.out.o2 hg1 (Apart.keep Hm.out.ap)
      have G1 := Lib.hid ((hg1.block _ hz (own_ne Hm.out.o1 (by omega))).trans Hm.out.g)
      have R1 := Lib.hid ((hg1.block _ (by omega) (own_ne Hm.out.o1 (by omega))).trans Hm.out.r)
      have B1 : Below w.heap.size w w1 := Hm.out.b.grown hg1 Hm.out.b.size (fun j e => by have := (Hm.out.o1.lt j e).1; omega)
      have hz1 := heap_lt G1.out
      have q1 := heap_cell (i := 1) G1.out
      go_wp2_with fail
      refine (sortI_ok _ u2 _ _ s2 hl2).mono ?_
      rintro e w2 ⟨rfl, t2, hg2⟩
      clear q1
      have t1 := Own.kept s1 hg2 Hm.out.ap
      have G2 := Lib.hid ((hg2.block _ hz1 (own_ne s2 (by omega))).trans G1.out)
      have R2 := Lib.hid ((hg2.block _ (by omega) (own_ne s2 (by omega))).trans R1.out)
      have B2 : Below w.heap.size w w2 := B1.grown hg2 B1.size (fun j e => by have := (s2.lt j e).1; omega)
      have hz2 := heap_lt G2.out
      have Hap := Lib.hid Hm.out.ap
      clear G1 R1 B1 hg1 hg2 s1 s2 hz hz1 Hm hl1 hl2
      have Held : Hid (∀ w', Grown2 w2 w' u1.ownBlock u2.ownBlock → w'.heap[w.heap.size + 1]? = some (.cells #[u1, u2, .slice A ls.length c] 76 (0, 0)) ∧ w'.heap[w.heap.size]? = some (.cells #[.slice none 0 0, .slice none 0 0, .slice none 0 0] 76 (0, 0)) ∧ Below w.heap.size w w') := by
        intro w' hs
        exact ⟨(hs.block _ hz2 (own_ne t1 (by omega)) (own_ne t2 (by omega))).trans G2.out, (hs.block _ (by omega) (own_ne t1 (by omega)) (own_ne t2 (by omega))).trans R2.out, B2.trans (hs.below B2.size (fun j e => by have := (t1.lt j e).1; omega) (fun j e => by have := (t2.lt j e).1; omega))⟩
      clear G2 R2 B2
      go_wp2_with fail
      obtain ⟨Wd, hWd⟩ : ∃ Wd, w2.drew = Wd := ⟨_, rfl⟩
      refine wp_region_S 7 (fun w' => Grown2 w2 w' u1.ownBlock u2.ownBlock) (by kernel_rfl) (by decide) ?_
      rw [hWd]
      have hHeld : Grown2 w2 Wd u1.ownBlock u2.ownBlock := by rw [← hWd]; exact (Grown2.refl w2 u1.ownBlock u2.ownBlock).drew
      have p1 : OwnI (w.heap.size + 2) Wd u1 (sortI (ls.map Link.obv)) := by rw [← hWd]; exact t1
      have p2 : OwnI (w.heap.size + 2) Wd u2 (sortI (ls.map Link.rev)) := by rw [← hWd]; exact t2
      clear hWd t1 t2
      refine wpAnyS_take 0 (.pointer (some ⟨w.heap.size + 1, 0, none⟩)) (by rfl) (by kernel_rfl) (by exact fun _ _ _ h => h) (by rfl) (fun w' hS => by go_simp) hHeld ?_
      simp only [Act.put]
      refine wpAnyS_take 1 u1 (by rfl) (by kernel_rfl) (by exact fun _ _ _ h => h) (by rfl) (fun w' hS => by (have g0 := heap_cell (i := 0) (Held.out w' hS).1; go_simp)) hHeld ?_
      simp only [Act.put]
      refine wpAnyS_take 3 (.pointer (some ⟨w.heap.size + 1, 1, none⟩)) (by rfl) (by kernel_rfl) (by exact fun _ _ _ h => h) (by rfl) (fun w' hS => by go_simp) hHeld ?_
      simp only [Act.put]
      refine wpAnyS_take 4 u2 (by rfl) (by kernel_rfl) (by exact fun _ _ _ h => h) (by rfl) (fun w' hS => by (have g0 := heap_cell (i := 1) (Held.out w' hS).1; go_simp)) hHeld ?_
      simp only [Act.put]
      refine wpAnyS_one 2 (by kernel_rfl) (by rfl) (by decide) (fun K hK => ?_)
      have HK := Lib.hid hK; clear hK
      rw [if_pos (by rfl)]
      go_simp
      refine (compactI_ok _ u1 _ _ p1 hl3).mono ?_
      rintro e w3 ⟨v1, rfl, x1, hk1, hg3⟩
      have y2 := Own.kept p2 hg3 (Apart.keep Hap.out)
      have hHeld3 := hHeld.by hg3 (.inl rfl)
      clear hHeld
      have hHeld := hHeld3
      refine HK.out _ _ hHeld ?_
      clear HK
      refine wpAnyS_take 6 (.pointer (some ⟨w.heap.size + 1, 0, none⟩)) (by rfl) (by kernel_rfl) (by exact fun _ _ _ h => h) (by rfl) (fun w' hS => by go_simp) hHeld ?_
      simp only [Act.put]
      refine wpAnyS_one 5 (by kernel_rfl) (by rfl) (by decide) (fun K hK => ?_)
      have HK := Lib.hid hK; clear hK
      rw [if_pos (by rfl)]
      go_simp
      refine (compactI_ok _ u2 _ _ y2 hl4).mono ?_
      rintro e w4 ⟨v2, rfl, x2, hk2, hg4⟩
      have hHeld4 := hHeld.by hg4 (.inr (.inl rfl))
      have y1 := Own.kept x1 hg4 (by rw [hk1]; exact Hap.out)
      have Hap2 : Hid (Apart v1 v2) := by show Apart v1 v2; unfold Apart; rw [hk1, hk2]; exact Hap.out
      refine HK.out _ _ hHeld4 ?_
      clear HK
      obtain ⟨hgG, hgR, hbB⟩ := Held.out _ hHeld4
      rw [compact_sortI] at x2 y1
      clear x1 y2 hHeld hHeld3 hHeld4 hg3 hg4 hk1 hk2 hl3 hl4 Hap p1 p2
      obtain ⟨A1, cc1, rfl, _, _, _⟩ := (show Ints _ _ _ from y1.slOf).cells
      obtain ⟨A2, cc2, rfl, _, _, _⟩ := (show Ints _ _ _ from x2.slOf).cells
      have q0 := heap_cell (i := 0) hgG; have q1 := heap_cell (i := 1) hgG; have f0 := heap_free (i := 0) hgG; have f1 := heap_free (i := 1) hgG
      have hst := WSt.step hgG hgR y1 x2 Hap2.out hbB
      clear hgG hgR hbB y1 x2 Hap2
      obtain ⟨wZ, hwZ⟩ : ∃ wZ, (w4.setCell ⟨w.heap.size + 1, 0, none⟩ (.slice A1 (withs (ls.map Link.obv)).length cc1)).setCell ⟨w.heap.size + 1, 1, none⟩ (.slice A2 (withs (ls.map Link.rev)).length cc2) = wZ := ⟨_, rfl⟩
      rw [hwZ] at hst
      have Hst := Lib.hid hst; clear hst
      refine (show tailOf _ _ _ _ _ _ _ _ from ⟨by kernel_rfl, ?_⟩)
      simp only [List.drop_succ_cons, List.drop_zero]
      go_upto_region 10 with fail
      clear hwZ q0 q1 f0 f1
      obtain ⟨g0, g1, g2, _, _, _⟩ := blk3 Hst.out.g
      obtain ⟨r0, r1, r2, q0, q1, q2⟩ := blk3 Hst.out.r
      go_wp2
      refine bodyPost_ret (results_cell_row rfl _ _ w.heap.size 76 #[.slice A1 (withs (ls.map Link.obv)).length cc1, .slice A2 (withs (ls.map Link.rev)).length cc2, .slice A ls.length c] (0, 0) _ (by simp) (heap_set3 Hst.out.r) Tryz.underlying76 rfl infoG) rfl
        ⟨_, _, rfl, SlOf.set3 Hst.out.o1.slOf (fun e => by have := (Hst.out.o1.lt _ e).1; omega) _ _ _, SlOf.set3 Hst.out.o2.slOf (fun e => by have := (Hst.out.o2.lt _ e).1; omega) _ _ _,
          Hst.out.o1.fresh.mono (by omega), Hst.out.o2.fresh.mono (by omega), below_set3 Hst.out.b (Nat.le_refl _) _ _ _⟩
end Go.Proofs.YthnckicnnhkkaaaGreat
