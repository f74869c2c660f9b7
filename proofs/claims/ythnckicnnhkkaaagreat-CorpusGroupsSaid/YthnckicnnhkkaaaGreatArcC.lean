/- slices.Compact at arcs of the call's own. No condition but a bound of the length. -/
import Derived.Test.YthnckicnnhkkaaaGreatPairA
import Derived.Test.YthnckicnnhkkaaaGreatCorO
import Derived.Test.YthnckicnnhkkaaaGreatPreM
namespace Go.Proofs.YthnckicnnhkkaaaGreat
open Go.RowKit Go.Shelf

theorem eqlAr (a0 a1 b0 b1 : Int) (w : World) : (binOp .eql 177 (.agg #[.int .i64 a0, .int .i64 a1]) (.agg #[.int .i64 b0, .int .i64 b1])).run Tryz.prog w =
    .ok (.bool (decide ((⟨a0, a1⟩ : Pair) = ⟨b0, b1⟩))) w := by
  have uI := Tryz.underlying3
  have aI := Tryz.isAgg3
  have hS : Tryz.prog.underlying 177 = some (.struct (Tryz.prog.fieldsOf 177)) := by kernel_rfl
  have hp : Tryz.prog.stoodInHeld 177 = false := by kernel_rfl
  rw [run_eql_struct, show (10000 : Nat) = 9999 + 1 from rfl, run_equalIn_agg w 9999 177 _ _ hS hp]
  simp only [Program.fieldsOf, Tryz.underlying177]
  go_simp
  by_cases h0 : a0 = b0 <;> by_cases h1 : a1 = b1 <;> simp [h0, h1]

theorem neqAr (a0 a1 b0 b1 : Int) (w : World) : (binOp .neq 177 (.agg #[.int .i64 a0, .int .i64 a1]) (.agg #[.int .i64 b0, .int .i64 b1])).run Tryz.prog w =
    .ok (.bool (decide ((⟨a0, a1⟩ : Pair) ≠ ⟨b0, b1⟩))) w := by
  have uI := Tryz.underlying3
  have aI := Tryz.isAgg3
  have hS : Tryz.prog.underlying 177 = some (.struct (Tryz.prog.fieldsOf 177)) := by kernel_rfl
  have hp : Tryz.prog.stoodInHeld 177 = false := by kernel_rfl
  rw [run_neq_struct, show (10000 : Nat) = 9999 + 1 from rfl, run_equalIn_agg w 9999 177 _ _ hS hp]
  simp only [Program.fieldsOf, Tryz.underlying177]
  go_simp
  by_cases h0 : a0 = b0 <;> by_cases h1 : a1 = b1 <;> simp [h0, h1]
theorem neqAr_ (x y : Pair) (w : World) : (binOp .neq 177 (.agg #[.int .i64 x.a, .int .i64 x.b]) (.agg #[.int .i64 y.a, .int .i64 y.b])).run Tryz.prog w = .ok (.bool (neB x y)) w := neqAr _ _ _ _ w
theorem eqlAr_ (x y : Pair) (w : World) : (binOp .eql 177 (.agg #[.int .i64 x.a, .int .i64 x.b]) (.agg #[.int .i64 y.a, .int .i64 y.b])).run Tryz.prog w = .ok (.bool (eqB x y)) w := eqlAr _ _ _ _ w

theorem zeroAr (w : World) : (zeroValue 177).run Tryz.prog w = .ok (.agg #[.int .i64 0, .int .i64 0]) w := by kernel_rfl

set_option maxHeartbeats 4000000 in
set_option maxRecDepth 100000 in
theorem compactAr_ok (B : Nat) (v : Value) (xs : List Pair) (w : World) (h : Own encP 2 177 B w v xs) (hn : xs.length ≤ 1048576) :
    Calls Tryz.prog 224 #[v] w fun e w' => ∃ u, e = .returned u ∧ Own encP 2 177 B w' u (Lib.compact xs) ∧ u.ownBlock = v.ownBlock ∧ w.grownBy w' v.ownBlock := by
  rcases h.cases with ⟨rfl, rfl⟩ | ⟨g, cap, rfl, hg, hgw, hcap, hmx⟩
  · go_enter Tryz.func224, Tryz.ntmps224
    go_wp2
    go_ret
    exact ⟨_, rfl, by simpa [Lib.compact, Lib.compactUpTo] using h, rfl, World.grownBy.refl _ _⟩
  have Hall : Hid ((∀ j, j < xs.length → Lib.keeps xs.toArray j = true) → Lib.compact xs = xs) := Lib.compact_all xs
  by_cases h2 : xs.length < 2
  · have hd : decide ((xs.length : Int) < 2) = true := by simp; omega
    have Hc := Lib.hid (Hall.out fun j hj => Lib.keeps_lt_one _ j (by omega))
    go_enter Tryz.func224, Tryz.ntmps224
    go_wp2
    go_ret
    exact ⟨_, rfl, by rw [Hc.out]; exact h, rfl, World.grownBy.refl _ _⟩
  have hd : decide ((xs.length : Int) < 2) = false := by simp; omega
  have hmx' : (cap : Int) ≤ 9223372036854775807 := by simp only [maxLen] at hmx; omega
  go_enter Tryz.func224, Tryz.ntmps224
  go_wp2
  go_loopw [3] (fun i wr => ∃ k : Nat, 1 ≤ k ∧ k ≤ xs.length ∧ i = .int .i64 k ∧ Own encP 2 177 B wr (.slice (some ⟨g, 0, none⟩) xs.length cap) xs ∧ w.grownBy wr (some g) ∧ (∀ j, j < k → Lib.keeps xs.toArray j = true)) (fun i _ => xs.length - (intOf i).toNat)
  case atStart => exact ⟨1, by omega, by omega, rfl, h, World.grownBy.refl _ _, Lib.keeps_lt_one _⟩
  case round =>
    obtain ⟨k, hk1, hk, rfl, hown, hgr, hall⟩ := hrel
    have HA := Lib.hid hall; clear hall h
    by_cases hlt : k < xs.length
    · obtain ⟨x, hx⟩ := get_of_lt hlt
      obtain ⟨y, hy⟩ := get_of_lt (show k - 1 < xs.length by omega)
      have c0 := (hown.cellsAt lenP rfl hx (j := 0) rfl).1
      have c1 := (hown.cellsAt lenP rfl hx (j := 1) rfl).1
      have d0 := (hown.cellsAt lenP rfl hy (j := 0) rfl).1
      have d1 := (hown.cellsAt lenP rfl hy (j := 1) rfl).1
      simp only [Nat.add_zero] at c0 d0
      have Hx := Lib.hid (arrP hx); have Hy := Lib.hid (arrP hy); clear hx hy
      have hl1 : (k : Int) < (xs.length : Int) := by omega
      have hl0 : (0 : Int) ≤ (k : Int) := by omega
      have hck : ¬ cap = k := by omega
      have hcI : (k : Int) ≤ (xs.length : Int) := by omega
      have hcJ : (xs.length : Int) ≤ (cap : Int) := by omega
      have eP := eqlAr_
      by_cases hxy : x = y
      · have hdx : eqB x y = true := eqB_yes hxy
        have Hxy := Lib.hid hxy; clear hxy
        have Hown := Lib.hid hown; clear hown
        go_wp2
        go_quiet (fail)
        go_wp2
        clear c0 c1 d0 d1
        go_loopw [3, 5] (fun i j wx => ∃ (kk k2 : Nat) (dk : List Pair), i = .int .i64 kk ∧ j = .int .i64 k2 ∧ 1 ≤ k2 ∧ k + k2 ≤ xs.length ∧ Own encP 2 177 B wx (.slice (some ⟨g, 0, none⟩) xs.length cap) dk ∧ w.grownBy wx (some g) ∧ Lib.CompInv xs.toArray (k + k2) kk dk.toArray) (fun _ j _ => xs.length - k - (intOf j).toNat)
        case atStart => exact ⟨k, 1, xs, rfl, rfl, Nat.le_refl _, by omega, Hown.out.drewN _, grown_drewN hgr _, Lib.CompInv.start HA.out (Lib.keeps_neg (by omega) (by rw [Hx.out, Hy.out, Hxy.out]))⟩
        case round =>
          clear Hown hgr
          obtain ⟨kk, k2, dk, rfl, rfl, h1, hle, hown, hgr, hI⟩ := hrel
          have hkk := hI.lt
          have hds := hI.size
          simp only [List.size_toArray] at hds
          have Hds := Lib.hid hds.symm; clear hds
          have HI := Lib.hid hI; clear hI
          obtain ⟨g', cap', cur⟩ : True ∧ True ∧ True := ⟨trivial, trivial, trivial⟩
          by_cases hlt2 : k + k2 < xs.length
          · obtain ⟨u, hu⟩ := get_of_lt (show k + k2 < dk.length by have := Hds.out; omega)
            obtain ⟨z, hz⟩ := get_of_lt (show k + k2 - 1 < dk.length by have := Hds.out; omega)
            obtain ⟨t, ht⟩ := get_of_lt (show kk < dk.length by have := Hds.out; omega)
            have c0 := (hown.cellsAt lenP Hds.out hu (j := 0) rfl).1
            have c1 := (hown.cellsAt lenP Hds.out hu (j := 1) rfl).1
            have d0 := (hown.cellsAt lenP Hds.out hz (j := 0) rfl).1
            have d1 := (hown.cellsAt lenP Hds.out hz (j := 1) rfl).1
            have t0 := hown.cellsAt lenP Hds.out ht (j := 0) rfl
            have t1 := hown.cellsAt lenP Hds.out ht (j := 1) rfl
            obtain ⟨t0, f0⟩ := t0
            obtain ⟨t1, f1⟩ := t1
            rw [show (k + k2) * 2 = k * 2 + k2 * 2 by omega] at c0 c1
            rw [show (k + k2 - 1) * 2 = k * 2 + (k2 - 1) * 2 by omega] at d0 d1
            simp only [Nat.add_zero] at c0 d0 t0 f0
            have Hu : Hid (xs.toArray[k + k2]! = u) := by show _ = _; rw [← HI.out.high (k + k2) (by omega)]; exact arrP hu
            have Hz : Hid (xs.toArray[k + k2 - 1]! = z) := by show _ = _; rw [← HI.out.high (k + k2 - 1) (by omega)]; exact arrP hz
            clear hu hz ht
            have hput := hown.put lenP (by omega) Hds.out (i := kk) (by omega) u
            have Hput := Lib.hid hput; have Hown := Lib.hid hown; clear hput hown
            have i1 : (k2 : Int) < ((xs.length - k : Nat) : Int) := by omega
            have i0 : (0 : Int) ≤ (k2 : Int) := by omega
            have i2 : (kk : Int) < (xs.length : Int) := by omega
            have i3 : (0 : Int) ≤ (kk : Int) := by omega
            have nP := neqAr_
            clear eP
            by_cases huv : u = z
            · have hdx2 : neB u z = false := neB_no huv
              have Huv := Lib.hid huv; clear huv
              go_wp2
              go_quiet (fail)
              go_wp2
              refine ⟨?rel, ?measure⟩
              case rel => exact ⟨kk, k2 + 1, dk, rfl, by go_num, by omega, by omega, Hown.out.drewN _, grown_drewN hgr _, HI.out.skip (Lib.keeps_neg (by omega) (by rw [Hu.out, Hz.out, Huv.out]))⟩
              case measure => first | (simp [intOf]; done) | (simp [intOf]; omega)
            · have hdx2 : neB u z = true := neB_yes huv
              have Huv := Lib.hid huv; clear huv
              go_wp2
              go_quiet (fail)
              go_wp2
              refine ⟨?rel, ?measure⟩
              case rel => exact ⟨kk + 1, k2 + 1, dk.set kk u, by go_num, by go_num, by omega, by omega, Hput.out.drewN _, grown_drewN (hgr.trans (setCells_grown g (encP u) _ (kk * 2))) _, by have := HI.out.keep (by simpa using hlt2) (Lib.keeps_pos (by rw [Hu.out, Hz.out]; exact Huv.out)); rw [Hu.out, setP] at this; exact this⟩
              case measure => first | (simp [intOf]; done) | (simp [intOf]; omega)
          · have hend : k + k2 = xs.length := by omega
            have Hend := Lib.hid hend; clear hend
            obtain ⟨cur, hB, hgc, q1, q2, q3, q4⟩ := hown.row Hds.out
            have hcl := fun ty => run_clear_rows (P := Tryz.prog) wr 129 177 ty (.agg #[.int .i64 0, .int .i64 0]) Tryz.underlying129 zeroAr (by simp [Value.cells, Value.oneCell']) g (kk * 2) (xs.length - kk) (cap - kk) (by omega)
              (fun j hj => by rw [heap_cell hgc]; simp [Value.cells] at hj; rw [Array.getElem?_eq_getElem (by omega)]; rfl) (fun j hj => heap_free hgc)
            obtain ⟨Z, hZ⟩ : ∃ Z, (Builtin.zeroCells (Value.cells (.agg #[.int .i64 0, .int .i64 0])) (xs.length - kk)).toList = Z := ⟨_, rfl⟩
            have hZl : Z.length = (xs.length - kk) * 2 := by rw [← hZ, zeros_len]; rfl
            simp only [hZ] at hcl
            clear hZ
            have HZl := Lib.hid hZl; clear hZl
            have Hown := Lib.hid hown; clear hown q3 q4 hgc
            have i2 : (kk : Int) ≤ (xs.length : Int) := by omega
            have i3 : (0 : Int) ≤ (kk : Int) := by omega
            have i4 : (kk : Int) ≤ (cap : Int) := by omega
            have i5 : ¬ cap = kk := by omega
            have i6 : ¬ (k2 : Int) < ((xs.length - k : Nat) : Int) := by omega
            go_wp2
            go_ret
            have hI := HI.out
            rw [Hend.out] at hI
            have hcut := Hown.out.cut lenP Hds.out (m := kk) (by omega)
            rw [compInv_take hI] at hcut
            exact ⟨_, rfl, hcut.putTail lenP (by unfold Lib.compact; rw [hI.len]) (Nat.le_refl _) Z (by rw [HZl.out]; omega), rfl, hgr.trans (setCells_grown g Z _ (kk * 2))⟩
      · have hdx : eqB x y = false := eqB_no hxy
        have Hxy := Lib.hid hxy; clear hxy
        have Hown := Lib.hid hown; clear hown
        go_wp2
        go_quiet (fail)
        go_wp2
        refine ⟨?rel, ?measure⟩
        case rel => exact ⟨k + 1, by omega, by omega, by go_num, Hown.out.drewN _, grown_drewN hgr _, fun j hj => by by_cases e : j = k; (subst e; exact Lib.keeps_pos (by rw [Hx.out, Hy.out]; exact Hxy.out)); exact HA.out j (by omega)⟩
        case measure => first | (simp [intOf]; done) | (simp [intOf]; omega)
    · have hke : k = xs.length := by omega
      have Hc := Lib.hid (Hall.out fun j hj => HA.out j (by omega))
      clear hke
      go_wp2
      go_ret
      exact ⟨_, rfl, by rw [Hc.out]; exact hown, rfl, hgr⟩
end Go.Proofs.YthnckicnnhkkaaaGreat
/- slices.SortFunc at arcs of the call's own. No condition but a bound of the length. -/
namespace Go.Proofs.YthnckicnnhkkaaaGreat
open Go.RowKit Go.Maps Go.Shelf

set_option maxHeartbeats 1000000 in
theorem cmpAr_ok (x y : Pair) (W : World) : Calls Tryz.prog 223 #[valP x, valP y] W fun e w' => e = .returned (.int .i64 (cmpP x y)) ∧ ∃ q os', w' = Go.Sort.grow (W.drewN q) os' := by
  have hca := fun W' => AnyG.cmp_Compare_int Tryz.layCmp x.a y.a W'
  have hcb := fun W' => AnyG.cmp_Compare_int Tryz.layCmp x.b y.b W'
  change ∀ W', Calls Tryz.prog 83 _ _ _ at hca
  change ∀ W', Calls Tryz.prog 83 _ _ _ at hcb
  unfold cmpP
  generalize Lib.compareInt x.a y.a = r at hca ⊢
  generalize Lib.compareInt x.b y.b = s at hcb ⊢
  go_enter Tryz.func223, Tryz.ntmps223
  go_wp2_with fail
  obtain ⟨W0, hW0, Hz0, hb0, hlt0, hc0⟩ := boxed W #[.int .i64 x.a, .int .i64 x.b] 177
  obtain ⟨W1, hW1, Hz1, hb1, hlt1, hc1⟩ := boxed W0 #[.int .i64 y.a, .int .i64 y.b] 177
  have a0 : W1.drew.cell? _ = _ := cell_later hb1.drew (hc0 0 _ rfl); have a1 : W1.drew.cell? _ = _ := cell_later hb1.drew (hc0 1 _ rfl)
  have b0 : W1.drew.cell? _ = _ := hc1 0 _ rfl; have b1 : W1.drew.cell? _ = _ := hc1 1 _ rfl
  rw [Hz0.out] at b0 b1
  clear hc0 hc1
  have hgrow' : ∃ os', W1 = Go.Sort.grow W os' := ⟨_, by rw [← hW1, ← hW0, Go.Sort.alloc_eq_grow, Go.Sort.alloc_eq_grow, Go.Sort.grow_grow]⟩
  have hgrow := Lib.hid hgrow'; clear hgrow'
  rw [hW0, hW1]
  clear hW0 hW1
  refine wp_region_S 10 (fun w' => w' = W1.drew) (by kernel_rfl) (by decide) ?_
  have hHeld : W1.drew = W1.drew := rfl
  refine wpAnyS_take 0 (.pointer (some ⟨W.heap.size, 0, none⟩)) (by rfl) (by kernel_rfl) (by exact fun _ _ _ h => h) (by rfl) (fun w' hS => by (subst hS; go_simp)) hHeld ?_
  simp only [Act.put]
  refine wpAnyS_take 1 (.int .i64 x.a) (by rfl) (by kernel_rfl) (by exact fun _ _ _ h => h) (by rfl) (fun w' hS => by (subst hS; go_simp)) hHeld ?_
  simp only [Act.put]
  refine wpAnyS_take 2 (.pointer (some ⟨W.heap.size + 1, 0, none⟩)) (by rfl) (by kernel_rfl) (by exact fun _ _ _ h => h) (by rfl) (fun w' hS => by (subst hS; go_simp)) hHeld ?_
  simp only [Act.put]
  refine wpAnyS_take 3 (.int .i64 y.a) (by rfl) (by kernel_rfl) (by exact fun _ _ _ h => h) (by rfl) (fun w' hS => by (subst hS; go_simp)) hHeld ?_
  simp only [Act.put]
  refine wpAnyS_take 5 (.pointer (some ⟨W.heap.size, 1, none⟩)) (by rfl) (by kernel_rfl) (by exact fun _ _ _ h => h) (by rfl) (fun w' hS => by (subst hS; go_simp)) hHeld ?_
  simp only [Act.put]
  refine wpAnyS_take 6 (.int .i64 x.b) (by rfl) (by kernel_rfl) (by exact fun _ _ _ h => h) (by rfl) (fun w' hS => by (subst hS; go_simp)) hHeld ?_
  simp only [Act.put]
  refine wpAnyS_take 7 (.pointer (some ⟨W.heap.size + 1, 1, none⟩)) (by rfl) (by kernel_rfl) (by exact fun _ _ _ h => h) (by rfl) (fun w' hS => by (subst hS; go_simp)) hHeld ?_
  simp only [Act.put]
  refine wpAnyS_take 8 (.int .i64 y.b) (by rfl) (by kernel_rfl) (by exact fun _ _ _ h => h) (by rfl) (fun w' hS => by (subst hS; go_simp)) hHeld ?_
  simp only [Act.put]
  clear hHeld
  refine wpAnyS_one 4 (by kernel_rfl) (by rfl) (by decide) (fun K hK => ?_)
  have HK := Lib.hid hK; clear hK
  rw [if_pos (by rfl)]
  go_simp
  refine (hca _).mono ?_
  rintro e w2 ⟨rfl, rfl⟩
  refine HK.out _ _ rfl ?_
  clear HK
  refine wpAnyS_one 9 (by kernel_rfl) (by rfl) (by decide) (fun K hK => ?_)
  have HK := Lib.hid hK; clear hK
  rw [if_pos (by rfl)]
  go_simp
  refine (hcb _).mono ?_
  rintro e w2 ⟨rfl, rfl⟩
  refine HK.out _ _ rfl ?_
  clear HK
  refine (show tailOf _ _ _ _ _ _ _ _ from ⟨by kernel_rfl, ?_⟩)
  simp only [List.drop_succ_cons, List.drop_zero]
  go_wp2_with fail
  refine (Or_ok _ r s _ (by go_simp) (by go_simp)).mono ?_
  rintro e w3 ⟨rfl, rfl⟩
  go_wp2_with fail
  go_ret
  obtain ⟨os, hq⟩ := hgrow.out
  exact ⟨rfl, 1, _, by rw [hq, Go.Sort.alloc_eq_grow, Go.Sort.grow_grow]; rfl⟩
theorem cmpAr_lays (blk off size : Nat) (w : World) : CmpLays Tryz.prog 223 #[] encP 2 cmpP blk off size w := fun _ _ _ _ x y => cmpAr_ok x y _
set_option maxHeartbeats 2000000 in
theorem sortFuncAr_ok (B : Nat) (v : Value) (zs : List Pair) (w : World) (h : OwnAr B w v zs) (hn : zs.length ≤ 1048576) :
    Calls Tryz.prog 222 #[v, .func (.func 223) #[] #[]] w fun e w' => e = .returned (.tuple #[]) ∧ ∃ ys, OwnAr B w' v ys ∧ ByPair zs ys ∧ ys.length = zs.length ∧ w.grownBy w' v.ownBlock := by
  have eg : ∀ args w, (callFunc 223 args).run Tryz.prog w = .ok (.enter 223 args) w := enters_of Tryz.func223 (by kernel_rfl) rfl
  rcases h.cases with ⟨rfl, rfl⟩ | ⟨g, cap, rfl, hg, hgw, _, _⟩
  · refine (show Calls Tryz.prog 222 _ w _ from AnyF.slices_SortFunc_none Tryz.laySortA none 0 _ w).mono ?_
    rintro e w' ⟨rfl, rfl⟩
    exact ⟨rfl, [], h, ⟨List.Perm.refl _, List.Pairwise.nil⟩, rfl, World.grownBy.refl _ _⟩
  · have hH := h.holdsK rfl lenP
    refine (show Calls Tryz.prog 222 _ w _ from AnyQ.slices_SortFunc Tryz.laySortA 2 Tryz.isAgg177 Tryz.sizeOf177 encP lenP oneP cmpP cmpP_swo 223 #[] g 0 cap zs.toArray w eg (cmpAr_lays g 0 _ w) hH hgw (by simp; omega)).mono ?_
    rintro e w' ⟨rfl, d', n, os, hp, hs, rfl⟩
    obtain ⟨hby, hl⟩ := byPair_of hp hs
    exact ⟨rfl, d'.toList, h.sorted rfl lenP hl, hby, hl, Own.grown encP 2 (ys := d'.toList)⟩

end Go.Proofs.YthnckicnnhkkaaaGreat
