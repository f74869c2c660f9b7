/- cmp.Or at two numbers, the order of linkage.Pairs, slices.SortFunc at pairs. -/
import Derived.Test.YtnaoiochfdipiaaShelf
import Derived.Test.YtnaoiochfdipiaaOwn
import Derived.Test.YtnaoiochfdipiaaTail
import Derived.Test.YtnaoiochfdipiaaReadB
import Derived.Test.YtnaoiochfdipiaaRow
import Derived.Test.YtnaoiochfdipiaaLinkH
namespace Go.Proofs.Ytnaoiochfdipiaa
open Go.RowKit Go.Shelf

def orI (x y : Int) : Int := if x = 0 then y else x
set_option maxHeartbeats 1000000 in
theorem Or_ok (g : Nat) (x y : Int) (w : World) (h0 : w.cell? ⟨g, 0, none⟩ = some (.int .i64 x)) (h1 : w.cell? ⟨g, 1, none⟩ = some (.int .i64 y)) :
    Calls Try.prog 51 #[.slice (some ⟨g, 0, none⟩) 2 2] w fun e w' => e = .returned (.int .i64 (orI x y)) ∧ w = w' := by
  go_enter Try.func51, Try.ntmps51
  go_wp2
  go_loopw [8] (fun i wr => ∃ k : Nat, k ≤ 2 ∧ i = .int .i64 k ∧ wr = w ∧ (1 ≤ k → x = 0) ∧ (2 ≤ k → y = 0)) (fun i _ => 2 - (intOf i).toNat)
  case atStart => exact ⟨0, by omega, rfl, rfl, by omega, by omega⟩
  case round =>
    obtain ⟨k, hk, rfl, rfl, q1, q2⟩ := hrel
    rcases Nat.lt_or_ge k 1 with e | e
    · obtain rfl : k = 0 := by omega
      clear q1 q2
      by_cases hx : x = 0
      · have hd : (x != 0) = false := by simp [hx]
        have Hx := Lib.hid hx; clear hx
        go_wp2
        refine ⟨?rel, ?measure⟩
        case rel => exact ⟨1, by omega, by go_num, by first | trivial | rfl, fun _ => Hx.out, by omega⟩
        case measure => first | (simp [intOf]; done) | (simp [intOf]; omega)
      · have hd : (x != 0) = true := by simp [hx]
        have Hx := Lib.hid hx; clear hx
        go_wp2
        go_ret
        exact ⟨ret_i64 (by rw [orI, if_neg Hx.out]), rfl⟩
    · have Hx := Lib.hid (q1 e)
      clear q1
      rcases Nat.lt_or_ge k 2 with e' | e'
      · obtain rfl : k = 1 := by omega
        clear q2
        by_cases hy : y = 0
        · have hd : (y != 0) = false := by simp [hy]
          have Hy := Lib.hid hy; clear hy
          go_wp2
          refine ⟨?rel, ?measure⟩
          case rel => exact ⟨2, by omega, by go_num, by first | trivial | rfl, fun _ => Hx.out, fun _ => Hy.out⟩
          case measure => first | (simp [intOf]; done) | (simp [intOf]; omega)
        · have hd : (y != 0) = true := by simp [hy]
          have Hy := Lib.hid hy; clear hy
          go_wp2
          go_ret
          exact ⟨ret_i64 (by rw [orI, if_pos Hx.out]), rfl⟩
      · obtain rfl : k = 2 := by omega
        have Hy := Lib.hid (q2 e')
        clear q2
        go_wp2
        go_ret
        exact ⟨ret_i64 (by rw [orI, if_pos Hx.out, Hy.out]), rfl⟩

instance : Inhabited Pair := ⟨⟨0, 0⟩⟩
abbrev valP (x : Pair) : Value := .agg #[.int .i64 x.a, .int .i64 x.b]
def cmpP (x y : Pair) : Int := orI (Lib.compareInt x.a y.a) (Lib.compareInt x.b y.b)
def ltP (x y : Pair) : Prop := x.a < y.a ∨ x.a = y.a ∧ x.b < y.b
instance (x y : Pair) : Decidable (ltP x y) := by unfold ltP; infer_instance
theorem cmpP_lt (x y : Pair) : ltOf cmpP x y = decide (ltP x y) := by
  unfold ltOf cmpP Lib.compareInt orI ltP
  by_cases h1 : x.a < y.a
  · simp [h1]
  · by_cases h2 : y.a < x.a
    · have : ¬ x.a = y.a := by omega
      simp [h1, h2, this]
    · have : x.a = y.a := by omega
      by_cases h3 : x.b < y.b
      · simp [h3, this]
      · by_cases h4 : y.b < x.b <;> simp [h3, h4, this]
theorem cmpP_swo : Go.Sort.SWO (ltOf cmpP) where
  irrefl x := by rw [cmpP_lt]; simp [ltP]
  trans x y z h1 h2 := by
    rw [cmpP_lt] at h1 h2 ⊢
    replace h1 := of_decide_eq_true h1; replace h2 := of_decide_eq_true h2
    refine decide_eq_true ?_
    unfold ltP at *; omega
  ntrans x y z h1 h2 := by
    rw [cmpP_lt] at h1 h2 ⊢
    replace h1 := of_decide_eq_false h1; replace h2 := of_decide_eq_false h2
    refine decide_eq_false ?_
    unfold ltP at *; omega

set_option maxHeartbeats 2000000 in
set_option maxRecDepth 100000 in
theorem cmpP_ok (x y : Pair) (W : World) : Calls Try.prog 54 #[valP x, valP y] W fun e w' => e = .returned (.int .i64 (cmpP x y)) ∧ ∃ q os', w' = Go.Sort.grow (W.drewN q) os' := by
  have hca := fun W' => AnyG.cmp_Compare_int Try.layCmp x.a y.a W'
  have hcb := fun W' => AnyG.cmp_Compare_int Try.layCmp x.b y.b W'
  change ∀ W', Calls Try.prog 52 _ _ _ at hca
  change ∀ W', Calls Try.prog 52 _ _ _ at hcb
  unfold cmpP
  generalize Lib.compareInt x.a y.a = r at hca ⊢
  generalize Lib.compareInt x.b y.b = s at hcb ⊢
  go_enter Try.func54, Try.ntmps54
  go_wp2_with fail
  obtain ⟨W0, hW0, Hz0, hb0, hlt0, hc0⟩ := boxed W #[.int .i64 x.a, .int .i64 x.b] 48
  obtain ⟨W1, hW1, Hz1, hb1, hlt1, hc1⟩ := boxed W0 #[.int .i64 y.a, .int .i64 y.b] 48
  have a0 : W1.drew.cell? _ = _ := cell_later hb1.drew (hc0 0 _ rfl); have a1 : W1.drew.cell? _ = _ := cell_later hb1.drew (hc0 1 _ rfl)
  have b0 : W1.drew.cell? _ = _ := hc1 0 _ rfl; have b1 : W1.drew.cell? _ = _ := hc1 1 _ rfl
  rw [Hz0.out] at b0 b1
  clear hc0 hc1
  have hgrow' : ∃ os', W1 = Go.Sort.grow W os' := ⟨_, by rw [← hW1, ← hW0, Go.Sort.alloc_eq_grow, Go.Sort.alloc_eq_grow, Go.Sort.grow_grow]⟩
  have hgrow := Lib.hid hgrow'; clear hgrow'
  rw [hW0, hW1]
  clear hW0 hW1
  refine wp_region_S 10 (fun w' => w' = W1.drew) (by kernel_rfl) (by decide) ?_
  have hHeld : W1.drew = W1.drew := rfl
  refine wpAnyS_take 0 (.pointer (some ⟨W.heap.size, 0, none⟩)) (by rfl) (by kernel_rfl) (by exact fun _ _ _ h => h) (by rfl) (fun w' hS => by (subst hS; go_simp)) hHeld ?_
  simp only [Act.put]
  refine wpAnyS_take 1 (.int .i64 x.a) (by rfl) (by kernel_rfl) (by exact fun _ _ _ h => h) (by rfl) (fun w' hS => by (subst hS; go_simp)) hHeld ?_
  simp only [Act.put]
  refine wpAnyS_take 2 (.pointer (some ⟨W.heap.size + 1, 0, none⟩)) (by rfl) (by kernel_rfl) (by exact fun _ _ _ h => h) (by rfl) (fun w' hS => by (subst hS; go_simp)) hHeld ?_
  simp only [Act.put]
  refine wpAnyS_take 3 (.int .i64 y.a) (by rfl) (by kernel_rfl) (by exact fun _ _ _ h => h) (by rfl) (fun w' hS => by (subst hS; go_simp)) hHeld ?_
  simp only [Act.put]
  refine wpAnyS_take 5 (.pointer (some ⟨W.heap.size, 1, none⟩)) (by rfl) (by kernel_rfl) (by exact fun _ _ _ h => h) (by rfl) (fun w' hS => by (subst hS; go_simp)) hHeld ?_
  simp only [Act.put]
  refine wpAnyS_take 6 (.int .i64 x.b) (by rfl) (by kernel_rfl) (by exact fun _ _ _ h => h) (by rfl) (fun w' hS => by (subst hS; go_simp)) hHeld ?_
  simp only [Act.put]
  refine wpAnyS_take 7 (.pointer (some ⟨W.heap.size + 1, 1, none⟩)) (by rfl) (by kernel_rfl) (by exact fun _ _ _ h => h) (by rfl) (fun w' hS => by (subst hS; go_simp)) hHeld ?_
  simp only [Act.put]
  refine wpAnyS_take 8 (.int .i64 y.b) (by rfl) (by kernel_rfl) (by exact fun _ _ _ h => h) (by rfl) (fun w' hS => by (subst hS; go_simp)) hHeld ?_
  simp only [Act.put]
  clear hHeld
  refine wpAnyS_one 4 (by kernel_rfl) (by rfl) (by decide) (fun K hK => ?_)
  have HK := Lib.hid hK; clear hK
  rw [if_pos (by rfl)]
  go_simp
  refine (hca _).mono ?_
  rintro e w2 ⟨rfl, rfl⟩
  refine HK.out _ _ rfl ?_
  clear HK
  refine wpAnyS_one 9 (by kernel_rfl) (by rfl) (by decide) (fun K hK => ?_)
  have HK := Lib.hid hK; clear hK
  rw [if_pos (by rfl)]
  go_simp
  refine (hcb _).mono ?_
  rintro e w2 ⟨rfl, rfl⟩
  refine HK.out _ _ rfl ?_
  clear HK
  refine (show tailOf _ _ _ _ _ _ _ _ from ⟨by kernel_rfl, ?_⟩)
  simp only [List.drop_succ_cons, List.drop_zero]
  go_wp2_with fail
  refine (Or_ok _ r s _ (by go_simp) (by go_simp)).mono ?_
  rintro e w3 ⟨rfl, rfl⟩
  go_wp2_with fail
  go_ret
  obtain ⟨os, hq⟩ := hgrow.out
  exact ⟨rfl, 1, _, by rw [hq, Go.Sort.alloc_eq_grow, Go.Sort.grow_grow]; rfl⟩
theorem cmpP_lays (blk off size : Nat) (w : World) : CmpLays Try.prog 54 #[] encP 2 cmpP blk off size w := fun _ _ _ _ x y => cmpP_ok x y _

/-- zs is l in the order of pairs. -/
def ByPair (l zs : List Pair) : Prop := zs.Perm l ∧ zs.Pairwise fun a b => ¬ ltP b a
theorem byPair_of {zs : List Pair} {d' : Array Pair} (hp : Go.Sort.PermIn 0 zs.toArray.size zs.toArray d') (hs : Go.Sort.SortedIn (ltOf cmpP) 0 zs.toArray.size d') : ByPair zs d'.toList ∧ d'.toList.length = zs.length := by
  obtain ⟨hsz, _, hperm⟩ := hp
  rw [← hsz, Array.extract_size, hsz, Array.extract_size] at hperm
  have hl : d'.size = zs.length := by simpa using hsz
  refine ⟨⟨by simpa using hperm, ?_⟩, by simpa using hl⟩
  rw [List.pairwise_iff_getElem]
  intro i j hi hj hij
  have hi' : i < d'.size := by simpa using hi
  have hj' : j < d'.size := by simpa using hj
  have := hs i j (Nat.zero_le _) hij (by rw [← hsz]; exact hj')
  rw [cmpP_lt, getElem!_pos d' i hi', getElem!_pos d' j hj'] at this
  simpa using this

set_option maxHeartbeats 2000000 in
theorem sortFuncP_ok (B : Nat) (v : Value) (zs : List Pair) (w : World) (h : OwnP B w v zs) (hn : zs.length ≤ 1048576) :
    Calls Try.prog 53 #[v, .func (.func 54) #[] #[]] w fun e w' => e = .returned (.tuple #[]) ∧ ∃ ys, OwnP B w' v ys ∧ ByPair zs ys ∧ ys.length = zs.length ∧ w.grownBy w' v.ownBlock := by
  have eg : ∀ args w, (callFunc 54 args).run Try.prog w = .ok (.enter 54 args) w := enters_of Try.func54 (by kernel_rfl) rfl
  rcases h.cases with ⟨rfl, rfl⟩ | ⟨g, cap, rfl, hg, hgw, _, _⟩
  · refine (show Calls Try.prog 53 _ w _ from AnyF.slices_SortFunc_none Try.laySortP none 0 _ w).mono ?_
    rintro e w' ⟨rfl, rfl⟩
    exact ⟨rfl, [], h, ⟨List.Perm.refl _, List.Pairwise.nil⟩, rfl, World.grownBy.refl _ _⟩
  · have hH := h.holdsK rfl lenP
    refine (show Calls Try.prog 53 _ w _ from AnyQ.slices_SortFunc Try.laySortP 2 Try.isAgg48 Try.sizeOf48 encP lenP oneP cmpP cmpP_swo 54 #[] g 0 cap zs.toArray w eg (cmpP_lays g 0 _ w) hH hgw (by simp; omega)).mono ?_
    rintro e w' ⟨rfl, d', n, os, hp, hs, rfl⟩
    obtain ⟨hby, hl⟩ := byPair_of hp hs
    exact ⟨rfl, d'.toList, h.sorted rfl lenP hl, hby, hl, Own.grown encP 2 (ys := d'.toList)⟩
end Go.Proofs.Ytnaoiochfdipiaa
/- slices.Compact at pairs of the call's own. No condition but a bound of the length. -/
namespace Go.Proofs.Ytnaoiochfdipiaa
open Go.RowKit Go.Shelf

theorem compInv_take {xs dk : List Pair} {kk : Nat} (h : Lib.CompInv xs.toArray xs.length kk dk.toArray) : dk.take kk = Lib.compact xs := by
  unfold Lib.compact
  have hs := h.size
  have hl := h.lt
  simp at hs
  apply List.ext_getElem?
  intro j
  by_cases hj : j < kk
  · rw [List.getElem?_take_of_lt hj, h.low j hj, getElem!_pos dk.toArray j (by simp; omega), List.getElem?_eq_getElem (by omega)]
    simp
  · rw [List.getElem?_take_eq_none (by omega), List.getElem?_eq_none (by rw [h.len]; omega)]
theorem grown_drewN {w w' : World} {r : Option Nat} (h : w.grownBy w' r) (n : Nat) : w.grownBy (w'.drewN n) r := ⟨h.os, h.tape, h.output, h.size, h.block⟩
theorem arrP {xs : List Pair} {k : Nat} {x : Pair} (h : xs[k]? = some x) : xs.toArray[k]! = x := by
  obtain ⟨h1, rfl⟩ := List.getElem?_eq_some_iff.1 h
  exact arr_get xs k h1
theorem setP (dk : List Pair) (k : Nat) (x : Pair) : dk.toArray.setIfInBounds k x = (dk.set k x).toArray := by simp
theorem zeroP (w : World) : (zeroValue 48).run Try.prog w = .ok (.agg #[.int .i64 0, .int .i64 0]) w := by kernel_rfl

set_option maxHeartbeats 4000000 in
set_option maxRecDepth 100000 in
theorem compactP_ok (B : Nat) (v : Value) (xs : List Pair) (w : World) (h : OwnP B w v xs) (hn : xs.length ≤ 1048576) :
    Calls Try.prog 55 #[v] w fun e w' => ∃ u, e = .returned u ∧ OwnP B w' u (Lib.compact xs) ∧ u.ownBlock = v.ownBlock ∧ w.grownBy w' v.ownBlock := by
  rcases h.cases with ⟨rfl, rfl⟩ | ⟨g, cap, rfl, hg, hgw, hcap, hmx⟩
  · go_enter Try.func55, Try.ntmps55
    go_wp2
    go_ret
    exact ⟨_, rfl, by simpa [Lib.compact, Lib.compactUpTo] using h, rfl, World.grownBy.refl _ _⟩
  have Hall : Hid ((∀ j, j < xs.length → Lib.keeps xs.toArray j = true) → Lib.compact xs = xs) := Lib.compact_all xs
  by_cases h2 : xs.length < 2
  · have hd : decide ((xs.length : Int) < 2) = true := by simp; omega
    have Hc := Lib.hid (Hall.out fun j hj => Lib.keeps_lt_one _ j (by omega))
    go_enter Try.func55, Try.ntmps55
    go_wp2
    go_ret
    exact ⟨_, rfl, by rw [Hc.out]; exact h, rfl, World.grownBy.refl _ _⟩
  have hd : decide ((xs.length : Int) < 2) = false := by simp; omega
  have hmx' : (cap : Int) ≤ 9223372036854775807 := by simp only [maxLen] at hmx; omega
  go_enter Try.func55, Try.ntmps55
  go_wp2
  go_loopw [3] (fun i wr => ∃ k : Nat, 1 ≤ k ∧ k ≤ xs.length ∧ i = .int .i64 k ∧ OwnP B wr (.slice (some ⟨g, 0, none⟩) xs.length cap) xs ∧ w.grownBy wr (some g) ∧ (∀ j, j < k → Lib.keeps xs.toArray j = true)) (fun i _ => xs.length - (intOf i).toNat)
  case atStart => exact ⟨1, by omega, by omega, rfl, h, World.grownBy.refl _ _, Lib.keeps_lt_one _⟩
  case round =>
    obtain ⟨k, hk1, hk, rfl, hown, hgr, hall⟩ := hrel
    have HA := Lib.hid hall; clear hall h
    by_cases hlt : k < xs.length
    · obtain ⟨x, hx⟩ := get_of_lt hlt
      obtain ⟨y, hy⟩ := get_of_lt (show k - 1 < xs.length by omega)
      have c0 := (hown.cellsAt lenP rfl hx (j := 0) rfl).1
      have c1 := (hown.cellsAt lenP rfl hx (j := 1) rfl).1
      have d0 := (hown.cellsAt lenP rfl hy (j := 0) rfl).1
      have d1 := (hown.cellsAt lenP rfl hy (j := 1) rfl).1
      simp only [Nat.add_zero] at c0 d0
      have Hx := Lib.hid (arrP hx); have Hy := Lib.hid (arrP hy); clear hx hy
      have hl1 : (k : Int) < (xs.length : Int) := by omega
      have hl0 : (0 : Int) ≤ (k : Int) := by omega
      have hck : ¬ cap = k := by omega
      have hcI : (k : Int) ≤ (xs.length : Int) := by omega
      have hcJ : (xs.length : Int) ≤ (cap : Int) := by omega
      have eP := eqlPair_
      by_cases hxy : x = y
      · have hdx : eqB x y = true := eqB_yes hxy
        have Hxy := Lib.hid hxy; clear hxy
        have Hown := Lib.hid hown; clear hown
        go_wp2
        go_quiet (fail)
        go_wp2
        clear c0 c1 d0 d1
        go_loopw [3, 5] (fun i j wx => ∃ (kk k2 : Nat) (dk : List Pair), i = .int .i64 kk ∧ j = .int .i64 k2 ∧ 1 ≤ k2 ∧ k + k2 ≤ xs.length ∧ OwnP B wx (.slice (some ⟨g, 0, none⟩) xs.length cap) dk ∧ w.grownBy wx (some g) ∧ Lib.CompInv xs.toArray (k + k2) kk dk.toArray) (fun _ j _ => xs.length - k - (intOf j).toNat)
        case atStart => exact ⟨k, 1, xs, rfl, rfl, Nat.le_refl _, by omega, Hown.out.drewN _, grown_drewN hgr _, Lib.CompInv.start HA.out (Lib.keeps_neg (by omega) (by rw [Hx.out, Hy.out, Hxy.out]))⟩
        case round =>
          clear Hown hgr
          obtain ⟨kk, k2, dk, rfl, rfl, h1, hle, hown, hgr, hI⟩ := hrel
          have hkk := hI.lt
          have hds := hI.size
          simp only [List.size_toArray] at hds
          have Hds := Lib.hid hds.symm; clear hds
          have HI := Lib.hid hI; clear hI
          obtain ⟨g', cap', cur⟩ : True ∧ True ∧ True := ⟨trivial, trivial, trivial⟩
          by_cases hlt2 : k + k2 < xs.length
          · obtain ⟨u, hu⟩ := get_of_lt (show k + k2 < dk.length by have := Hds.out; omega)
            obtain ⟨z, hz⟩ := get_of_lt (show k + k2 - 1 < dk.length by have := Hds.out; omega)
            obtain ⟨t, ht⟩ := get_of_lt (show kk < dk.length by have := Hds.out; omega)
            have c0 := (hown.cellsAt lenP Hds.out hu (j := 0) rfl).1
            have c1 := (hown.cellsAt lenP Hds.out hu (j := 1) rfl).1
            have d0 := (hown.cellsAt lenP Hds.out hz (j := 0) rfl).1
            have d1 := (hown.cellsAt lenP Hds.out hz (j := 1) rfl).1
            have t0 := hown.cellsAt lenP Hds.out ht (j := 0) rfl
            have t1 := hown.cellsAt lenP Hds.out ht (j := 1) rfl
            obtain ⟨t0, f0⟩ := t0
            obtain ⟨t1, f1⟩ := t1
            rw [show (k + k2) * 2 = k * 2 + k2 * 2 by omega] at c0 c1
            rw [show (k + k2 - 1) * 2 = k * 2 + (k2 - 1) * 2 by omega] at d0 d1
            simp only [Nat.add_zero] at c0 d0 t0 f0
            have Hu : Hid (xs.toArray[k + k2]! = u) := by show _ = _; rw [← HI.out.high (k + k2) (by omega)]; exact arrP hu
            have Hz : Hid (xs.toArray[k + k2 - 1]! = z) := by show _ = _; rw [← HI.out.high (k + k2 - 1) (by omega)]; exact arrP hz
            clear hu hz ht
            have hput := hown.put lenP (by omega) Hds.out (i := kk) (by omega) u
            have Hput := Lib.hid hput; have Hown := Lib.hid hown; clear hput hown
            have i1 : (k2 : Int) < ((xs.length - k : Nat) : Int) := by omega
            have i0 : (0 : Int) ≤ (k2 : Int) := by omega
            have i2 : (kk : Int) < (xs.length : Int) := by omega
            have i3 : (0 : Int) ≤ (kk : Int) := by omega
            have nP := neqPair_
            clear eP
            by_cases huv : u = z
            · have hdx2 : neB u z = false := neB_no huv
              have Huv := Lib.hid huv; clear huv
              go_wp2
              go_quiet (fail)
              go_wp2
              refine ⟨?rel, ?measure⟩
              case rel => exact ⟨kk, k2 + 1, dk, rfl, by go_num, by omega, by omega, Hown.out.drewN _, grown_drewN hgr _, HI.out.skip (Lib.keeps_neg (by omega) (by rw [Hu.out, Hz.out, Huv.out]))⟩
              case measure => first | (simp [intOf]; done) | (simp [intOf]; omega)
            · have hdx2 : neB u z = true := neB_yes huv
              have Huv := Lib.hid huv; clear huv
              go_wp2
              go_quiet (fail)
              go_wp2
              refine ⟨?rel, ?measure⟩
              case rel => exact ⟨kk + 1, k2 + 1, dk.set kk u, by go_num, by go_num, by omega, by omega, Hput.out.drewN _, grown_drewN (hgr.trans (setCells_grown g (encP u) _ (kk * 2))) _, by have := HI.out.keep (by simpa using hlt2) (Lib.keeps_pos (by rw [Hu.out, Hz.out]; exact Huv.out)); rw [Hu.out, setP] at this; exact this⟩
              case measure => first | (simp [intOf]; done) | (simp [intOf]; omega)
          · have hend : k + k2 = xs.length := by omega
            have Hend := Lib.hid hend; clear hend
            obtain ⟨cur, hB, hgc, q1, q2, q3, q4⟩ := hown.row Hds.out
            have hcl := fun ty => run_clear_rows (P := Try.prog) wr 37 48 ty (.agg #[.int .i64 0, .int .i64 0]) Try.underlying37 zeroP (by simp [Value.cells, Value.oneCell']) g (kk * 2) (xs.length - kk) (cap - kk) (by omega)
              (fun j hj => by rw [heap_cell hgc]; simp [Value.cells] at hj; rw [Array.getElem?_eq_getElem (by omega)]; rfl) (fun j hj => heap_free hgc)
            obtain ⟨Z, hZ⟩ : ∃ Z, (Builtin.zeroCells (Value.cells (.agg #[.int .i64 0, .int .i64 0])) (xs.length - kk)).toList = Z := ⟨_, rfl⟩
            have hZl : Z.length = (xs.length - kk) * 2 := by rw [← hZ, zeros_len]; rfl
            simp only [hZ] at hcl
            clear hZ
            have HZl := Lib.hid hZl; clear hZl
            have Hown := Lib.hid hown; clear hown q3 q4 hgc
            have i2 : (kk : Int) ≤ (xs.length : Int) := by omega
            have i3 : (0 : Int) ≤ (kk : Int) := by omega
            have i4 : (kk : Int) ≤ (cap : Int) := by omega
            have i5 : ¬ cap = kk := by omega
            have i6 : ¬ (k2 : Int) < ((xs.length - k : Nat) : Int) := by omega
            go_wp2
            go_ret
            have hI := HI.out
            rw [Hend.out] at hI
            have hcut := Hown.out.cut lenP Hds.out (m := kk) (by omega)
            rw [compInv_take hI] at hcut
            exact ⟨_, rfl, hcut.putTail lenP (by unfold Lib.compact; rw [hI.len]) (Nat.le_refl _) Z (by rw [HZl.out]; omega), rfl, hgr.trans (setCells_grown g Z _ (kk * 2))⟩
      · have hdx : eqB x y = false := eqB_no hxy
        have Hxy := Lib.hid hxy; clear hxy
        have Hown := Lib.hid hown; clear hown
        go_wp2
        go_quiet (fail)
        go_wp2
        refine ⟨?rel, ?measure⟩
        case rel => exact ⟨k + 1, by omega, by omega, by go_num, Hown.out.drewN _, grown_drewN hgr _, fun j hj => by by_cases e : j = k; (subst e; exact Lib.keeps_pos (by rw [Hx.out, Hy.out]; exact Hxy.out)); exact HA.out j (by omega)⟩
        case measure => first | (simp [intOf]; done) | (simp [intOf]; omega)
    · have hke : k = xs.length := by omega
      have Hc := Lib.hid (Hall.out fun j hj => HA.out j (by omega))
      clear hke
      go_wp2
      go_ret
      exact ⟨_, rfl, by rw [Hc.out]; exact hown, rfl, hgr⟩
end Go.Proofs.Ytnaoiochfdipiaa
/- Plain laws on pairs: what sorting and Compact leave of the pairs of links; sums of counts. No condition. -/
namespace Go.Proofs.Ytnaoiochfdipiaa
open Go.RowKit

/-- Two lists in the same strict order with the same members are equal. -/
theorem ord_unique {α : Type} {lt : α → α → Prop} (asym : ∀ {a b}, lt a b → lt b a → False) : ∀ {xs ys : List α}, xs.Pairwise lt → ys.Pairwise lt → (∀ n, n ∈ xs ↔ n ∈ ys) → xs = ys
  | [], [], _, _, _ => rfl
  | [], y :: ys, _, _, h => absurd ((h y).2 (by simp)) (by simp)
  | x :: xs, [], _, _, h => absurd ((h x).1 (by simp)) (by simp)
  | x :: xs, y :: ys, hx, hy, h => by
    rw [List.pairwise_cons] at hx hy
    have e : x = y := by
      have h1 := (h x).1 (by simp)
      have h2 := (h y).2 (by simp)
      rw [List.mem_cons] at h1 h2
      rcases h1 with h1 | h1
      · exact h1
      · rcases h2 with h2 | h2
        · exact h2.symm
        · exact (asym (hx.1 y h2) (hy.1 x h1)).elim
    subst e
    rw [ord_unique asym hx.2 hy.2 (fun n => ?_)]
    constructor
    · intro hn
      have := (h n).1 (List.mem_cons_of_mem _ hn)
      rw [List.mem_cons] at this
      rcases this with this | this
      · subst this; exact (asym (hx.1 n hn) (hx.1 n hn)).elim
      · exact this
    · intro hn
      have := (h n).2 (List.mem_cons_of_mem _ hn)
      rw [List.mem_cons] at this
      rcases this with this | this
      · subst this; exact (asym (hy.1 n hn) (hy.1 n hn)).elim
      · exact this

def pairOf (x : Link) : Pair := ⟨x.obv, x.rev⟩
def rowPairs (r : List Int) (ls : List Link) (a : Int) : List Pair := (r.filter fun b => decide (0 < countM ls a b)).map (Pair.mk a)
/-- The pairs of dies that have a link. -/
def pairsOf (o r : List Int) (ls : List Link) : List Pair := o.flatMap (rowPairs r ls)
def pairsG (g : Graph) : List Pair := if graphB g = true then pairsOf g.obv g.rev g.links else []
theorem countM_pos {ls : List Link} {a b : Int} : 0 < countM ls a b ↔ ∃ x ∈ ls, x.obv = a ∧ x.rev = b := by
  unfold countM
  rw [List.countP_pos_iff]
  simp
theorem rowPairs_mem {r : List Int} {ls : List Link} {a : Int} {p : Pair} : p ∈ rowPairs r ls a ↔ p.a = a ∧ p.b ∈ r ∧ ∃ x ∈ ls, x.obv = a ∧ x.rev = p.b := by
  unfold rowPairs
  simp only [List.mem_map, List.mem_filter, decide_eq_true_eq, countM_pos]
  constructor
  · rintro ⟨b, ⟨hb, hx⟩, rfl⟩; exact ⟨rfl, hb, hx⟩
  · rintro ⟨rfl, hb, hx⟩; exact ⟨p.b, ⟨hb, hx⟩, rfl⟩
theorem pairsOf_mem {o r : List Int} {ls : List Link} (ho : ∀ x ∈ ls, x.obv ∈ o) (hr : ∀ x ∈ ls, x.rev ∈ r) (p : Pair) : p ∈ pairsOf o r ls ↔ p ∈ ls.map pairOf := by
  unfold pairsOf
  simp only [List.mem_flatMap, rowPairs_mem, List.mem_map]
  constructor
  · rintro ⟨a, _, rfl, _, x, hx, e1, e2⟩
    exact ⟨x, hx, by cases p; simp_all [pairOf]⟩
  · rintro ⟨x, hx, rfl⟩
    exact ⟨x.obv, ho x hx, rfl, hr x hx, x, hx, rfl, rfl⟩
theorem pairsOf_asc {o r : List Int} {ls : List Link} (ho : o.Pairwise (· < ·)) (hr : r.Pairwise (· < ·)) : (pairsOf o r ls).Pairwise ltP := by
  unfold pairsOf
  rw [List.pairwise_flatMap]
  constructor
  · intro a _
    unfold rowPairs
    rw [List.pairwise_map]
    exact (hr.sublist List.filter_sublist).imp fun h => .inr ⟨rfl, h⟩
  · refine ho.imp fun {a b} hab p hp q hq => ?_
    have h1 := (rowPairs_mem.1 hp).1
    have h2 := (rowPairs_mem.1 hq).1
    exact .inl (by omega)
theorem ltP_asym {a b : Pair} (h : ltP a b) (k : ltP b a) : False := by unfold ltP at *; omega
theorem compact_pairs {o r : List Int} {ls : List Link} (ho : o.Pairwise (· < ·)) (hr : r.Pairwise (· < ·)) (eo : ∀ x ∈ ls, x.obv ∈ o) (er : ∀ x ∈ ls, x.rev ∈ r) {zs : List Pair} (h : ByPair (ls.map pairOf) zs) : Lib.compact zs = pairsOf o r ls := by
  obtain ⟨h1, h2⟩ := compact_asc (fun a b : Pair => ¬ ltP b a) (fun h1 h2 h3 => by unfold ltP at *; omega) (fun {a b} h1 h2 => by
    unfold ltP at *
    have e1 : a.a = b.a := by omega
    have e2 : a.b = b.b := by omega
    cases a; cases b; simp_all) zs h.2
  refine ord_unique ltP_asym (h1.imp fun {a b} h => ?_) (pairsOf_asc ho hr) fun p => ?_
  · obtain ⟨h1, h2⟩ := h
    unfold ltP at *
    by_cases e1 : a.a = b.a
    · by_cases e2 : a.b = b.b
      · exact absurd (by cases a; cases b; simp_all) h2
      · omega
    · omega
  · rw [h2, h.1.mem_iff, pairsOf_mem eo er]

/-! ### Sums -/
def inO (ls : List Link) (o : List Int) : Nat := ls.countP fun x => o.contains x.obv
def inR (ls : List Link) (r : List Int) : Nat := ls.countP fun x => r.contains x.rev
def atOR (ls : List Link) (a : Int) (r : List Int) : Nat := ls.countP fun x => x.obv == a && r.contains x.rev
theorem countP_or {α : Type} (p q : α → Bool) (h : ∀ x, p x = true → q x = true → False) : ∀ ls : List α, ls.countP (fun x => p x || q x) = ls.countP p + ls.countP q
  | [] => rfl
  | x :: ls => by
    rw [List.countP_cons, List.countP_cons, List.countP_cons, countP_or p q h ls]
    have := h x
    cases hp : p x <;> cases hq : q x <;> simp_all <;> omega
theorem contains_snoc' (l : List Int) (a x : Int) : (l ++ [a]).contains x = (l.contains x || x == a) := by
  rw [Bool.eq_iff_iff]; simp
theorem fresh_take {o : List Int} (ho : o.Pairwise (· < ·)) {i : Nat} {a : Int} (ha : o[i]? = some a) : (o.take i).contains a = false := by
  rw [Bool.eq_false_iff]
  intro h
  obtain ⟨j, hj⟩ := List.mem_iff_getElem?.1 (List.contains_iff_mem.1 h)
  have hlt := lt_of_get hj
  rw [List.length_take] at hlt
  rw [List.getElem?_take_of_lt (by omega)] at hj
  have := asc_inj ho hj ha
  omega
theorem inO_snoc {o : List Int} (ho : o.Pairwise (· < ·)) {i : Nat} {a : Int} (ha : o[i]? = some a) (ls : List Link) : inO ls (o.take (i + 1)) = inO ls (o.take i) + ls.countP (fun x => x.obv == a) := by
  unfold inO
  rw [← countP_or _ _ (fun x h1 h2 => ?_)]
  · congr 1; funext x; rw [take_snoc' ha, contains_snoc']
  · have := fresh_take ho ha
    simp only [beq_iff_eq] at h2
    rw [← h2, h1] at this
    cases this
theorem inR_snoc {r : List Int} (hr : r.Pairwise (· < ·)) {i : Nat} {a : Int} (ha : r[i]? = some a) (ls : List Link) : inR ls (r.take (i + 1)) = inR ls (r.take i) + ls.countP (fun x => x.rev == a) := by
  unfold inR
  rw [← countP_or _ _ (fun x h1 h2 => ?_)]
  · congr 1; funext x; rw [take_snoc' ha, contains_snoc']
  · have := fresh_take hr ha
    simp only [beq_iff_eq] at h2
    rw [← h2, h1] at this
    cases this
theorem atOR_snoc {r : List Int} (hr : r.Pairwise (· < ·)) {j : Nat} {b : Int} (hb : r[j]? = some b) (ls : List Link) (a : Int) : atOR ls a (r.take (j + 1)) = atOR ls a (r.take j) + countM ls a b := by
  unfold atOR countM
  rw [← countP_or _ _ (fun x h1 h2 => ?_)]
  · congr 1; funext x; rw [take_snoc' hb, contains_snoc', Bool.and_or_distrib_left]
  · have := fresh_take hr hb
    simp only [Bool.and_eq_true, beq_iff_eq] at h1 h2
    rw [← h2.2, h1.2] at this
    cases this
theorem countP_all {α : Type} {p : α → Bool} {ls : List α} (h : ∀ x ∈ ls, p x = true) : ls.countP p = ls.length := List.countP_eq_length.2 h
theorem countP_same {α : Type} {p q : α → Bool} {ls : List α} (h : ∀ x ∈ ls, p x = q x) : ls.countP p = ls.countP q := List.countP_congr fun x hx => by rw [h x hx]
theorem atOR_all {r : List Int} {ls : List Link} (er : ∀ x ∈ ls, x.rev ∈ r) (a : Int) : atOR ls a r = ls.countP (fun x => x.obv == a) := by
  unfold atOR
  exact countP_same fun x hx => by simp [er x hx]
theorem pairsOf_snoc {o : List Int} {i : Nat} {a : Int} (ha : o[i]? = some a) (r : List Int) (ls : List Link) : pairsOf (o.take (i + 1)) r ls = pairsOf (o.take i) r ls ++ rowPairs r ls a := by
  unfold pairsOf
  rw [take_snoc' ha, List.flatMap_append]
  simp
theorem rowPairs_snoc {r : List Int} {j : Nat} {b : Int} (hb : r[j]? = some b) (ls : List Link) (a : Int) : rowPairs (r.take (j + 1)) ls a = rowPairs (r.take j) ls a ++ (if 0 < countM ls a b then [⟨a, b⟩] else []) := by
  unfold rowPairs
  rw [take_snoc' hb, List.filter_append, List.map_append]
  by_cases h : 0 < countM ls a b <;> simp [h]
theorem pairs_prefix {o r : List Int} {ls : List Link} {i j : Nat} {a : Int} (ha : o[i]? = some a) : (pairsOf (o.take i) r ls ++ rowPairs (r.take j) ls a) <+: pairsOf o r ls := by
  have e1 : pairsOf o r ls = pairsOf (o.take (i + 1)) r ls ++ pairsOf (o.drop (i + 1)) r ls := by
    unfold pairsOf
    rw [← List.flatMap_append, List.take_append_drop]
  have e2 : rowPairs r ls a = rowPairs (r.take j) ls a ++ rowPairs (r.drop j) ls a := by
    unfold rowPairs
    rw [← List.map_append, ← List.filter_append, List.take_append_drop]
  rw [e1, pairsOf_snoc ha, e2]
  exact ⟨rowPairs (r.drop j) ls a ++ pairsOf (o.drop (i + 1)) r ls, by simp only [List.append_assoc]⟩
theorem pairs_at {o r : List Int} {ls : List Link} {i j : Nat} {a b : Int} (ha : o[i]? = some a) (hb : r[j]? = some b) (h : 0 < countM ls a b) : (pairsOf o r ls)[(pairsOf (o.take i) r ls ++ rowPairs (r.take j) ls a).length]? = some ⟨a, b⟩ := by
  obtain ⟨t, ht⟩ := pairs_prefix (r := r) (ls := ls) (j := j + 1) ha
  rw [rowPairs_snoc hb, if_pos h] at ht
  rw [← ht]
  simp
theorem graphB_ends {g : Graph} (h : graphB g = true) : (∀ x ∈ g.links, x.obv ∈ g.obv) ∧ ∀ x ∈ g.links, x.rev ∈ g.rev := by
  have hok := ((graphB_iff g).1 h).ends
  constructor
  · intro x hx
    have := List.all_eq_true.1 hok x hx
    simp only [Bool.and_eq_true, hasB_iff] at this
    exact this.1
  · intro x hx
    have := List.all_eq_true.1 hok x hx
    simp only [Bool.and_eq_true, hasB_iff] at this
    exact this.2
theorem pairsOf_len (o r : List Int) (ls : List Link) : (pairsOf o r ls).length ≤ o.length * r.length := by
  unfold pairsOf
  induction o with
  | nil => simp
  | cons a o ih =>
    rw [List.flatMap_cons, List.length_append, List.length_cons, Nat.add_mul]
    have : (rowPairs r ls a).length ≤ r.length := by unfold rowPairs; rw [List.length_map]; exact List.length_filter_le _ _
    omega
theorem matOf_at' {o r : List Int} {ls : List Link} {i : Nat} {a : Int} (h : o[i]? = some a) : (matOf o r ls)[i]? = some (r.map fun b => (countM ls a b : Int)) := by
  unfold matOf
  rw [List.getElem?_map, h]
  rfl
theorem row_at' {r : List Int} {ls : List Link} {j : Nat} {a b : Int} (h : r[j]? = some b) : (r.map fun b => (countM ls a b : Int))[j]? = some (countM ls a b : Int) := by
  rw [List.getElem?_map, h]
  rfl
theorem countM_len' (ls : List Link) (a b : Int) : countM ls a b ≤ ls.length := List.countP_le_length
theorem pairs_len' {o r : List Int} {ls : List Link} {i j : Nat} {a : Int} (ha : o[i]? = some a) : (pairsOf (o.take i) r ls ++ rowPairs (r.take j) ls a).length ≤ o.length * r.length :=
  Nat.le_trans (pairs_prefix ha).length_le (pairsOf_len o r ls)
end Go.Proofs.Ytnaoiochfdipiaa
/- linkage.Pairs. Condition: the argument reads as a graph. -/
namespace Go.Proofs.Ytnaoiochfdipiaa
open Go.RowKit Go.Shelf

set_option maxHeartbeats 4000000 in
set_option maxRecDepth 100000 in
theorem Pairs_ok (v : Value) (g : Graph) (w : World) (h : GraphAt w v g) :
    Calls Try.prog 37 #[v] w fun e w' => ∃ u, e = .returned (.tuple #[u, .int .i64 (validE g)]) ∧ Pairs w' u (pairsG g) ∧ Below w.heap.size w w' := by
  have h0 := h
  obtain ⟨v1, v2, v3, rfl, ho, hr, hl⟩ := h
  obtain ⟨A1, c1, rfl, _, _, _⟩ := ho.cells
  obtain ⟨A2, c2, rfl, _, _, _⟩ := hr.cells
  obtain ⟨A3, c3, rfl, l1, l2, hcl⟩ := hl.cells
  obtain ⟨W, hW, Hz, hwW, hlt, hc1⟩ := boxed w #[.slice A1 g.obv.length c1, .slice A2 g.rev.length c2, .slice A3 g.links.length c3] 25
  have a0 := hc1 0 _ rfl; have a1 := hc1 1 _ rfl; have a2 := hc1 2 _ rfl
  clear hc1
  go_enter Try.func37, Try.ntmps37
  go_wp2_with fail
  refine (Valid_ok _ _ _ (h0.below hwW)).mono ?_
  rintro e w1 ⟨rfl, hb1⟩
  clear hW
  have b0 := cell_later hb1 a0; have b1 := cell_later hb1 a1; have b2 := cell_later hb1 a2
  have hw1 := below_trans hwW hb1
  clear a0 a1 a2
  cases hg : graphB g
  · go_wp2_with fail
    go_ret2
    exact ⟨_, ret_mat (by simp [validE, hg]), by simp only [pairsG, hg]; exact (own_nil encP 2 48 0 _).slOf, hw1⟩
  have hok := (graphB_iff g).1 hg
  have hE := graphB_ends hg
  have Hcp := Lib.hid (fun zs (h : ByPair (g.links.map pairOf) zs) => compact_pairs (ascB_asc hok.ao) (ascB_asc hok.ar) hE.1 hE.2 h)
  have hll := hok.ll
  have hvz : validE g = 0 := by simp [validE, hg]
  have hmz : pairsG g = pairsOf g.obv g.rev g.links := by simp [pairsG, hg]
  have Hvz := Lib.hid hvz; have Hmz := Lib.hid hmz; clear hvz hmz hok hE hg
  obtain ⟨iP, hiP, hzP, hkP, hbP⟩ := info_parts infoP
  go_wp2_with fail
  go_loopw [4, 13] (fun u i wr => ∃ k : Nat, k ≤ g.links.length ∧ i = .int .i64 k ∧ OwnP w1.heap.size wr u ((g.links.take k).map pairOf) ∧ Below w1.heap.size w1 wr) (fun _ i _ => g.links.length - (intOf i).toNat)
  case atStart => exact ⟨0, Nat.zero_le _, rfl, own_nil _ _ _ _ _, Below.refl _ _⟩
  case round =>
    obtain ⟨k, hk, rfl, hown, hb⟩ := hrel
    by_cases hlt' : k < g.links.length
    · obtain ⟨b, o, rfl, _, hc⟩ := hcl k hlt'
      obtain ⟨x, hx⟩ := get_of_lt hlt'
      obtain ⟨e0, e1, e2⟩ := hc wr (hw1.trans (hb.mono hw1.size)) k x hx
      have Hx := Lib.hid hx; clear hx hc
      obtain ⟨W1, hW1, Hz1, hb2, hlt1, hc1⟩ := boxed wr #[.int .i64 x.id, .int .i64 x.obv, .int .i64 x.rev] 32
      have m1 := hc1 1 _ rfl; have m2 := hc1 2 _ rfl
      clear hc1
      have hq := hown.below hb2
      have hBs : w1.heap.size ≤ W1.heap.size := by have := hb.size; have := hb2.size; omega
      have hlen : ((g.links.take k).map pairOf).length ≤ 64 := by simp; omega
      have hbW := below_trans hb hb2
      go_wp2_with (at_builtin; refine wpList_append1 (enc := encP) (size := 2) (B := w1.heap.size) rfl (.tmp 17) (.tmp 23) _ rfl 48 iP _ 16 Try.underlying37 hiP hzP hkP hbP rfl (by decide) rfl hq (pairOf x) _ rfl lenP oneP _ rfl rfl (by omega) (by omega) hBs ?_; intro v' w2 hown' hgrow hat)
      refine ⟨?rel, ?measure⟩
      case rel => exact ⟨k + 1, by omega, by go_num, by rw [map_take_snoc _ Hx.out]; exact hown', hbW.trans (below_append hq hgrow hBs)⟩
      case measure => simp [intOf]; omega
    · have e1 : g.links.take k = g.links := List.take_of_length_le (by omega)
      rw [e1] at hown
      clear e1
      have hlen : (g.links.map pairOf).length ≤ 1048576 := by simp; omega
      have hww := hw1.trans (hb.mono hw1.size)
      have hsz := hb.size
      have hsz1 := hw1.size
      have Hown := Lib.hid hown; clear hown
      go_wp2_with fail
      refine (sortFuncP_ok _ _ _ _ Hown.out hlen).mono ?_
      rintro e w2 ⟨rfl, ys, hys, hby, hyl, hg2⟩
      have hb2 : Below w.heap.size w w2 := hww.grown hg2 (by omega) (fun j e => by have := (Hown.out.lt j e).1; omega)
      have Hby := Lib.hid hby; have Hyl := Lib.hid hyl; clear hby hyl
      have hz2 := hg2.size
      clear hg2
      go_wp2_with fail
      refine (compactP_ok _ _ _ _ hys (by rw [Hyl.out]; exact hlen)).mono ?_
      rintro e w3 ⟨u, rfl, hu, _, hg3⟩
      rw [Hcp.out _ Hby.out] at hu
      have hb3 : Below w.heap.size w w3 := hb2.grown hg3 (by omega) (fun j e => by have := (hys.lt j e).1; omega)
      go_wp2_with fail
      go_ret2
      exact ⟨_, ret_mat Hvz.out.symm, by rw [Hmz.out]; exact hu.slOf, hb3⟩
end Go.Proofs.Ytnaoiochfdipiaa
