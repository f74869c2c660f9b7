/- cmp.Or at two numbers, the order of linkage.Pairs, slices.SortFunc at pairs. -/
import Derived.Test.YtnaoiochfdipiaaShelf
import Derived.Test.YtnaoiochfdipiaaOwn
import Derived.Test.YtnaoiochfdipiaaTail
import Derived.Test.YtnaoiochfdipiaaReadB
namespace Go.Proofs.Ytnaoiochfdipiaa
open Go.RowKit Go.Shelf

def orI (x y : Int) : Int := if x = 0 then y else x
set_option maxHeartbeats 1000000 in
theorem Or_ok (g : Nat) (x y : Int) (w : World) (h0 : w.cell? ⟨g, 0, none⟩ = some (.int .i64 x)) (h1 : w.cell? ⟨g, 1, none⟩ = some (.int .i64 y)) :
    Calls Try.prog 51 #[.slice (some ⟨g, 0, none⟩) 2 2] w fun e w' => e = .returned (.int .i64 (orI x y)) ∧ w = w' := by
  go_enter Try.func51, Try.ntmps51
  go_wp2
  go_loopw [8] (fun i wr => ∃ k : Nat, k ≤ 2 ∧ i = .int .i64 k ∧ wr = w ∧ (1 ≤ k → x = 0) ∧ (2 ≤ k → y = 0)) (fun i _ => 2 - (intOf i).toNat)
  case atStart => exact ⟨0, by omega, rfl, rfl, by omega, by omega⟩
  case round =>
    obtain ⟨k, hk, rfl, rfl, q1, q2⟩ := hrel
    rcases Nat.lt_or_ge k 1 with e | e
    · obtain rfl : k = 0 := by omega
      clear q1 q2
      by_cases hx : x = 0
      · have hd : (x != 0) = false := by simp [hx]
        have Hx := Lib.hid hx; clear hx
        go_wp2
        refine ⟨?rel, ?measure⟩
        case rel => exact ⟨1, by omega, by go_num, by first | trivial | rfl, fun _ => Hx.out, by omega⟩
        case measure => first | (simp [intOf]; done) | (simp [intOf]; omega)
      · have hd : (x != 0) = true := by simp [hx]
        have Hx := Lib.hid hx; clear hx
        go_wp2
        go_ret
        exact ⟨ret_i64 (by rw [orI, if_neg Hx.out]), rfl⟩
    · have Hx := Lib.hid (q1 e)
      clear q1
      rcases Nat.lt_or_ge k 2 with e' | e'
      · obtain rfl : k = 1 := by omega
        clear q2
        by_cases hy : y = 0
        · have hd : (y != 0) = false := by simp [hy]
          have Hy := Lib.hid hy; clear hy
          go_wp2
          refine ⟨?rel, ?measure⟩
          case rel => exact ⟨2, by omega, by go_num, by first | trivial | rfl, fun _ => Hx.out, fun _ => Hy.out⟩
          case measure => first | (simp [intOf]; done) | (simp [intOf]; omega)
        · have hd : (y != 0) = true := by simp [hy]
          have Hy := Lib.hid hy; clear hy
          go_wp2
          go_ret
          exact ⟨ret_i64 (by rw [orI, if_pos Hx.out]), rfl⟩
      · obtain rfl : k = 2 := by omega
        have Hy := Lib.hid (q2 e')
        clear q2
        go_wp2
        go_ret
        exact ⟨ret_i64 (by rw [orI, if_pos Hx.out, Hy.out]), rfl⟩

instance : Inhabited Pair := ⟨⟨0, 0⟩⟩
abbrev valP (x : Pair) : Value := .agg #[.int .i64 x.a, .int .i64 x.b]
def cmpP (x y : Pair) : Int := orI (Lib.compareInt x.a y.a) (Lib.compareInt x.b y.b)
def ltP (x y : Pair) : Prop := x.a < y.a ∨ x.a = y.a ∧ x.b < y.b
instance (x y : Pair) : Decidable (ltP x y) := by unfold ltP; infer_instance
theorem cmpP_lt (x y : Pair) : ltOf cmpP x y = decide (ltP x y) := by
  unfold ltOf cmpP Lib.compareInt orI ltP
  by_cases h1 : x.a < y.a
  · simp [h1]
  · by_cases h2 : y.a < x.a
    · have : ¬ x.a = y.a := by omega
      simp [h1, h2, this]
    · have : x.a = y.a := by omega
      by_cases h3 : x.b < y.b
      · simp [h3, this]
      · by_cases h4 : y.b < x.b <;> simp [h3, h4, this]
theorem cmpP_swo : Go.Sort.SWO (ltOf cmpP) where
  irrefl x := by rw [cmpP_lt]; simp [ltP]
  trans x y z h1 h2 := by
    rw [cmpP_lt] at h1 h2 ⊢
    replace h1 := of_decide_eq_true h1; replace h2 := of_decide_eq_true h2
    refine decide_eq_true ?_
    unfold ltP at *; omega
  ntrans x y z h1 h2 := by
    rw [cmpP_lt] at h1 h2 ⊢
    replace h1 := of_decide_eq_false h1; replace h2 := of_decide_eq_false h2
    refine decide_eq_false ?_
    unfold ltP at *; omega

set_option maxHeartbeats 2000000 in
set_option maxRecDepth 100000 in
theorem cmpP_ok (x y : Pair) (W : World) : Calls Try.prog 54 #[valP x, valP y] W fun e w' => e = .returned (.int .i64 (cmpP x y)) ∧ ∃ q os', w' = Go.Sort.grow (W.drewN q) os' := by
  have hca := fun W' => AnyG.cmp_Compare_int Try.layCmp x.a y.a W'
  have hcb := fun W' => AnyG.cmp_Compare_int Try.layCmp x.b y.b W'
  change ∀ W', Calls Try.prog 52 _ _ _ at hca
  change ∀ W', Calls Try.prog 52 _ _ _ at hcb
  unfold cmpP
  generalize Lib.compareInt x.a y.a = r at hca ⊢
  generalize Lib.compareInt x.b y.b = s at hcb ⊢
  go_enter Try.func54, Try.ntmps54
  go_wp2_with fail
  obtain ⟨W0, hW0, Hz0, hb0, hlt0, hc0⟩ := boxed W #[.int .i64 x.a, .int .i64 x.b] 48
  obtain ⟨W1, hW1, Hz1, hb1, hlt1, hc1⟩ := boxed W0 #[.int .i64 y.a, .int .i64 y.b] 48
  have a0 : W1.drew.cell? _ = _ := cell_later hb1.drew (hc0 0 _ rfl); have a1 : W1.drew.cell? _ = _ := cell_later hb1.drew (hc0 1 _ rfl)
  have b0 : W1.drew.cell? _ = _ := hc1 0 _ rfl; have b1 : W1.drew.cell? _ = _ := hc1 1 _ rfl
  rw [Hz0.out] at b0 b1
  clear hc0 hc1
  have hgrow' : ∃ os', W1 = Go.Sort.grow W os' := ⟨_, by rw [← hW1, ← hW0, Go.Sort.alloc_eq_grow, Go.Sort.alloc_eq_grow, Go.Sort.grow_grow]⟩
  have hgrow := Lib.hid hgrow'; clear hgrow'
  rw [hW0, hW1]
  clear hW0 hW1
  refine wp_region_S 10 (fun w' => w' = W1.drew) (by kernel_rfl) (by decide) ?_
  have hHeld : W1.drew = W1.drew := rfl
  refine wpAnyS_take 0 (.pointer (some ⟨W.heap.size, 0, none⟩)) (by rfl) (by kernel_rfl) (by exact fun _ _ _ h => h) (by rfl) (fun w' hS => by (subst hS; go_simp)) hHeld ?_
  simp only [Act.put]
  refine wpAnyS_take 1 (.int .i64 x.a) (by rfl) (by kernel_rfl) (by exact fun _ _ _ h => h) (by rfl) (fun w' hS => by (subst hS; go_simp)) hHeld ?_
  simp only [Act.put]
  refine wpAnyS_take 2 (.pointer (some ⟨W.heap.size + 1, 0, none⟩)) (by rfl) (by kernel_rfl) (by exact fun _ _ _ h => h) (by rfl) (fun w' hS => by (subst hS; go_simp)) hHeld ?_
  simp only [Act.put]
  refine wpAnyS_take 3 (.int .i64 y.a) (by rfl) (by kernel_rfl) (by exact fun _ _ _ h => h) (by rfl) (fun w' hS => by (subst hS; go_simp)) hHeld ?_
  simp only [Act.put]
  refine wpAnyS_take 5 (.pointer (some ⟨W.heap.size, 1, none⟩)) (by rfl) (by kernel_rfl) (by exact fun _ _ _ h => h) (by rfl) (fun w' hS => by (subst hS; go_simp)) hHeld ?_
  simp only [Act.put]
  refine wpAnyS_take 6 (.int .i64 x.b) (by rfl) (by kernel_rfl) (by exact fun _ _ _ h => h) (by rfl) (fun w' hS => by (subst hS; go_simp)) hHeld ?_
  simp only [Act.put]
  refine wpAnyS_take 7 (.pointer (some ⟨W.heap.size + 1, 1, none⟩)) (by rfl) (by kernel_rfl) (by exact fun _ _ _ h => h) (by rfl) (fun w' hS => by (subst hS; go_simp)) hHeld ?_
  simp only [Act.put]
  refine wpAnyS_take 8 (.int .i64 y.b) (by rfl) (by kernel_rfl) (by exact fun _ _ _ h => h) (by rfl) (fun w' hS => by (subst hS; go_simp)) hHeld ?_
  simp only [Act.put]
  clear hHeld
  refine wpAnyS_one 4 (by kernel_rfl) (by rfl) (by decide) (fun K hK => ?_)
  have HK := Lib.hid hK; clear hK
  rw [if_pos (by rfl)]
  go_simp
  refine (hca _).mono ?_
  rintro e w2 ⟨rfl, rfl⟩
  refine HK.out _ _ rfl ?_
  clear HK
  refine wpAnyS_one 9 (by kernel_rfl) (by rfl) (by decide) (fun K hK => ?_)
  have HK := Lib.hid hK; clear hK
  rw [if_pos (by rfl)]
  go_simp
  refine (hcb _).mono ?_
  rintro e w2 ⟨rfl, rfl⟩
  refine HK.out _ _ rfl ?_
  clear HK
  refine (show tailOf _ _ _ _ _ _ _ _ from ⟨by kernel_rfl, ?_⟩)
  simp only [List.drop_succ_cons, List.drop_zero]
  go_wp2_with fail
  refine (Or_ok _ r s _ (by go_simp) (by go_simp)).mono ?_
  rintro e w3 ⟨rfl, rfl⟩
  go_wp2_with fail
  go_ret
  obtain ⟨os, hq⟩ := hgrow.out
  exact ⟨rfl, 1, _, by rw [hq, Go.Sort.alloc_eq_grow, Go.Sort.grow_grow]; rfl⟩
theorem cmpP_lays (blk off size : Nat) (w : World) : CmpLays Try.prog 54 #[] encP 2 cmpP blk off size w := fun _ _ _ _ x y => cmpP_ok x y _

/-- zs is l in the order of pairs. -/
def ByPair (l zs : List Pair) : Prop := zs.Perm l ∧ zs.Pairwise fun a b => ¬ ltP b a
theorem byPair_of {zs : List Pair} {d' : Array Pair} (hp : Go.Sort.PermIn 0 zs.toArray.size zs.toArray d') (hs : Go.Sort.SortedIn (ltOf cmpP) 0 zs.toArray.size d') : ByPair zs d'.toList ∧ d'.toList.length = zs.length := by
  obtain ⟨hsz, _, hperm⟩ := hp
  rw [← hsz, Array.extract_size, hsz, Array.extract_size] at hperm
  have hl : d'.size = zs.length := by simpa using hsz
  refine ⟨⟨by simpa using hperm, ?_⟩, by simpa using hl⟩
  rw [List.pairwise_iff_getElem]
  intro i j hi hj hij
  have hi' : i < d'.size := by simpa using hi
  have hj' : j < d'.size := by simpa using hj
  have := hs i j (Nat.zero_le _) hij (by rw [← hsz]; exact hj')
  rw [cmpP_lt, getElem!_pos d' i hi', getElem!_pos d' j hj'] at this
  simpa using this

set_option maxHeartbeats 2000000 in
theorem sortFuncP_ok (B : Nat) (v : Value) (zs : List Pair) (w : World) (h : OwnP B w v zs) (hn : zs.length ≤ 1048576) :
    Calls Try.prog 53 #[v, .func (.func 54) #[] #[]] w fun e w' => e = .returned (.tuple #[]) ∧ ∃ ys, OwnP B w' v ys ∧ ByPair zs ys ∧ ys.length = zs.length ∧ w.grownBy w' v.ownBlock := by
  have eg : ∀ args w, (callFunc 54 args).run Try.prog w = .ok (.enter 54 args) w := enters_of Try.func54 (by kernel_rfl) rfl
  rcases h.cases with ⟨rfl, rfl⟩ | ⟨g, cap, rfl, hg, hgw, _, _⟩
  · refine (show Calls Try.prog 53 _ w _ from AnyF.slices_SortFunc_none Try.laySortP none 0 _ w).mono ?_
    rintro e w' ⟨rfl, rfl⟩
    exact ⟨rfl, [], h, ⟨List.Perm.refl _, List.Pairwise.nil⟩, rfl, World.grownBy.refl _ _⟩
  · have hH := h.holdsK rfl lenP
    refine (show Calls Try.prog 53 _ w _ from AnyQ.slices_SortFunc Try.laySortP 2 Try.isAgg48 Try.sizeOf48 encP lenP oneP cmpP cmpP_swo 54 #[] g 0 cap zs.toArray w eg (cmpP_lays g 0 _ w) hH hgw (by simp; omega)).mono ?_
    rintro e w' ⟨rfl, d', n, os, hp, hs, rfl⟩
    obtain ⟨hby, hl⟩ := byPair_of hp hs
    exact ⟨rfl, d'.toList, h.sorted rfl lenP hl, hby, hl, Own.grown encP 2 (ys := d'.toList)⟩
end Go.Proofs.Ytnaoiochfdipiaa
