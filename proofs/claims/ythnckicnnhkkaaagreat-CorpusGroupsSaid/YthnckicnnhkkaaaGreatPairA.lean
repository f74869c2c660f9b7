/- cmp.Or at two numbers, the order of linkage.Pairs, slices.SortFunc at pairs. -/
import Derived.Test.YthnckicnnhkkaaaGreatShelf
import Derived.Test.YthnckicnnhkkaaaGreatOwn
import Derived.Test.YthnckicnnhkkaaaGreatTail
import Derived.Test.YthnckicnnhkkaaaGreatLinkE
namespace Go.Proofs.YthnckicnnhkkaaaGreat
open Go.RowKit Go.Shelf

def orI (x y : Int) : Int := if x = 0 then y else x
set_option maxHeartbeats 1000000 in
theorem Or_ok (g : Nat) (x y : Int) (w : World) (h0 : w.cell? ⟨g, 0, none⟩ = some (.int .i64 x)) (h1 : w.cell? ⟨g, 1, none⟩ = some (.int .i64 y)) :
    Calls Tryz.prog 82 #[.slice (some ⟨g, 0, none⟩) 2 2] w fun e w' => e = .returned (.int .i64 (orI x y)) ∧ w = w' := by
  go_enter Tryz.func82, Tryz.ntmps82
  go_wp2
  go_loopw [8] (fun i wr => ∃ k : Nat, k ≤ 2 ∧ i = .int .i64 k ∧ wr = w ∧ (1 ≤ k → x = 0) ∧ (2 ≤ k → y = 0)) (fun i _ => 2 - (intOf i).toNat)
  case atStart => exact ⟨0, by omega, rfl, rfl, by omega, by omega⟩
  case round =>
    obtain ⟨k, hk, rfl, rfl, q1, q2⟩ := hrel
    rcases Nat.lt_or_ge k 1 with e | e
    · obtain rfl : k = 0 := by omega
      clear q1 q2
      by_cases hx : x = 0
      · have hd : (x != 0) = false := by simp [hx]
        have Hx := Lib.hid hx; clear hx
        go_wp2
        refine ⟨?rel, ?measure⟩
        case rel => exact ⟨1, by omega, by go_num, by first | trivial | rfl, fun _ => Hx.out, by omega⟩
        case measure => first | (simp [intOf]; done) | (simp [intOf]; omega)
      · have hd : (x != 0) = true := by simp [hx]
        have Hx := Lib.hid hx; clear hx
        go_wp2
        go_ret
        exact ⟨ret_i64 (by rw [orI, if_neg Hx.out]), rfl⟩
    · have Hx := Lib.hid (q1 e)
      clear q1
      rcases Nat.lt_or_ge k 2 with e' | e'
      · obtain rfl : k = 1 := by omega
        clear q2
        by_cases hy : y = 0
        · have hd : (y != 0) = false := by simp [hy]
          have Hy := Lib.hid hy; clear hy
          go_wp2
          refine ⟨?rel, ?measure⟩
          case rel => exact ⟨2, by omega, by go_num, by first | trivial | rfl, fun _ => Hx.out, fun _ => Hy.out⟩
          case measure => first | (simp [intOf]; done) | (simp [intOf]; omega)
        · have hd : (y != 0) = true := by simp [hy]
          have Hy := Lib.hid hy; clear hy
          go_wp2
          go_ret
          exact ⟨ret_i64 (by rw [orI, if_pos Hx.out]), rfl⟩
      · obtain rfl : k = 2 := by omega
        have Hy := Lib.hid (q2 e')
        clear q2
        go_wp2
        go_ret
        exact ⟨ret_i64 (by rw [orI, if_pos Hx.out, Hy.out]), rfl⟩

instance : Inhabited Pair := ⟨⟨0, 0⟩⟩
abbrev valP (x : Pair) : Value := .agg #[.int .i64 x.a, .int .i64 x.b]
def cmpP (x y : Pair) : Int := orI (Lib.compareInt x.a y.a) (Lib.compareInt x.b y.b)
def ltP (x y : Pair) : Prop := x.a < y.a ∨ x.a = y.a ∧ x.b < y.b
instance (x y : Pair) : Decidable (ltP x y) := by unfold ltP; infer_instance
theorem cmpP_lt (x y : Pair) : ltOf cmpP x y = decide (ltP x y) := by
  unfold ltOf cmpP Lib.compareInt orI ltP
  by_cases h1 : x.a < y.a
  · simp [h1]
  · by_cases h2 : y.a < x.a
    · have : ¬ x.a = y.a := by omega
      simp [h1, h2, this]
    · have : x.a = y.a := by omega
      by_cases h3 : x.b < y.b
      · simp [h3, this]
      · by_cases h4 : y.b < x.b <;> simp [h3, h4, this]
theorem cmpP_swo : Go.Sort.SWO (ltOf cmpP) where
  irrefl x := by rw [cmpP_lt]; simp [ltP]
  trans x y z h1 h2 := by
    rw [cmpP_lt] at h1 h2 ⊢
    replace h1 := of_decide_eq_true h1; replace h2 := of_decide_eq_true h2
    refine decide_eq_true ?_
    unfold ltP at *; omega
  ntrans x y z h1 h2 := by
    rw [cmpP_lt] at h1 h2 ⊢
    replace h1 := of_decide_eq_false h1; replace h2 := of_decide_eq_false h2
    refine decide_eq_false ?_
    unfold ltP at *; omega

/-- zs is l in the order of pairs. -/
def ByPair (l zs : List Pair) : Prop := zs.Perm l ∧ zs.Pairwise fun a b => ¬ ltP b a
theorem byPair_of {zs : List Pair} {d' : Array Pair} (hp : Go.Sort.PermIn 0 zs.toArray.size zs.toArray d') (hs : Go.Sort.SortedIn (ltOf cmpP) 0 zs.toArray.size d') : ByPair zs d'.toList ∧ d'.toList.length = zs.length := by
  obtain ⟨hsz, _, hperm⟩ := hp
  rw [← hsz, Array.extract_size, hsz, Array.extract_size] at hperm
  have hl : d'.size = zs.length := by simpa using hsz
  refine ⟨⟨by simpa using hperm, ?_⟩, by simpa using hl⟩
  rw [List.pairwise_iff_getElem]
  intro i j hi hj hij
  have hi' : i < d'.size := by simpa using hi
  have hj' : j < d'.size := by simpa using hj
  have := hs i j (Nat.zero_le _) hij (by rw [← hsz]; exact hj')
  rw [cmpP_lt, getElem!_pos d' i hi', getElem!_pos d' j hj'] at this
  simpa using this

end Go.Proofs.YthnckicnnhkkaaaGreat
/- slices.Compact at pairs of the call's own. No condition but a bound of the length. -/
namespace Go.Proofs.YthnckicnnhkkaaaGreat
open Go.RowKit Go.Shelf

theorem compInv_take {xs dk : List Pair} {kk : Nat} (h : Lib.CompInv xs.toArray xs.length kk dk.toArray) : dk.take kk = Lib.compact xs := by
  unfold Lib.compact
  have hs := h.size
  have hl := h.lt
  simp at hs
  apply List.ext_getElem?
  intro j
  by_cases hj : j < kk
  · rw [List.getElem?_take_of_lt hj, h.low j hj, getElem!_pos dk.toArray j (by simp; omega), List.getElem?_eq_getElem (by omega)]
    simp
  · rw [List.getElem?_take_eq_none (by omega), List.getElem?_eq_none (by rw [h.len]; omega)]
theorem grown_drewN {w w' : World} {r : Option Nat} (h : w.grownBy w' r) (n : Nat) : w.grownBy (w'.drewN n) r := ⟨h.os, h.tape, h.output, h.size, h.block⟩
theorem arrP {xs : List Pair} {k : Nat} {x : Pair} (h : xs[k]? = some x) : xs.toArray[k]! = x := by
  obtain ⟨h1, rfl⟩ := List.getElem?_eq_some_iff.1 h
  exact arr_get xs k h1
theorem setP (dk : List Pair) (k : Nat) (x : Pair) : dk.toArray.setIfInBounds k x = (dk.set k x).toArray := by simp
theorem zeroP (w : World) : (zeroValue 87).run Tryz.prog w = .ok (.agg #[.int .i64 0, .int .i64 0]) w := by kernel_rfl

set_option maxHeartbeats 4000000 in
set_option maxRecDepth 100000 in
theorem compactP_ok (B : Nat) (v : Value) (xs : List Pair) (w : World) (h : OwnP B w v xs) (hn : xs.length ≤ 1048576) :
    Calls Tryz.prog 84 #[v] w fun e w' => ∃ u, e = .returned u ∧ OwnP B w' u (Lib.compact xs) ∧ u.ownBlock = v.ownBlock ∧ w.grownBy w' v.ownBlock := by
  rcases h.cases with ⟨rfl, rfl⟩ | ⟨g, cap, rfl, hg, hgw, hcap, hmx⟩
  · go_enter Tryz.func84, Tryz.ntmps84
    go_wp2
    go_ret
    exact ⟨_, rfl, by simpa [Lib.compact, Lib.compactUpTo] using h, rfl, World.grownBy.refl _ _⟩
  have Hall : Hid ((∀ j, j < xs.length → Lib.keeps xs.toArray j = true) → Lib.compact xs = xs) := Lib.compact_all xs
  by_cases h2 : xs.length < 2
  · have hd : decide ((xs.length : Int) < 2) = true := by simp; omega
    have Hc := Lib.hid (Hall.out fun j hj => Lib.keeps_lt_one _ j (by omega))
    go_enter Tryz.func84, Tryz.ntmps84
    go_wp2
    go_ret
    exact ⟨_, rfl, by rw [Hc.out]; exact h, rfl, World.grownBy.refl _ _⟩
  have hd : decide ((xs.length : Int) < 2) = false := by simp; omega
  have hmx' : (cap : Int) ≤ 9223372036854775807 := by simp only [maxLen] at hmx; omega
  go_enter Tryz.func84, Tryz.ntmps84
  go_wp2
  go_loopw [3] (fun i wr => ∃ k : Nat, 1 ≤ k ∧ k ≤ xs.length ∧ i = .int .i64 k ∧ OwnP B wr (.slice (some ⟨g, 0, none⟩) xs.length cap) xs ∧ w.grownBy wr (some g) ∧ (∀ j, j < k → Lib.keeps xs.toArray j = true)) (fun i _ => xs.length - (intOf i).toNat)
  case atStart => exact ⟨1, by omega, by omega, rfl, h, World.grownBy.refl _ _, Lib.keeps_lt_one _⟩
  case round =>
    obtain ⟨k, hk1, hk, rfl, hown, hgr, hall⟩ := hrel
    have HA := Lib.hid hall; clear hall h
    by_cases hlt : k < xs.length
    · obtain ⟨x, hx⟩ := get_of_lt hlt
      obtain ⟨y, hy⟩ := get_of_lt (show k - 1 < xs.length by omega)
      have c0 := (hown.cellsAt lenP rfl hx (j := 0) rfl).1
      have c1 := (hown.cellsAt lenP rfl hx (j := 1) rfl).1
      have d0 := (hown.cellsAt lenP rfl hy (j := 0) rfl).1
      have d1 := (hown.cellsAt lenP rfl hy (j := 1) rfl).1
      simp only [Nat.add_zero] at c0 d0
      have Hx := Lib.hid (arrP hx); have Hy := Lib.hid (arrP hy); clear hx hy
      have hl1 : (k : Int) < (xs.length : Int) := by omega
      have hl0 : (0 : Int) ≤ (k : Int) := by omega
      have hck : ¬ cap = k := by omega
      have hcI : (k : Int) ≤ (xs.length : Int) := by omega
      have hcJ : (xs.length : Int) ≤ (cap : Int) := by omega
      have eP := eqlPair_
      by_cases hxy : x = y
      · have hdx : eqB x y = true := eqB_yes hxy
        have Hxy := Lib.hid hxy; clear hxy
        have Hown := Lib.hid hown; clear hown
        go_wp2
        go_quiet (fail)
        go_wp2
        clear c0 c1 d0 d1
        go_loopw [3, 5] (fun i j wx => ∃ (kk k2 : Nat) (dk : List Pair), i = .int .i64 kk ∧ j = .int .i64 k2 ∧ 1 ≤ k2 ∧ k + k2 ≤ xs.length ∧ OwnP B wx (.slice (some ⟨g, 0, none⟩) xs.length cap) dk ∧ w.grownBy wx (some g) ∧ Lib.CompInv xs.toArray (k + k2) kk dk.toArray) (fun _ j _ => xs.length - k - (intOf j).toNat)
        case atStart => exact ⟨k, 1, xs, rfl, rfl, Nat.le_refl _, by omega, Hown.out.drewN _, grown_drewN hgr _, Lib.CompInv.start HA.out (Lib.keeps_neg (by omega) (by rw [Hx.out, Hy.out, Hxy.out]))⟩
        case round =>
          clear Hown hgr
          obtain ⟨kk, k2, dk, rfl, rfl, h1, hle, hown, hgr, hI⟩ := hrel
          have hkk := hI.lt
          have hds := hI.size
          simp only [List.size_toArray] at hds
          have Hds := Lib.hid hds.symm; clear hds
          have HI := Lib.hid hI; clear hI
          obtain ⟨g', cap', cur⟩ : True ∧ True ∧ True := ⟨trivial, trivial, trivial⟩
          by_cases hlt2 : k + k2 < xs.length
          · obtain ⟨u, hu⟩ := get_of_lt (show k + k2 < dk.length by have := Hds.out; omega)
            obtain ⟨z, hz⟩ := get_of_lt (show k + k2 - 1 < dk.length by have := Hds.out; omega)
            obtain ⟨t, ht⟩ := get_of_lt (show kk < dk.length by have := Hds.out; omega)
            have c0 := (hown.cellsAt lenP Hds.out hu (j := 0) rfl).1
            have c1 := (hown.cellsAt lenP Hds.out hu (j := 1) rfl).1
            have d0 := (hown.cellsAt lenP Hds.out hz (j := 0) rfl).1
            have d1 := (hown.cellsAt lenP Hds.out hz (j := 1) rfl).1
            have t0 := hown.cellsAt lenP Hds.out ht (j := 0) rfl
            have t1 := hown.cellsAt lenP Hds.out ht (j := 1) rfl
            obtain ⟨t0, f0⟩ := t0
            obtain ⟨t1, f1⟩ := t1
            rw [show (k + k2) * 2 = k * 2 + k2 * 2 by omega] at c0 c1
            rw [show (k + k2 - 1) * 2 = k * 2 + (k2 - 1) * 2 by omega] at d0 d1
            simp only [Nat.add_zero] at c0 d0 t0 f0
            have Hu : Hid (xs.toArray[k + k2]! = u) := by show _ = _; rw [← HI.out.high (k + k2) (by omega)]; exact arrP hu
            have Hz : Hid (xs.toArray[k + k2 - 1]! = z) := by show _ = _; rw [← HI.out.high (k + k2 - 1) (by omega)]; exact arrP hz
            clear hu hz ht
            have hput := hown.put lenP (by omega) Hds.out (i := kk) (by omega) u
            have Hput := Lib.hid hput; have Hown := Lib.hid hown; clear hput hown
            have i1 : (k2 : Int) < ((xs.length - k : Nat) : Int) := by omega
            have i0 : (0 : Int) ≤ (k2 : Int) := by omega
            have i2 : (kk : Int) < (xs.length : Int) := by omega
            have i3 : (0 : Int) ≤ (kk : Int) := by omega
            have nP := neqPair_
            clear eP
            by_cases huv : u = z
            · have hdx2 : neB u z = false := neB_no huv
              have Huv := Lib.hid huv; clear huv
              go_wp2
              go_quiet (fail)
              go_wp2
              refine ⟨?rel, ?measure⟩
              case rel => exact ⟨kk, k2 + 1, dk, rfl, by go_num, by omega, by omega, Hown.out.drewN _, grown_drewN hgr _, HI.out.skip (Lib.keeps_neg (by omega) (by rw [Hu.out, Hz.out, Huv.out]))⟩
              case measure => first | (simp [intOf]; done) | (simp [intOf]; omega)
            · have hdx2 : neB u z = true := neB_yes huv
              have Huv := Lib.hid huv; clear huv
              go_wp2
              go_quiet (fail)
              go_wp2
              refine ⟨?rel, ?measure⟩
              case rel => exact ⟨kk + 1, k2 + 1, dk.set kk u, by go_num, by go_num, by omega, by omega, Hput.out.drewN _, grown_drewN (hgr.trans (setCells_grown g (encP u) _ (kk * 2))) _, by have := HI.out.keep (by simpa using hlt2) (Lib.keeps_pos (by rw [Hu.out, Hz.out]; exact Huv.out)); rw [Hu.out, setP] at this; exact this⟩
              case measure => first | (simp [intOf]; done) | (simp [intOf]; omega)
          · have hend : k + k2 = xs.length := by omega
            have Hend := Lib.hid hend; clear hend
            obtain ⟨cur, hB, hgc, q1, q2, q3, q4⟩ := hown.row Hds.out
            have hcl := fun ty => run_clear_rows (P := Tryz.prog) wr 60 87 ty (.agg #[.int .i64 0, .int .i64 0]) Tryz.underlying60 zeroP (by simp [Value.cells, Value.oneCell']) g (kk * 2) (xs.length - kk) (cap - kk) (by omega)
              (fun j hj => by rw [heap_cell hgc]; simp [Value.cells] at hj; rw [Array.getElem?_eq_getElem (by omega)]; rfl) (fun j hj => heap_free hgc)
            obtain ⟨Z, hZ⟩ : ∃ Z, (Builtin.zeroCells (Value.cells (.agg #[.int .i64 0, .int .i64 0])) (xs.length - kk)).toList = Z := ⟨_, rfl⟩
            have hZl : Z.length = (xs.length - kk) * 2 := by rw [← hZ, zeros_len]; rfl
            simp only [hZ] at hcl
            clear hZ
            have HZl := Lib.hid hZl; clear hZl
            have Hown := Lib.hid hown; clear hown q3 q4 hgc
            have i2 : (kk : Int) ≤ (xs.length : Int) := by omega
            have i3 : (0 : Int) ≤ (kk : Int) := by omega
            have i4 : (kk : Int) ≤ (cap : Int) := by omega
            have i5 : ¬ cap = kk := by omega
            have i6 : ¬ (k2 : Int) < ((xs.length - k : Nat) : Int) := by omega
            go_wp2
            go_ret
            have hI := HI.out
            rw [Hend.out] at hI
            have hcut := Hown.out.cut lenP Hds.out (m := kk) (by omega)
            rw [compInv_take hI] at hcut
            exact ⟨_, rfl, hcut.putTail lenP (by unfold Lib.compact; rw [hI.len]) (Nat.le_refl _) Z (by rw [HZl.out]; omega), rfl, hgr.trans (setCells_grown g Z _ (kk * 2))⟩
      · have hdx : eqB x y = false := eqB_no hxy
        have Hxy := Lib.hid hxy; clear hxy
        have Hown := Lib.hid hown; clear hown
        go_wp2
        go_quiet (fail)
        go_wp2
        refine ⟨?rel, ?measure⟩
        case rel => exact ⟨k + 1, by omega, by omega, by go_num, Hown.out.drewN _, grown_drewN hgr _, fun j hj => by by_cases e : j = k; (subst e; exact Lib.keeps_pos (by rw [Hx.out, Hy.out]; exact Hxy.out)); exact HA.out j (by omega)⟩
        case measure => first | (simp [intOf]; done) | (simp [intOf]; omega)
    · have hke : k = xs.length := by omega
      have Hc := Lib.hid (Hall.out fun j hj => HA.out j (by omega))
      clear hke
      go_wp2
      go_ret
      exact ⟨_, rfl, by rw [Hc.out]; exact hown, rfl, hgr⟩
end Go.Proofs.YthnckicnnhkkaaaGreat
/- Plain laws on pairs: what sorting and Compact leave of the pairs of links; sums of counts. No condition. -/
namespace Go.Proofs.YthnckicnnhkkaaaGreat
open Go.RowKit

/-- Two lists in the same strict order with the same members are equal. -/
theorem ord_unique {α : Type} {lt : α → α → Prop} (asym : ∀ {a b}, lt a b → lt b a → False) : ∀ {xs ys : List α}, xs.Pairwise lt → ys.Pairwise lt → (∀ n, n ∈ xs ↔ n ∈ ys) → xs = ys
  | [], [], _, _, _ => rfl
  | [], y :: ys, _, _, h => absurd ((h y).2 (by simp)) (by simp)
  | x :: xs, [], _, _, h => absurd ((h x).1 (by simp)) (by simp)
  | x :: xs, y :: ys, hx, hy, h => by
    rw [List.pairwise_cons] at hx hy
    have e : x = y := by
      have h1 := (h x).1 (by simp)
      have h2 := (h y).2 (by simp)
      rw [List.mem_cons] at h1 h2
      rcases h1 with h1 | h1
      · exact h1
      · rcases h2 with h2 | h2
        · exact h2.symm
        · exact (asym (hx.1 y h2) (hy.1 x h1)).elim
    subst e
    rw [ord_unique asym hx.2 hy.2 (fun n => ?_)]
    constructor
    · intro hn
      have := (h n).1 (List.mem_cons_of_mem _ hn)
      rw [List.mem_cons] at this
      rcases this with this | this
      · subst this; exact (asym (hx.1 n hn) (hx.1 n hn)).elim
      · exact this
    · intro hn
      have := (h n).2 (List.mem_cons_of_mem _ hn)
      rw [List.mem_cons] at this
      rcases this with this | this
      · subst this; exact (asym (hy.1 n hn) (hy.1 n hn)).elim
      · exact this

theorem ltP_asym {a b : Pair} (h : ltP a b) (k : ltP b a) : False := by unfold ltP at *; omega
/-! ### Sums -/
theorem graphB_ends {g : Graph} (h : graphB g = true) : (∀ x ∈ g.links, x.obv ∈ g.obv) ∧ ∀ x ∈ g.links, x.rev ∈ g.rev := by
  have hok := ((graphB_iff g).1 h).ends
  constructor
  · intro x hx
    have := List.all_eq_true.1 hok x hx
    simp only [Bool.and_eq_true, hasB_iff] at this
    exact this.1
  · intro x hx
    have := List.all_eq_true.1 hok x hx
    simp only [Bool.and_eq_true, hasB_iff] at this
    exact this.2
end Go.Proofs.YthnckicnnhkkaaaGreat
/- linkage.Pairs. Condition: the argument reads as a graph. -/
namespace Go.Proofs.YthnckicnnhkkaaaGreat
open Go.RowKit Go.Shelf

end Go.Proofs.YthnckicnnhkkaaaGreat
