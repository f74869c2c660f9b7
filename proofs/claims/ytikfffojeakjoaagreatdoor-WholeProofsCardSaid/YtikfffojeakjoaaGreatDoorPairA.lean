/- cmp.Or at two numbers, the order of linkage.Pairs, slices.SortFunc at pairs. -/
import Derived.Test.YtikfffojeakjoaaGreatDoorShelf
import Derived.Test.YtikfffojeakjoaaGreatDoorOwn
import Derived.Test.YtikfffojeakjoaaGreatDoorTail
import Derived.Test.YtikfffojeakjoaaGreatDoorReadB
import Derived.Test.YtikfffojeakjoaaGreatDoorLinkH
namespace Go.Proofs.YtikfffojeakjoaaGreatDoor
open Go.RowKit Go.Shelf

def orI (x y : Int) : Int := if x = 0 then y else x
set_option maxHeartbeats 1000000 in
theorem Or_ok (g : Nat) (x y : Int) (w : World) (h0 : w.cell? ⟨g, 0, none⟩ = some (.int .i64 x)) (h1 : w.cell? ⟨g, 1, none⟩ = some (.int .i64 y)) :
    Calls Tryz.prog 19 #[.slice (some ⟨g, 0, none⟩) 2 2] w fun e w' => e = .returned (.int .i64 (orI x y)) ∧ w = w' := by
  go_enter Tryz.func19, Tryz.ntmps19
  go_wp2
  go_loopw [8] (fun i wr => ∃ k : Nat, k ≤ 2 ∧ i = .int .i64 k ∧ wr = w ∧ (1 ≤ k → x = 0) ∧ (2 ≤ k → y = 0)) (fun i _ => 2 - (intOf i).toNat)
  case atStart => exact ⟨0, by omega, rfl, rfl, by omega, by omega⟩
  case round =>
    obtain ⟨k, hk, rfl, rfl, q1, q2⟩ := hrel
    rcases Nat.lt_or_ge k 1 with e | e
    · obtain rfl : k = 0 := by omega
      clear q1 q2
      by_cases hx : x = 0
      · have hd : (x != 0) = false := by simp [hx]
        have Hx := Lib.hid hx; clear hx
        go_wp2
        refine ⟨?rel, ?measure⟩
        case rel => exact ⟨1, by omega, by go_num, by first | trivial | rfl, fun _ => Hx.out, by omega⟩
        case measure => first | (simp [intOf]; done) | (simp [intOf]; omega)
      · have hd : (x != 0) = true := by simp [hx]
        have Hx := Lib.hid hx; clear hx
        go_wp2
        go_ret
        exact ⟨ret_i64 (by rw [orI, if_neg Hx.out]), rfl⟩
    · have Hx := Lib.hid (q1 e)
      clear q1
      rcases Nat.lt_or_ge k 2 with e' | e'
      · obtain rfl : k = 1 := by omega
        clear q2
        by_cases hy : y = 0
        · have hd : (y != 0) = false := by simp [hy]
          have Hy := Lib.hid hy; clear hy
          go_wp2
          refine ⟨?rel, ?measure⟩
          case rel => exact ⟨2, by omega, by go_num, by first | trivial | rfl, fun _ => Hx.out, fun _ => Hy.out⟩
          case measure => first | (simp [intOf]; done) | (simp [intOf]; omega)
        · have hd : (y != 0) = true := by simp [hy]
          have Hy := Lib.hid hy; clear hy
          go_wp2
          go_ret
          exact ⟨ret_i64 (by rw [orI, if_pos Hx.out]), rfl⟩
      · obtain rfl : k = 2 := by omega
        have Hy := Lib.hid (q2 e')
        clear q2
        go_wp2
        go_ret
        exact ⟨ret_i64 (by rw [orI, if_pos Hx.out, Hy.out]), rfl⟩

instance : Inhabited Pair := ⟨⟨0, 0⟩⟩
abbrev valP (x : Pair) : Value := .agg #[.int .i64 x.a, .int .i64 x.b]
def cmpP (x y : Pair) : Int := orI (Lib.compareInt x.a y.a) (Lib.compareInt x.b y.b)
def ltP (x y : Pair) : Prop := x.a < y.a ∨ x.a = y.a ∧ x.b < y.b
instance (x y : Pair) : Decidable (ltP x y) := by unfold ltP; infer_instance
theorem cmpP_lt (x y : Pair) : ltOf cmpP x y = decide (ltP x y) := by
  unfold ltOf cmpP Lib.compareInt orI ltP
  by_cases h1 : x.a < y.a
  · simp [h1]
  · by_cases h2 : y.a < x.a
    · have : ¬ x.a = y.a := by omega
      simp [h1, h2, this]
    · have : x.a = y.a := by omega
      by_cases h3 : x.b < y.b
      · simp [h3, this]
      · by_cases h4 : y.b < x.b <;> simp [h3, h4, this]
theorem cmpP_swo : Go.Sort.SWO (ltOf cmpP) where
  irrefl x := by rw [cmpP_lt]; simp [ltP]
  trans x y z h1 h2 := by
    rw [cmpP_lt] at h1 h2 ⊢
    replace h1 := of_decide_eq_true h1; replace h2 := of_decide_eq_true h2
    refine decide_eq_true ?_
    unfold ltP at *; omega
  ntrans x y z h1 h2 := by
    rw [cmpP_lt] at h1 h2 ⊢
    replace h1 := of_decide_eq_false h1; replace h2 := of_decide_eq_false h2
    refine decide_eq_false ?_
    unfold ltP at *; omega

/-- zs is l in the order of pairs. -/
def ByPair (l zs : List Pair) : Prop := zs.Perm l ∧ zs.Pairwise fun a b => ¬ ltP b a
theorem byPair_of {zs : List Pair} {d' : Array Pair} (hp : Go.Sort.PermIn 0 zs.toArray.size zs.toArray d') (hs : Go.Sort.SortedIn (ltOf cmpP) 0 zs.toArray.size d') : ByPair zs d'.toList ∧ d'.toList.length = zs.length := by
  obtain ⟨hsz, _, hperm⟩ := hp
  rw [← hsz, Array.extract_size, hsz, Array.extract_size] at hperm
  have hl : d'.size = zs.length := by simpa using hsz
  refine ⟨⟨by simpa using hperm, ?_⟩, by simpa using hl⟩
  rw [List.pairwise_iff_getElem]
  intro i j hi hj hij
  have hi' : i < d'.size := by simpa using hi
  have hj' : j < d'.size := by simpa using hj
  have := hs i j (Nat.zero_le _) hij (by rw [← hsz]; exact hj')
  rw [cmpP_lt, getElem!_pos d' i hi', getElem!_pos d' j hj'] at this
  simpa using this

end Go.Proofs.YtikfffojeakjoaaGreatDoor
/- slices.Compact at pairs of the call's own. No condition but a bound of the length. -/
namespace Go.Proofs.YtikfffojeakjoaaGreatDoor
open Go.RowKit Go.Shelf

theorem compInv_take {xs dk : List Pair} {kk : Nat} (h : Lib.CompInv xs.toArray xs.length kk dk.toArray) : dk.take kk = Lib.compact xs := by
  unfold Lib.compact
  have hs := h.size
  have hl := h.lt
  simp at hs
  apply List.ext_getElem?
  intro j
  by_cases hj : j < kk
  · rw [List.getElem?_take_of_lt hj, h.low j hj, getElem!_pos dk.toArray j (by simp; omega), List.getElem?_eq_getElem (by omega)]
    simp
  · rw [List.getElem?_take_eq_none (by omega), List.getElem?_eq_none (by rw [h.len]; omega)]
theorem grown_drewN {w w' : World} {r : Option Nat} (h : w.grownBy w' r) (n : Nat) : w.grownBy (w'.drewN n) r := ⟨h.os, h.tape, h.output, h.size, h.block⟩
theorem arrP {xs : List Pair} {k : Nat} {x : Pair} (h : xs[k]? = some x) : xs.toArray[k]! = x := by
  obtain ⟨h1, rfl⟩ := List.getElem?_eq_some_iff.1 h
  exact arr_get xs k h1
theorem setP (dk : List Pair) (k : Nat) (x : Pair) : dk.toArray.setIfInBounds k x = (dk.set k x).toArray := by simp
theorem zeroP (w : World) : (zeroValue 34).run Tryz.prog w = .ok (.agg #[.int .i64 0, .int .i64 0]) w := by kernel_rfl

end Go.Proofs.YtikfffojeakjoaaGreatDoor
/- Plain laws on pairs: what sorting and Compact leave of the pairs of links; sums of counts. No condition. -/
namespace Go.Proofs.YtikfffojeakjoaaGreatDoor
open Go.RowKit

/-- Two lists in the same strict order with the same members are equal. -/
theorem ord_unique {α : Type} {lt : α → α → Prop} (asym : ∀ {a b}, lt a b → lt b a → False) : ∀ {xs ys : List α}, xs.Pairwise lt → ys.Pairwise lt → (∀ n, n ∈ xs ↔ n ∈ ys) → xs = ys
  | [], [], _, _, _ => rfl
  | [], y :: ys, _, _, h => absurd ((h y).2 (by simp)) (by simp)
  | x :: xs, [], _, _, h => absurd ((h x).1 (by simp)) (by simp)
  | x :: xs, y :: ys, hx, hy, h => by
    rw [List.pairwise_cons] at hx hy
    have e : x = y := by
      have h1 := (h x).1 (by simp)
      have h2 := (h y).2 (by simp)
      rw [List.mem_cons] at h1 h2
      rcases h1 with h1 | h1
      · exact h1
      · rcases h2 with h2 | h2
        · exact h2.symm
        · exact (asym (hx.1 y h2) (hy.1 x h1)).elim
    subst e
    rw [ord_unique asym hx.2 hy.2 (fun n => ?_)]
    constructor
    · intro hn
      have := (h n).1 (List.mem_cons_of_mem _ hn)
      rw [List.mem_cons] at this
      rcases this with this | this
      · subst this; exact (asym (hx.1 n hn) (hx.1 n hn)).elim
      · exact this
    · intro hn
      have := (h n).2 (List.mem_cons_of_mem _ hn)
      rw [List.mem_cons] at this
      rcases this with this | this
      · subst this; exact (asym (hy.1 n hn) (hy.1 n hn)).elim
      · exact this

def pairOf (x : Link) : Pair := ⟨x.obv, x.rev⟩
def rowPairs (r : List Int) (ls : List Link) (a : Int) : List Pair := (r.filter fun b => decide (0 < countM ls a b)).map (Pair.mk a)
/-- The pairs of dies that have a link. -/
def pairsOf (o r : List Int) (ls : List Link) : List Pair := o.flatMap (rowPairs r ls)
def pairsG (g : Graph) : List Pair := if graphB g = true then pairsOf g.obv g.rev g.links else []
theorem countM_pos {ls : List Link} {a b : Int} : 0 < countM ls a b ↔ ∃ x ∈ ls, x.obv = a ∧ x.rev = b := by
  unfold countM
  rw [List.countP_pos_iff]
  simp
theorem rowPairs_mem {r : List Int} {ls : List Link} {a : Int} {p : Pair} : p ∈ rowPairs r ls a ↔ p.a = a ∧ p.b ∈ r ∧ ∃ x ∈ ls, x.obv = a ∧ x.rev = p.b := by
  unfold rowPairs
  simp only [List.mem_map, List.mem_filter, decide_eq_true_eq, countM_pos]
  constructor
  · rintro ⟨b, ⟨hb, hx⟩, rfl⟩; exact ⟨rfl, hb, hx⟩
  · rintro ⟨rfl, hb, hx⟩; exact ⟨p.b, ⟨hb, hx⟩, rfl⟩
theorem pairsOf_mem {o r : List Int} {ls : List Link} (ho : ∀ x ∈ ls, x.obv ∈ o) (hr : ∀ x ∈ ls, x.rev ∈ r) (p : Pair) : p ∈ pairsOf o r ls ↔ p ∈ ls.map pairOf := by
  unfold pairsOf
  simp only [List.mem_flatMap, rowPairs_mem, List.mem_map]
  constructor
  · rintro ⟨a, _, rfl, _, x, hx, e1, e2⟩
    exact ⟨x, hx, by cases p; simp_all [pairOf]⟩
  · rintro ⟨x, hx, rfl⟩
    exact ⟨x.obv, ho x hx, rfl, hr x hx, x, hx, rfl, rfl⟩
theorem pairsOf_asc {o r : List Int} {ls : List Link} (ho : o.Pairwise (· < ·)) (hr : r.Pairwise (· < ·)) : (pairsOf o r ls).Pairwise ltP := by
  unfold pairsOf
  rw [List.pairwise_flatMap]
  constructor
  · intro a _
    unfold rowPairs
    rw [List.pairwise_map]
    exact (hr.sublist List.filter_sublist).imp fun h => .inr ⟨rfl, h⟩
  · refine ho.imp fun {a b} hab p hp q hq => ?_
    have h1 := (rowPairs_mem.1 hp).1
    have h2 := (rowPairs_mem.1 hq).1
    exact .inl (by omega)
theorem ltP_asym {a b : Pair} (h : ltP a b) (k : ltP b a) : False := by unfold ltP at *; omega
theorem compact_pairs {o r : List Int} {ls : List Link} (ho : o.Pairwise (· < ·)) (hr : r.Pairwise (· < ·)) (eo : ∀ x ∈ ls, x.obv ∈ o) (er : ∀ x ∈ ls, x.rev ∈ r) {zs : List Pair} (h : ByPair (ls.map pairOf) zs) : Lib.compact zs = pairsOf o r ls := by
  obtain ⟨h1, h2⟩ := compact_asc (fun a b : Pair => ¬ ltP b a) (fun h1 h2 h3 => by unfold ltP at *; omega) (fun {a b} h1 h2 => by
    unfold ltP at *
    have e1 : a.a = b.a := by omega
    have e2 : a.b = b.b := by omega
    cases a; cases b; simp_all) zs h.2
  refine ord_unique ltP_asym (h1.imp fun {a b} h => ?_) (pairsOf_asc ho hr) fun p => ?_
  · obtain ⟨h1, h2⟩ := h
    unfold ltP at *
    by_cases e1 : a.a = b.a
    · by_cases e2 : a.b = b.b
      · exact absurd (by cases a; cases b; simp_all) h2
      · omega
    · omega
  · rw [h2, h.1.mem_iff, pairsOf_mem eo er]

/-! ### Sums -/
def inO (ls : List Link) (o : List Int) : Nat := ls.countP fun x => o.contains x.obv
def inR (ls : List Link) (r : List Int) : Nat := ls.countP fun x => r.contains x.rev
def atOR (ls : List Link) (a : Int) (r : List Int) : Nat := ls.countP fun x => x.obv == a && r.contains x.rev
theorem countP_or {α : Type} (p q : α → Bool) (h : ∀ x, p x = true → q x = true → False) : ∀ ls : List α, ls.countP (fun x => p x || q x) = ls.countP p + ls.countP q
  | [] => rfl
  | x :: ls => by
    rw [List.countP_cons, List.countP_cons, List.countP_cons, countP_or p q h ls]
    have := h x
    cases hp : p x <;> cases hq : q x <;> simp_all <;> omega
theorem contains_snoc' (l : List Int) (a x : Int) : (l ++ [a]).contains x = (l.contains x || x == a) := by
  rw [Bool.eq_iff_iff]; simp
theorem fresh_take {o : List Int} (ho : o.Pairwise (· < ·)) {i : Nat} {a : Int} (ha : o[i]? = some a) : (o.take i).contains a = false := by
  rw [Bool.eq_false_iff]
  intro h
  obtain ⟨j, hj⟩ := List.mem_iff_getElem?.1 (List.contains_iff_mem.1 h)
  have hlt := lt_of_get hj
  rw [List.length_take] at hlt
  rw [List.getElem?_take_of_lt (by omega)] at hj
  have := asc_inj ho hj ha
  omega
theorem inO_snoc {o : List Int} (ho : o.Pairwise (· < ·)) {i : Nat} {a : Int} (ha : o[i]? = some a) (ls : List Link) : inO ls (o.take (i + 1)) = inO ls (o.take i) + ls.countP (fun x => x.obv == a) := by
  unfold inO
  rw [← countP_or _ _ (fun x h1 h2 => ?_)]
  · congr 1; funext x; rw [take_snoc' ha, contains_snoc']
  · have := fresh_take ho ha
    simp only [beq_iff_eq] at h2
    rw [← h2, h1] at this
    cases this
theorem inR_snoc {r : List Int} (hr : r.Pairwise (· < ·)) {i : Nat} {a : Int} (ha : r[i]? = some a) (ls : List Link) : inR ls (r.take (i + 1)) = inR ls (r.take i) + ls.countP (fun x => x.rev == a) := by
  unfold inR
  rw [← countP_or _ _ (fun x h1 h2 => ?_)]
  · congr 1; funext x; rw [take_snoc' ha, contains_snoc']
  · have := fresh_take hr ha
    simp only [beq_iff_eq] at h2
    rw [← h2, h1] at this
    cases this
theorem atOR_snoc {r : List Int} (hr : r.Pairwise (· < ·)) {j : Nat} {b : Int} (hb : r[j]? = some b) (ls : List Link) (a : Int) : atOR ls a (r.take (j + 1)) = atOR ls a (r.take j) + countM ls a b := by
  unfold atOR countM
  rw [← countP_or _ _ (fun x h1 h2 => ?_)]
  · congr 1; funext x; rw [take_snoc' hb, contains_snoc', Bool.and_or_distrib_left]
  · have := fresh_take hr hb
    simp only [Bool.and_eq_true, beq_iff_eq] at h1 h2
    rw [← h2.2, h1.2] at this
    cases this
theorem countP_all {α : Type} {p : α → Bool} {ls : List α} (h : ∀ x ∈ ls, p x = true) : ls.countP p = ls.length := List.countP_eq_length.2 h
theorem countP_same {α : Type} {p q : α → Bool} {ls : List α} (h : ∀ x ∈ ls, p x = q x) : ls.countP p = ls.countP q := List.countP_congr fun x hx => by rw [h x hx]
theorem atOR_all {r : List Int} {ls : List Link} (er : ∀ x ∈ ls, x.rev ∈ r) (a : Int) : atOR ls a r = ls.countP (fun x => x.obv == a) := by
  unfold atOR
  exact countP_same fun x hx => by simp [er x hx]
theorem pairsOf_snoc {o : List Int} {i : Nat} {a : Int} (ha : o[i]? = some a) (r : List Int) (ls : List Link) : pairsOf (o.take (i + 1)) r ls = pairsOf (o.take i) r ls ++ rowPairs r ls a := by
  unfold pairsOf
  rw [take_snoc' ha, List.flatMap_append]
  simp
theorem rowPairs_snoc {r : List Int} {j : Nat} {b : Int} (hb : r[j]? = some b) (ls : List Link) (a : Int) : rowPairs (r.take (j + 1)) ls a = rowPairs (r.take j) ls a ++ (if 0 < countM ls a b then [⟨a, b⟩] else []) := by
  unfold rowPairs
  rw [take_snoc' hb, List.filter_append, List.map_append]
  by_cases h : 0 < countM ls a b <;> simp [h]
theorem pairs_prefix {o r : List Int} {ls : List Link} {i j : Nat} {a : Int} (ha : o[i]? = some a) : (pairsOf (o.take i) r ls ++ rowPairs (r.take j) ls a) <+: pairsOf o r ls := by
  have e1 : pairsOf o r ls = pairsOf (o.take (i + 1)) r ls ++ pairsOf (o.drop (i + 1)) r ls := by
    unfold pairsOf
    rw [← List.flatMap_append, List.take_append_drop]
  have e2 : rowPairs r ls a = rowPairs (r.take j) ls a ++ rowPairs (r.drop j) ls a := by
    unfold rowPairs
    rw [← List.map_append, ← List.filter_append, List.take_append_drop]
  rw [e1, pairsOf_snoc ha, e2]
  exact ⟨rowPairs (r.drop j) ls a ++ pairsOf (o.drop (i + 1)) r ls, by simp only [List.append_assoc]⟩
theorem pairs_at {o r : List Int} {ls : List Link} {i j : Nat} {a b : Int} (ha : o[i]? = some a) (hb : r[j]? = some b) (h : 0 < countM ls a b) : (pairsOf o r ls)[(pairsOf (o.take i) r ls ++ rowPairs (r.take j) ls a).length]? = some ⟨a, b⟩ := by
  obtain ⟨t, ht⟩ := pairs_prefix (r := r) (ls := ls) (j := j + 1) ha
  rw [rowPairs_snoc hb, if_pos h] at ht
  rw [← ht]
  simp
theorem graphB_ends {g : Graph} (h : graphB g = true) : (∀ x ∈ g.links, x.obv ∈ g.obv) ∧ ∀ x ∈ g.links, x.rev ∈ g.rev := by
  have hok := ((graphB_iff g).1 h).ends
  constructor
  · intro x hx
    have := List.all_eq_true.1 hok x hx
    simp only [Bool.and_eq_true, hasB_iff] at this
    exact this.1
  · intro x hx
    have := List.all_eq_true.1 hok x hx
    simp only [Bool.and_eq_true, hasB_iff] at this
    exact this.2
theorem pairsOf_len (o r : List Int) (ls : List Link) : (pairsOf o r ls).length ≤ o.length * r.length := by
  unfold pairsOf
  induction o with
  | nil => simp
  | cons a o ih =>
    rw [List.flatMap_cons, List.length_append, List.length_cons, Nat.add_mul]
    have : (rowPairs r ls a).length ≤ r.length := by unfold rowPairs; rw [List.length_map]; exact List.length_filter_le _ _
    omega
theorem matOf_at' {o r : List Int} {ls : List Link} {i : Nat} {a : Int} (h : o[i]? = some a) : (matOf o r ls)[i]? = some (r.map fun b => (countM ls a b : Int)) := by
  unfold matOf
  rw [List.getElem?_map, h]
  rfl
theorem row_at' {r : List Int} {ls : List Link} {j : Nat} {a b : Int} (h : r[j]? = some b) : (r.map fun b => (countM ls a b : Int))[j]? = some (countM ls a b : Int) := by
  rw [List.getElem?_map, h]
  rfl
theorem countM_len' (ls : List Link) (a b : Int) : countM ls a b ≤ ls.length := List.countP_le_length
theorem pairs_len' {o r : List Int} {ls : List Link} {i j : Nat} {a : Int} (ha : o[i]? = some a) : (pairsOf (o.take i) r ls ++ rowPairs (r.take j) ls a).length ≤ o.length * r.length :=
  Nat.le_trans (pairs_prefix ha).length_le (pairsOf_len o r ls)
end Go.Proofs.YtikfffojeakjoaaGreatDoor
/- linkage.Pairs. Condition: the argument reads as a graph. -/
namespace Go.Proofs.YtikfffojeakjoaaGreatDoor
open Go.RowKit Go.Shelf

end Go.Proofs.YtikfffojeakjoaaGreatDoor
