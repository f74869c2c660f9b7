/- The first functions of the reference of layer 13: In, Touches, Valid, place, with, insert. Condition: the arguments read as lists and graphs. -/
import Derived.Test.YtlmjncncmgmehaaGreatBase4
import Derived.Deep.RegionHeld3
import Derived.Deep.DrawnRows
import Derived.Deep.RegionLaw
import Derived.Laws.ResultCell
namespace Go.Proofs.YtlmjncncmgmehaaGreat
open Go.RowKit

/-- Whether a die is in a graph. -/
def dieIn (g : Graph) (d : Die) : Bool := (d.side == 0 && hasB g.obv d.num) || (d.side == 1 && hasB g.rev d.num)
def touchB (l : Link) (d : Die) : Bool := (d.side == 0 && l.obv == d.num) || (d.side == 1 && l.rev == d.num)

theorem Valid_ok13 (v : Value) (g : Graph) (w : World) (h : GraphAt w v g) :
    Calls Tryz.prog 72 #[v] w fun e w' => e = .returned (.bool (graphB g)) ∧ Below w.heap.size w w' := by
  have h0 := h
  obtain ⟨v1, v2, v3, rfl, ho, hr, hl⟩ := h
  obtain ⟨W, hW, Hz, hwW, hlt, hc0⟩ := boxed w #[v1, v2, v3] 54
  have a0 := hc0 0 _ rfl; have a1 := hc0 1 _ rfl; have a2 := hc0 2 _ rfl
  clear hc0
  go_enter Tryz.func72, Tryz.ntmps72
  go_wp2_with (go_at_call 110; (with_reducible refine (Graph_ok _ _ _ (h0.below hwW)).mono ?_); rintro e w' ⟨rfl, hb⟩)
  go_ret
  exact ⟨rfl, below_trans hwW hb⟩

/-- The place of a number in a list, or -1. -/
def placeN : List Int → Int → Nat → Int
  | [], _, _ => -1
  | y :: ys, x, n => if y = x then (n : Int) else placeN ys x (n + 1)
def placeI (xs : List Int) (x : Int) : Int := placeN xs x 0
theorem place_go {xs : List Int} {k : Nat} {x y : Int} (hy : xs[k]? = some y) (hr : x ∉ xs.take k) (h : (y == x) = false) : x ∉ xs.take (k + 1) := by
  rw [take_snoc' hy]
  simp only [List.mem_append, List.mem_singleton]
  rintro (h1 | rfl)
  · exact hr h1
  · simp at h
theorem placeN_hit {x : Int} : ∀ {xs : List Int} {k n : Nat}, xs[k]? = some x → x ∉ xs.take k → placeN xs x n = (n + k : Nat)
  | [], k, n, h, _ => by simp at h
  | y :: ys, 0, n, h, _ => by
    simp at h
    simp [placeN, h]
  | y :: ys, k + 1, n, h, hr => by
    simp only [List.take_succ_cons, List.mem_cons, not_or] at hr
    rw [placeN, if_neg (fun e => hr.1 e.symm), placeN_hit (by simpa using h) hr.2]
    omega
theorem place_hit {xs : List Int} {k : Nat} {x y : Int} (hy : xs[k]? = some y) (hr : x ∉ xs.take k) (h : (y == x) = true) : placeI xs x = k := by
  simp at h
  subst h
  unfold placeI
  rw [placeN_hit hy hr, Nat.zero_add]
theorem placeN_miss {x : Int} : ∀ {xs : List Int} {n : Nat}, x ∉ xs → placeN xs x n = -1
  | [], _, _ => rfl
  | y :: ys, n, h => by
    simp only [List.mem_cons, not_or] at h
    rw [placeN, if_neg (fun e => h.1 e.symm), placeN_miss h.2]
theorem place_miss {xs : List Int} {k : Nat} {x : Int} (hk : ¬ k < xs.length) (hr : x ∉ xs.take k) : placeI xs x = -1 := by
  rw [List.take_of_length_le (by omega)] at hr
  exact placeN_miss hr

/-- A number entered into ascending numbers. -/
def withI : List Int → Int → List Int
  | [], n => [n]
  | x :: xs, n => if x < n then x :: withI xs n else if x = n then x :: xs else n :: x :: xs
/-- A link entered into links by Id. -/
def insL : List Link → Link → List Link
  | [], y => [y]
  | x :: xs, y => if x.id < y.id then x :: insL xs y else y :: x :: xs
theorem withI_at : ∀ {xs : List Int} {k : Nat} {n : Int}, (∀ y ∈ xs.take k, y < n) → (∀ y, xs[k]? = some y → ¬ y < n) → withI xs n = if xs[k]? = some n then xs else xs.take k ++ [n] ++ xs.drop k
  | [], k, n, _, _ => by simp [withI]
  | x :: xs, 0, n, _, h => by
    have := h x (by simp)
    by_cases e : x = n <;> simp [withI, this, e]
  | x :: xs, k + 1, n, h1, h2 => by
    have hx := h1 x (by simp)
    rw [withI, if_pos hx, withI_at (k := k) (fun y hy => h1 y (by simp [hy])) (fun y hy => h2 y (by simpa using hy))]
    by_cases e : xs[k]? = some n <;> simp [e]

set_option maxHeartbeats 2000000 in
theorem with_ok13 (v : Value) (xs : List Int) (x : Int) (w : World) (h : Ints w v xs) (hn : xs.length ≤ 1048576) :
    Calls Tryz.prog 99 #[v, .int .i64 x] w fun e w' => ∃ u, e = .returned u ∧ Ints w' u (withI xs x) ∧ (u = v ∨ Fresh w.heap.size u) ∧ Below w.heap.size w w' := by
  have h0 := h
  obtain ⟨A, c, rfl, h1, h2, hc⟩ := h.cells
  go_enter Tryz.func99, Tryz.ntmps99
  go_wp2
  go_loop [5] (fun i => ∃ k : Nat, k ≤ xs.length ∧ i = .int .i64 k ∧ ∀ y ∈ xs.take k, y < x) (fun i => xs.length - (intOf i).toNat)
  case atStart => exact ⟨0, Nat.zero_le _, rfl, by simp⟩
  case round =>
    obtain ⟨k, hk, rfl, hr⟩ := hrel
    have Hr := Lib.hid hr; clear hr
    by_cases hlt : k < xs.length
    · have d0 : decide ((k : Int) < (xs.length : Int)) = true := by simp; omega
      obtain ⟨b, o, rfl, hb, hc⟩ := hc k hlt
      obtain ⟨y, hy⟩ := get_of_lt hlt
      have c1 := hc w (Below.refl _ _) k y hy
      have Hy := Lib.hid hy; clear hy hc
      by_cases hyx : y < x
      · have d1 : decide (y < x) = true := by simpa using hyx
        go_wp2
        go_round
        case rel => exact ⟨k + 1, by omega, by go_num, by rw [take_snoc' Hy.out]; intro z hz; simp at hz; rcases hz with hz | rfl; exact Hr.out z (by simpa using hz); exact hyx⟩
        case measure => simp [intOf]; omega
      · have d1 : decide (y < x) = false := by simpa using hyx
        have W1 := Lib.hid (withI_at Hr.out (fun z hz => by rw [Hy.out] at hz; cases hz; exact hyx))
        by_cases he : y = x
        · have d2 : (y == x) = true := by simp [he]
          have He := Lib.hid he; clear he
          go_wp2
          go_ret
          refine ⟨_, rfl, ?_, .inl rfl, Below.refl _ _⟩
          have := W1.out
          rw [Hy.out, He.out, if_pos rfl] at this
          rw [this]
          exact h0
        · have d2 : (y == x) = false := by simp [he]
          have hl1 : (k : Int) < (xs.length : Int) := by omega
          have hl0 : (0 : Int) ≤ (k : Int) := by omega
          have hl2 : (k : Int) ≤ (xs.length : Int) := by omega
          have hl3 : (xs.length : Int) ≤ (c : Int) := by omega
          have hl4 : (k : Int) ≤ (c : Int) := by omega
          have hl5 : ¬ c = k := by omega
          have hsl := SlOf.sl h0
          obtain ⟨i0, hi0, hz0, hk0, hb0⟩ := info_parts infoI
          have oneE := oneI
          have hsl1 : Sl w 1 (some ⟨b, o, none⟩) (xs.take k).length ((xs.take k).flatMap encI) := by rw [flat_take encI 1 lenI, List.length_take, Nat.min_eq_left hk]; exact hsl.take hk
          have hsl2 : Sl w 1 (some ⟨b, o + k, none⟩) (xs.drop k).length ((xs.drop k).flatMap encI) := by rw [flat_drop encI 1 lenI, List.length_drop]; have := hsl.drop hk; simpa using this
          go_wp2
          go_region_held3 (fun w' => Below w.heap.size w w' ∧ True) (first | exact ⟨(Below.refl _ _).drew, trivial⟩ | exact ⟨by assumption, trivial⟩ | (have hh := (‹Below w.heap.size w _ ∧ True›).1; have h2 := hh.size; exact ⟨by exact Below.alloc hh h2 _, trivial⟩))
            (first
              | (refine step_append_sl rfl (.tmp 33) (.tmp 36) _ rfl i0 _ 8 Tryz.underlying26 hi0 hz0 hk0 hb0 rfl (by decide) oneE (by rfl) (own_empty (B := w.heap.size) (by first | exact heap_alloc_new _ _ | exact heap_alloc2_old _ _ _ | exact heap_alloc2_new _ _ _) (by first | (simp; done) | (have := hbz.size; simp; omega))) _ _ k (xs.take k) (by rfl) (by simp; omega) ((hsl1).below (‹Below w.heap.size w _ ∧ True›).1) (by simp; omega) (by simp; omega) (Below.size (‹Below w.heap.size w _ ∧ True›).1) ?_; intro v1 w1 ho1 hg1 ha1; have hq1 := Below.grown (B := w.heap.size) (a := w) (‹Below w.heap.size w _ ∧ True›).1 hg1 (Below.size (‹Below w.heap.size w _ ∧ True›).1) (by intro g hg; simp [Value.ownBlock] at hg; first | omega | (have := hbz.size; omega)))
              | (refine step_append_sl rfl (.tmp 37) (.tmp 39) _ rfl i0 _ 8 Tryz.underlying26 hi0 hz0 hk0 hb0 rfl (by decide) oneE (by rfl) (by first | exact ho1 | exact Own.alloc ho1 _) _ 1 1 [x] (by rfl) rfl (sl_one rfl (by first | exact heap_alloc_new _ _ | (refine (hg1.block _ (by simp <;> omega) (by simp [Value.ownBlock])).trans ?_; first | exact heap_alloc2_new _ _ _ | exact heap_alloc2_old _ _ _))) (by simp; omega) (by simp; omega) (Below.size (‹Below w.heap.size w _ ∧ True›).1) ?_; intro v2 w2 ho2 hg2 ha2; have hq2 := Below.grown (B := w.heap.size) (a := w) (‹Below w.heap.size w _ ∧ True›).1 hg2 (Below.size (‹Below w.heap.size w _ ∧ True›).1) (fun g hg => (ho1.lt g hg).1))
              | (refine step_append_sl rfl (.tmp 40) (.tmp 43) _ rfl i0 _ 8 Tryz.underlying26 hi0 hz0 hk0 hb0 rfl (by decide) oneE (by rfl) ho2 _ _ _ (xs.drop k) (by rfl) (by simp <;> omega) ((by first | exact hsl2.below (‹Below w.heap.size w _ ∧ True›).1 | exact (hsl2 _).below (‹Below w.heap.size w _ ∧ True›).1)) (by simp; omega) (by simp; omega) (Below.size (‹Below w.heap.size w _ ∧ True›).1) ?_; intro v3 w3 ho3 hg3 ha3; have hq3 := Below.grown (B := w.heap.size) (a := w) (‹Below w.heap.size w _ ∧ True›).1 hg3 (Below.size (‹Below w.heap.size w _ ∧ True›).1) (fun g hg => (ho2.lt g hg).1)))
          all_goals
            go_wp2
            go_ret
            refine ⟨_, rfl, ?_, .inr ho3.fresh, hq3⟩
            have : Ints _ _ _ := ho3.slOf
            rw [W1.out, Hy.out, if_neg (by simpa using he)]
            simpa using this
    · have d0 : decide ((k : Int) < (xs.length : Int)) = false := by simp; omega
      have hke : k = xs.length := by omega
      have W1 := Lib.hid (withI_at Hr.out (fun z hz => by have := lt_of_get hz; omega))
      have hl0 : (0 : Int) ≤ (k : Int) := by omega
      have hl2 : (k : Int) ≤ (xs.length : Int) := by omega
      have hl3 : (xs.length : Int) ≤ (c : Int) := by omega
      have hl4 : (k : Int) ≤ (c : Int) := by omega
      have hsl := SlOf.sl h0
      have Hke := Lib.hid hke; clear hke
      obtain ⟨i0, hi0, hz0, hk0, hb0⟩ := info_parts infoI
      have oneE := oneI
      have hsl1 : Sl w 1 A (xs.take k).length ((xs.take k).flatMap encI) := by rw [List.take_of_length_le (by omega)]; exact hsl
      have hsl2 : ∀ A', Sl w 1 A' (xs.drop k).length ((xs.drop k).flatMap encI) := by intro A'; rw [List.drop_eq_nil_of_le (by omega)]; exact Sl.nil _ _ _
      by_cases hl5 : c = k
      · have hl6 := Lib.hid hl5
        go_wp2
        go_region_held3 (fun w' => Below w.heap.size w w' ∧ True) (first | exact ⟨(Below.refl _ _).drew, trivial⟩ | exact ⟨by assumption, trivial⟩ | (have hh := (‹Below w.heap.size w _ ∧ True›).1; have h2 := hh.size; exact ⟨by exact Below.alloc hh h2 _, trivial⟩))
          (first
            | (refine step_append_sl rfl (.tmp 33) (.tmp 36) _ rfl i0 _ 8 Tryz.underlying26 hi0 hz0 hk0 hb0 rfl (by decide) oneE (by rfl) (own_empty (B := w.heap.size) (by first | exact heap_alloc_new _ _ | exact heap_alloc2_old _ _ _ | exact heap_alloc2_new _ _ _) (by first | (simp; done) | (have := hbz.size; simp; omega))) _ _ k (xs.take k) (by rfl) (by simp; omega) ((hsl1).below (‹Below w.heap.size w _ ∧ True›).1) (by simp; omega) (by simp; omega) (Below.size (‹Below w.heap.size w _ ∧ True›).1) ?_; intro v1 w1 ho1 hg1 ha1; have hq1 := Below.grown (B := w.heap.size) (a := w) (‹Below w.heap.size w _ ∧ True›).1 hg1 (Below.size (‹Below w.heap.size w _ ∧ True›).1) (by intro g hg; simp [Value.ownBlock] at hg; first | omega | (have := hbz.size; omega)))
            | (refine step_append_sl rfl (.tmp 37) (.tmp 39) _ rfl i0 _ 8 Tryz.underlying26 hi0 hz0 hk0 hb0 rfl (by decide) oneE (by rfl) (by first | exact ho1 | exact Own.alloc ho1 _) _ 1 1 [x] (by rfl) rfl (sl_one rfl (by first | exact heap_alloc_new _ _ | (refine (hg1.block _ (by simp <;> omega) (by simp [Value.ownBlock])).trans ?_; first | exact heap_alloc2_new _ _ _ | exact heap_alloc2_old _ _ _))) (by simp; omega) (by simp; omega) (Below.size (‹Below w.heap.size w _ ∧ True›).1) ?_; intro v2 w2 ho2 hg2 ha2; have hq2 := Below.grown (B := w.heap.size) (a := w) (‹Below w.heap.size w _ ∧ True›).1 hg2 (Below.size (‹Below w.heap.size w _ ∧ True›).1) (fun g hg => (ho1.lt g hg).1))
            | (refine step_append_sl rfl (.tmp 40) (.tmp 43) _ rfl i0 _ 8 Tryz.underlying26 hi0 hz0 hk0 hb0 rfl (by decide) oneE (by rfl) ho2 _ _ _ (xs.drop k) (by rfl) (by simp <;> omega) ((by first | exact hsl2.below (‹Below w.heap.size w _ ∧ True›).1 | exact (hsl2 _).below (‹Below w.heap.size w _ ∧ True›).1)) (by simp; omega) (by simp; omega) (Below.size (‹Below w.heap.size w _ ∧ True›).1) ?_; intro v3 w3 ho3 hg3 ha3; have hq3 := Below.grown (B := w.heap.size) (a := w) (‹Below w.heap.size w _ ∧ True›).1 hg3 (Below.size (‹Below w.heap.size w _ ∧ True›).1) (fun g hg => (ho2.lt g hg).1)))
        all_goals
          go_wp2
          go_ret
          refine ⟨_, rfl, ?_, .inr ho3.fresh, hq3⟩
          have : Ints _ _ _ := ho3.slOf
          rw [W1.out, if_neg (fun h => by have := lt_of_get h; have := Hke.out; omega)]
          simpa using this
      · have hl6 : ¬ c = k := hl5
        go_wp2
        go_region_held3 (fun w' => Below w.heap.size w w' ∧ True) (first | exact ⟨(Below.refl _ _).drew, trivial⟩ | exact ⟨by assumption, trivial⟩ | (have hh := (‹Below w.heap.size w _ ∧ True›).1; have h2 := hh.size; exact ⟨by exact Below.alloc hh h2 _, trivial⟩))
          (first
            | (refine step_append_sl rfl (.tmp 33) (.tmp 36) _ rfl i0 _ 8 Tryz.underlying26 hi0 hz0 hk0 hb0 rfl (by decide) oneE (by rfl) (own_empty (B := w.heap.size) (by first | exact heap_alloc_new _ _ | exact heap_alloc2_old _ _ _ | exact heap_alloc2_new _ _ _) (by first | (simp; done) | (have := hbz.size; simp; omega))) _ _ k (xs.take k) (by rfl) (by simp; omega) ((hsl1).below (‹Below w.heap.size w _ ∧ True›).1) (by simp; omega) (by simp; omega) (Below.size (‹Below w.heap.size w _ ∧ True›).1) ?_; intro v1 w1 ho1 hg1 ha1; have hq1 := Below.grown (B := w.heap.size) (a := w) (‹Below w.heap.size w _ ∧ True›).1 hg1 (Below.size (‹Below w.heap.size w _ ∧ True›).1) (by intro g hg; simp [Value.ownBlock] at hg; first | omega | (have := hbz.size; omega)))
            | (refine step_append_sl rfl (.tmp 37) (.tmp 39) _ rfl i0 _ 8 Tryz.underlying26 hi0 hz0 hk0 hb0 rfl (by decide) oneE (by rfl) (by first | exact ho1 | exact Own.alloc ho1 _) _ 1 1 [x] (by rfl) rfl (sl_one rfl (by first | exact heap_alloc_new _ _ | (refine (hg1.block _ (by simp <;> omega) (by simp [Value.ownBlock])).trans ?_; first | exact heap_alloc2_new _ _ _ | exact heap_alloc2_old _ _ _))) (by simp; omega) (by simp; omega) (Below.size (‹Below w.heap.size w _ ∧ True›).1) ?_; intro v2 w2 ho2 hg2 ha2; have hq2 := Below.grown (B := w.heap.size) (a := w) (‹Below w.heap.size w _ ∧ True›).1 hg2 (Below.size (‹Below w.heap.size w _ ∧ True›).1) (fun g hg => (ho1.lt g hg).1))
            | (refine step_append_sl rfl (.tmp 40) (.tmp 43) _ rfl i0 _ 8 Tryz.underlying26 hi0 hz0 hk0 hb0 rfl (by decide) oneE (by rfl) ho2 _ _ _ (xs.drop k) (by rfl) (by simp <;> omega) ((by first | exact hsl2.below (‹Below w.heap.size w _ ∧ True›).1 | exact (hsl2 _).below (‹Below w.heap.size w _ ∧ True›).1)) (by simp; omega) (by simp; omega) (Below.size (‹Below w.heap.size w _ ∧ True›).1) ?_; intro v3 w3 ho3 hg3 ha3; have hq3 := Below.grown (B := w.heap.size) (a := w) (‹Below w.heap.size w _ ∧ True›).1 hg3 (Below.size (‹Below w.heap.size w _ ∧ True›).1) (fun g hg => (ho2.lt g hg).1)))
        all_goals
          go_wp2
          go_ret
          refine ⟨_, rfl, ?_, .inr ho3.fresh, hq3⟩
          have : Ints _ _ _ := ho3.slOf
          rw [W1.out, if_neg (fun h => by have := lt_of_get h; have := Hke.out; omega)]
          simpa using this
end Go.Proofs.YtlmjncncmgmehaaGreat
/- The reference of layer 13: insert and Made. Condition: the arguments read as lists. -/
namespace Go.Proofs.YtlmjncncmgmehaaGreat
open Go.RowKit

theorem insL_at : ∀ {xs : List Link} {k : Nat} {x : Link}, (∀ y ∈ xs.take k, y.id < x.id) → (∀ y, xs[k]? = some y → ¬ y.id < x.id) → insL xs x = xs.take k ++ [x] ++ xs.drop k
  | [], k, x, _, _ => by simp [insL]
  | y :: xs, 0, x, _, h => by
    have := h y (by simp)
    simp [insL, this]
  | y :: xs, k + 1, x, h1, h2 => by
    have hx := h1 y (by simp)
    rw [insL, if_pos hx, insL_at (k := k) (fun z hz => h1 z (by simp [hz])) (fun z hz => h2 z (by simpa using hz))]
    simp

set_option maxHeartbeats 2000000 in
theorem insert_ok (v : Value) (xs : List Link) (x : Link) (w0 : World) (h : Links w0 v xs) (hn : xs.length ≤ 1048576) :
    Calls Tryz.prog 100 #[v, .agg #[.int .i64 x.id, .int .i64 x.obv, .int .i64 x.rev]] w0 fun e w' => ∃ u, e = .returned u ∧ Links w' u (insL xs x) ∧ Fresh w0.heap.size u ∧ Below w0.heap.size w0 w' := by
  obtain ⟨w, hw, Hz, hww, hlt0, hc0⟩ := boxed w0 #[.int .i64 x.id, .int .i64 x.obv, .int .i64 x.rev] 65
  have k0 := hc0 0 _ rfl; have k1 := hc0 1 _ rfl; have k2 := hc0 2 _ rfl
  clear hc0
  have h0 := h.below hww
  obtain ⟨A, c, rfl, h1, h2, hc⟩ := h0.cells
  have hzw : w0.heap.size ≤ w.heap.size := by omega
  go_enter Tryz.func100, Tryz.ntmps100
  go_wp2
  go_loopw [5] (fun i wr => ∃ k : Nat, k ≤ xs.length ∧ i = .int .i64 k ∧ (∀ y ∈ xs.take k, y.id < x.id) ∧ ∃ n, wr = w.drewN n) (fun i _ => xs.length - (intOf i).toNat)
  case atStart => exact ⟨0, Nat.zero_le _, rfl, by simp, 0, rfl⟩
  case round =>
    obtain ⟨k, hk, rfl, hr, n, rfl⟩ := hrel
    have Hr := Lib.hid hr; clear hr
    by_cases hlt : k < xs.length
    · have d0 : decide ((k : Int) < (xs.length : Int)) = true := by simp; omega
      obtain ⟨b, o, rfl, hb, hc⟩ := hc k hlt
      obtain ⟨y, hy⟩ := get_of_lt hlt
      obtain ⟨c0, _⟩ := hc w (Below.refl _ _) k y hy
      have Hy := Lib.hid hy; clear hy hc
      have hl1 : (k : Int) < (xs.length : Int) := by omega
      have hl0 : (0 : Int) ≤ (k : Int) := by omega
      by_cases hyx : y.id < x.id
      · have d1 : decide (y.id < x.id) = true := by simpa using hyx
        go_wp2
        go_quiet (fail)
        go_wp2
        refine ⟨?rel, ?measure⟩
        case rel => exact ⟨k + 1, by omega, by go_num, by rw [take_snoc' Hy.out]; intro z hz; simp only [List.mem_append, List.mem_singleton] at hz; rcases hz with hz | rfl; exact Hr.out z hz; exact hyx, _, rfl⟩
        case measure => simp [intOf]; omega
      · have d1 : decide (y.id < x.id) = false := by simpa using hyx
        have W1 := Lib.hid (insL_at Hr.out (fun z hz => by rw [Hy.out] at hz; cases hz; exact hyx))
        have hl2 : (k : Int) ≤ (xs.length : Int) := by omega
        have hl3 : (xs.length : Int) ≤ (c : Int) := by omega
        have hl4 : (k : Int) ≤ (c : Int) := by omega
        have hl5 : ¬ c = k := by omega
        have hsl := SlOf.sl h0
        obtain ⟨i0, hi0, hz0, hk0, hb0⟩ := info_parts infoL
        have hsl1 : Sl w 3 (some ⟨b, o, none⟩) (xs.take k).length ((xs.take k).flatMap encL) := by rw [flat_take encL 3 lenL, List.length_take, Nat.min_eq_left hk]; exact hsl.take hk
        have hsl2 : Sl w 3 (some ⟨b, o + k * 3, none⟩) (xs.drop k).length ((xs.drop k).flatMap encL) := by rw [flat_drop encL 3 lenL, List.length_drop]; have := hsl.drop hk; simpa using this
        have oneE := oneL
        have S4 : ∀ w', Below w.heap.size w w' → Below w.heap.size w w' ∧ w'.cell? ⟨w0.heap.size, 0, none⟩ = some (.int .i64 x.id) ∧ w'.cell? ⟨w0.heap.size, 1, none⟩ = some (.int .i64 x.obv) ∧ w'.cell? ⟨w0.heap.size, 2, none⟩ = some (.int .i64 x.rev) :=
          fun w' hb => ⟨hb, cell_later hb k0, cell_later hb k1, cell_later hb k2⟩
        go_wp2
        go_quiet (fail)
        go_wp2
        obtain ⟨wz, hwz, hbz⟩ : ∃ wz, wz = (w.drewN n).drewN nq ∧ Below w.heap.size w wz := ⟨_, rfl, below_drewN (below_drewN (Below.refl _ _) _) _⟩
        rw [← hwz]
        clear hwz
        go_region_held3 (fun w' => Below w.heap.size w w' ∧ w'.cell? ⟨w0.heap.size, 0, none⟩ = some (.int .i64 x.id) ∧ w'.cell? ⟨w0.heap.size, 1, none⟩ = some (.int .i64 x.obv) ∧ w'.cell? ⟨w0.heap.size, 2, none⟩ = some (.int .i64 x.rev)) (first | exact S4 _ hbz.drew | exact S4 _ (by assumption) | (have hh := (‹Below w.heap.size w _ ∧ _ ∧ _ ∧ _›).1; have h2 := hh.size; exact S4 _ (by exact Below.alloc hh h2 _)))
          (first
            | (refine step_append_sl rfl (.tmp 22) (.tmp 25) _ rfl i0 _ 24 Tryz.underlying52 hi0 hz0 hk0 hb0 rfl (by decide) oneE (by rfl) (own_empty (B := w.heap.size) (by first | exact heap_alloc_new _ _ | exact heap_alloc2_old _ _ _ | exact heap_alloc2_new _ _ _) (by first | (simp; done) | (have := hbz.size; simp; omega))) _ _ k (xs.take k) (by rfl) (by simp; omega) ((hsl1).below (‹Below w.heap.size w _ ∧ _ ∧ _ ∧ _›).1) (by simp; omega) (by simp; omega) (Below.size (‹Below w.heap.size w _ ∧ _ ∧ _ ∧ _›).1) ?_; intro v1 w1 ho1 hg1 ha1; have hq1 := Below.grown (B := w.heap.size) (a := w) (‹Below w.heap.size w _ ∧ _ ∧ _ ∧ _›).1 hg1 (Below.size (‹Below w.heap.size w _ ∧ _ ∧ _ ∧ _›).1) (by intro g hg; simp [Value.ownBlock] at hg; first | omega | (have := hbz.size; omega)))
            | (refine step_append_sl rfl (.tmp 26) (.tmp 28) _ rfl i0 _ 24 Tryz.underlying52 hi0 hz0 hk0 hb0 rfl (by decide) oneE (by rfl) (by first | exact ho1 | exact Own.alloc ho1 _) _ 1 1 [x] (by rfl) rfl (sl_one rfl (by first | exact heap_alloc_new _ _ | (refine (hg1.block _ (by simp <;> omega) (by simp [Value.ownBlock])).trans ?_; first | exact heap_alloc2_new _ _ _ | exact heap_alloc2_old _ _ _))) (by simp; omega) (by simp; omega) (Below.size (‹Below w.heap.size w _ ∧ _ ∧ _ ∧ _›).1) ?_; intro v2 w2 ho2 hg2 ha2; have hq2 := Below.grown (B := w.heap.size) (a := w) (‹Below w.heap.size w _ ∧ _ ∧ _ ∧ _›).1 hg2 (Below.size (‹Below w.heap.size w _ ∧ _ ∧ _ ∧ _›).1) (fun g hg => (ho1.lt g hg).1))
            | (refine step_append_sl rfl (.tmp 29) (.tmp 32) _ rfl i0 _ 24 Tryz.underlying52 hi0 hz0 hk0 hb0 rfl (by decide) oneE (by rfl) ho2 _ _ _ (xs.drop k) (by rfl) (by simp <;> omega) ((by first | exact hsl2.below (‹Below w.heap.size w _ ∧ _ ∧ _ ∧ _›).1 | exact (hsl2 _).below (‹Below w.heap.size w _ ∧ _ ∧ _ ∧ _›).1)) (by simp; omega) (by simp; omega) (Below.size (‹Below w.heap.size w _ ∧ _ ∧ _ ∧ _›).1) ?_; intro v3 w3 ho3 hg3 ha3; have hq3 := Below.grown (B := w.heap.size) (a := w) (‹Below w.heap.size w _ ∧ _ ∧ _ ∧ _›).1 hg3 (Below.size (‹Below w.heap.size w _ ∧ _ ∧ _ ∧ _›).1) (fun g hg => (ho2.lt g hg).1)))
        all_goals
          go_wp2
          go_ret
          refine ⟨_, rfl, ?_, ho3.fresh.mono hzw, hww.trans (hq3.mono hzw)⟩
          have : Links _ _ _ := ho3.slOf
          rw [W1.out]
          simpa using this
    · have d0 : decide ((k : Int) < (xs.length : Int)) = false := by simp; omega
      have hke : k = xs.length := by omega
      have W1 := Lib.hid (insL_at Hr.out (fun z hz => by have := lt_of_get hz; omega))
      have hl0 : (0 : Int) ≤ (k : Int) := by omega
      have hl2 : (k : Int) ≤ (xs.length : Int) := by omega
      have hl3 : (xs.length : Int) ≤ (c : Int) := by omega
      have hl4 : (k : Int) ≤ (c : Int) := by omega
      have hsl := SlOf.sl h0
      have Hke := Lib.hid hke; clear hke
      obtain ⟨i0, hi0, hz0, hk0, hb0⟩ := info_parts infoL
      have oneE := oneL
      have S4 : ∀ w', Below w.heap.size w w' → Below w.heap.size w w' ∧ w'.cell? ⟨w0.heap.size, 0, none⟩ = some (.int .i64 x.id) ∧ w'.cell? ⟨w0.heap.size, 1, none⟩ = some (.int .i64 x.obv) ∧ w'.cell? ⟨w0.heap.size, 2, none⟩ = some (.int .i64 x.rev) :=
          fun w' hb => ⟨hb, cell_later hb k0, cell_later hb k1, cell_later hb k2⟩
      have hsl1 : Sl w 3 A (xs.take k).length ((xs.take k).flatMap encL) := by rw [List.take_of_length_le (by omega)]; exact hsl
      have hsl2 : ∀ A', Sl w 3 A' (xs.drop k).length ((xs.drop k).flatMap encL) := by intro A'; rw [List.drop_eq_nil_of_le (by omega)]; exact Sl.nil _ _ _
      by_cases hl5 : c = k
      · have hl6 := Lib.hid hl5
        go_wp2
        go_quiet (fail)
        go_wp2
        obtain ⟨wz, hwz, hbz⟩ : ∃ wz, wz = (w.drewN n).drewN nq ∧ Below w.heap.size w wz := ⟨_, rfl, below_drewN (below_drewN (Below.refl _ _) _) _⟩
        rw [← hwz]
        clear hwz
        go_region_held3 (fun w' => Below w.heap.size w w' ∧ w'.cell? ⟨w0.heap.size, 0, none⟩ = some (.int .i64 x.id) ∧ w'.cell? ⟨w0.heap.size, 1, none⟩ = some (.int .i64 x.obv) ∧ w'.cell? ⟨w0.heap.size, 2, none⟩ = some (.int .i64 x.rev)) (first | exact S4 _ hbz.drew | exact S4 _ (by assumption) | (have hh := (‹Below w.heap.size w _ ∧ _ ∧ _ ∧ _›).1; have h2 := hh.size; exact S4 _ (by exact Below.alloc hh h2 _)))
          (first
            | (refine step_append_sl rfl (.tmp 22) (.tmp 25) _ rfl i0 _ 24 Tryz.underlying52 hi0 hz0 hk0 hb0 rfl (by decide) oneE (by rfl) (own_empty (B := w.heap.size) (by first | exact heap_alloc_new _ _ | exact heap_alloc2_old _ _ _ | exact heap_alloc2_new _ _ _) (by first | (simp; done) | (have := hbz.size; simp; omega))) _ _ k (xs.take k) (by rfl) (by simp; omega) ((hsl1).below (‹Below w.heap.size w _ ∧ _ ∧ _ ∧ _›).1) (by simp; omega) (by simp; omega) (Below.size (‹Below w.heap.size w _ ∧ _ ∧ _ ∧ _›).1) ?_; intro v1 w1 ho1 hg1 ha1; have hq1 := Below.grown (B := w.heap.size) (a := w) (‹Below w.heap.size w _ ∧ _ ∧ _ ∧ _›).1 hg1 (Below.size (‹Below w.heap.size w _ ∧ _ ∧ _ ∧ _›).1) (by intro g hg; simp [Value.ownBlock] at hg; first | omega | (have := hbz.size; omega)))
            | (refine step_append_sl rfl (.tmp 26) (.tmp 28) _ rfl i0 _ 24 Tryz.underlying52 hi0 hz0 hk0 hb0 rfl (by decide) oneE (by rfl) (by first | exact ho1 | exact Own.alloc ho1 _) _ 1 1 [x] (by rfl) rfl (sl_one rfl (by first | exact heap_alloc_new _ _ | (refine (hg1.block _ (by simp <;> omega) (by simp [Value.ownBlock])).trans ?_; first | exact heap_alloc2_new _ _ _ | exact heap_alloc2_old _ _ _))) (by simp; omega) (by simp; omega) (Below.size (‹Below w.heap.size w _ ∧ _ ∧ _ ∧ _›).1) ?_; intro v2 w2 ho2 hg2 ha2; have hq2 := Below.grown (B := w.heap.size) (a := w) (‹Below w.heap.size w _ ∧ _ ∧ _ ∧ _›).1 hg2 (Below.size (‹Below w.heap.size w _ ∧ _ ∧ _ ∧ _›).1) (fun g hg => (ho1.lt g hg).1))
            | (refine step_append_sl rfl (.tmp 29) (.tmp 32) _ rfl i0 _ 24 Tryz.underlying52 hi0 hz0 hk0 hb0 rfl (by decide) oneE (by rfl) ho2 _ _ _ (xs.drop k) (by rfl) (by simp <;> omega) ((by first | exact hsl2.below (‹Below w.heap.size w _ ∧ _ ∧ _ ∧ _›).1 | exact (hsl2 _).below (‹Below w.heap.size w _ ∧ _ ∧ _ ∧ _›).1)) (by simp; omega) (by simp; omega) (Below.size (‹Below w.heap.size w _ ∧ _ ∧ _ ∧ _›).1) ?_; intro v3 w3 ho3 hg3 ha3; have hq3 := Below.grown (B := w.heap.size) (a := w) (‹Below w.heap.size w _ ∧ _ ∧ _ ∧ _›).1 hg3 (Below.size (‹Below w.heap.size w _ ∧ _ ∧ _ ∧ _›).1) (fun g hg => (ho2.lt g hg).1)))
        all_goals
          go_wp2
          go_ret
          refine ⟨_, rfl, ?_, ho3.fresh.mono hzw, hww.trans (hq3.mono hzw)⟩
          have : Links _ _ _ := ho3.slOf
          rw [W1.out]
          simpa using this
      · have hl6 : ¬ c = k := hl5
        go_wp2
        go_quiet (fail)
        go_wp2
        obtain ⟨wz, hwz, hbz⟩ : ∃ wz, wz = (w.drewN n).drewN nq ∧ Below w.heap.size w wz := ⟨_, rfl, below_drewN (below_drewN (Below.refl _ _) _) _⟩
        rw [← hwz]
        clear hwz
        go_region_held3 (fun w' => Below w.heap.size w w' ∧ w'.cell? ⟨w0.heap.size, 0, none⟩ = some (.int .i64 x.id) ∧ w'.cell? ⟨w0.heap.size, 1, none⟩ = some (.int .i64 x.obv) ∧ w'.cell? ⟨w0.heap.size, 2, none⟩ = some (.int .i64 x.rev)) (first | exact S4 _ hbz.drew | exact S4 _ (by assumption) | (have hh := (‹Below w.heap.size w _ ∧ _ ∧ _ ∧ _›).1; have h2 := hh.size; exact S4 _ (by exact Below.alloc hh h2 _)))
          (first
            | (refine step_append_sl rfl (.tmp 22) (.tmp 25) _ rfl i0 _ 24 Tryz.underlying52 hi0 hz0 hk0 hb0 rfl (by decide) oneE (by rfl) (own_empty (B := w.heap.size) (by first | exact heap_alloc_new _ _ | exact heap_alloc2_old _ _ _ | exact heap_alloc2_new _ _ _) (by first | (simp; done) | (have := hbz.size; simp; omega))) _ _ k (xs.take k) (by rfl) (by simp; omega) ((hsl1).below (‹Below w.heap.size w _ ∧ _ ∧ _ ∧ _›).1) (by simp; omega) (by simp; omega) (Below.size (‹Below w.heap.size w _ ∧ _ ∧ _ ∧ _›).1) ?_; intro v1 w1 ho1 hg1 ha1; have hq1 := Below.grown (B := w.heap.size) (a := w) (‹Below w.heap.size w _ ∧ _ ∧ _ ∧ _›).1 hg1 (Below.size (‹Below w.heap.size w _ ∧ _ ∧ _ ∧ _›).1) (by intro g hg; simp [Value.ownBlock] at hg; first | omega | (have := hbz.size; omega)))
            | (refine step_append_sl rfl (.tmp 26) (.tmp 28) _ rfl i0 _ 24 Tryz.underlying52 hi0 hz0 hk0 hb0 rfl (by decide) oneE (by rfl) (by first | exact ho1 | exact Own.alloc ho1 _) _ 1 1 [x] (by rfl) rfl (sl_one rfl (by first | exact heap_alloc_new _ _ | (refine (hg1.block _ (by simp <;> omega) (by simp [Value.ownBlock])).trans ?_; first | exact heap_alloc2_new _ _ _ | exact heap_alloc2_old _ _ _))) (by simp; omega) (by simp; omega) (Below.size (‹Below w.heap.size w _ ∧ _ ∧ _ ∧ _›).1) ?_; intro v2 w2 ho2 hg2 ha2; have hq2 := Below.grown (B := w.heap.size) (a := w) (‹Below w.heap.size w _ ∧ _ ∧ _ ∧ _›).1 hg2 (Below.size (‹Below w.heap.size w _ ∧ _ ∧ _ ∧ _›).1) (fun g hg => (ho1.lt g hg).1))
            | (refine step_append_sl rfl (.tmp 29) (.tmp 32) _ rfl i0 _ 24 Tryz.underlying52 hi0 hz0 hk0 hb0 rfl (by decide) oneE (by rfl) ho2 _ _ _ (xs.drop k) (by rfl) (by simp <;> omega) ((by first | exact hsl2.below (‹Below w.heap.size w _ ∧ _ ∧ _ ∧ _›).1 | exact (hsl2 _).below (‹Below w.heap.size w _ ∧ _ ∧ _ ∧ _›).1)) (by simp; omega) (by simp; omega) (Below.size (‹Below w.heap.size w _ ∧ _ ∧ _ ∧ _›).1) ?_; intro v3 w3 ho3 hg3 ha3; have hq3 := Below.grown (B := w.heap.size) (a := w) (‹Below w.heap.size w _ ∧ _ ∧ _ ∧ _›).1 hg3 (Below.size (‹Below w.heap.size w _ ∧ _ ∧ _ ∧ _›).1) (fun g hg => (ho2.lt g hg).1)))
        all_goals
          go_wp2
          go_ret
          refine ⟨_, rfl, ?_, ho3.fresh.mono hzw, hww.trans (hq3.mono hzw)⟩
          have : Links _ _ _ := ho3.slOf
          rw [W1.out]
          simpa using this
end Go.Proofs.YtlmjncncmgmehaaGreat
/- The reference of layer 13: Made. Condition: the argument reads as a list of links. -/
namespace Go.Proofs.YtlmjncncmgmehaaGreat
open Go.RowKit

def withs (l : List Int) : List Int := l.foldl withI []
def inss (l : List Link) : List Link := l.foldl insL []
/-- The graph with some links. -/
def madeG (l : List Link) : Graph := ⟨withs (l.map Link.obv), withs (l.map Link.rev), inss l⟩
theorem withI_len : ∀ (xs : List Int) (n : Int), (withI xs n).length ≤ xs.length + 1
  | [], _ => by simp [withI]
  | x :: xs, n => by
    have := withI_len xs n
    unfold withI
    split
    · simp; omega
    · split <;> simp
theorem insL_len : ∀ (xs : List Link) (n : Link), (insL xs n).length = xs.length + 1
  | [], _ => by simp [insL]
  | x :: xs, n => by
    have := insL_len xs n
    unfold insL
    split
    · simp; omega
    · simp
theorem withs_snoc (l : List Int) (x : Int) : withs (l ++ [x]) = withI (withs l) x := by simp [withs]
theorem inss_snoc (l : List Link) (x : Link) : inss (l ++ [x]) = insL (inss l) x := by simp [inss]
theorem foldl_withI_len : ∀ (l : List Int) (a : List Int), (l.foldl withI a).length ≤ a.length + l.length
  | [], a => by simp
  | x :: l, a => by have := foldl_withI_len l (withI a x); have := withI_len a x; simp; omega
theorem withs_len (l : List Int) : (withs l).length ≤ l.length := by have := foldl_withI_len l []; unfold withs; simpa using this
theorem foldl_insL_len : ∀ (l : List Link) (a : List Link), (l.foldl insL a).length = a.length + l.length
  | [], a => by simp
  | x :: l, a => by have := foldl_insL_len l (insL a x); have := insL_len a x; simp; omega
theorem inss_len (l : List Link) : (inss l).length = l.length := by have := foldl_insL_len l []; unfold inss; simpa using this

theorem heap_cell {w : World} {g i : Nat} {cs : Array Value} {t : TypeId} (h : w.heap[g]? = some (.cells cs t (0, 0))) : w.cell? ⟨g, i, none⟩ = cs[i]? := cell_of_row w g i cs t (0, 0) h
theorem heap_free {w : World} {g i : Nat} {cs : Array Value} {t : TypeId} (h : w.heap[g]? = some (.cells cs t (0, 0))) : w.frozen? ⟨g, i, none⟩ = false := by simp [World.frozen?, h]
theorem heap_lt {w : World} {g : Nat} {o : Obj} (h : w.heap[g]? = some o) : g < w.heap.size := (Array.getElem?_eq_some_iff.1 h).1
theorem heap_below {w w' : World} {g B : Nat} {o : Obj} (h : w.heap[g]? = some o) (hb : Below B w w') (hg : g < B) : w'.heap[g]? = some o := (hb.block g hg).trans h

/-- The local graph in its block (w.heap.size + 1), the result's block before it, and what the graph's slices hold. -/
structure MSt (w wr : World) (u1 u2 u3 : Value) (a b : List Int) (c : List Link) : Prop where
  g : wr.heap[w.heap.size + 1]? = some (.cells #[u1, u2, u3] 54 (0, 0))
  r : wr.heap[w.heap.size]? = some (.cells #[.slice none 0 0, .slice none 0 0, .slice none 0 0] 54 (0, 0))
  i1 : Ints wr u1 a
  i2 : Ints wr u2 b
  i3 : Links wr u3 c
  f1 : Fresh (w.heap.size + 2) u1
  f2 : Fresh (w.heap.size + 2) u2
  f3 : Fresh (w.heap.size + 2) u3
  b : Below w.heap.size w wr
section
variable {w wr w1 : World} {u1 u2 u3 v1 : Value} {a b a' : List Int} {c c' : List Link}
theorem MSt.later (h : MSt w wr u1 u2 u3 a b c) (hb : Below wr.heap.size wr w1) : MSt w w1 u1 u2 u3 a b c :=
  ⟨heap_below h.g hb (heap_lt h.g), heap_below h.r hb (heap_lt h.r), h.i1.below hb, h.i2.below hb, h.i3.below hb, h.f1, h.f2, h.f3, h.b.trans (hb.mono h.b.size)⟩
theorem MSt.set1 (h : MSt w w1 u1 u2 u3 a b c) (hi : Ints w1 v1 a') (hf : Fresh (w.heap.size + 2) v1) : MSt w (w1.setCell ⟨w.heap.size + 1, 0, none⟩ v1) v1 u2 u3 a' b c := by
  refine ⟨?_, ?_, hi.setCell (hf.ne (by simp)) _, h.i2.setCell (h.f2.ne (by simp)) _, h.i3.setCell (h.f3.ne (by simp)) _, hf, h.f2, h.f3, h.b.setCell (by simp) _⟩
  · have := heap_setCell_same w1 (w.heap.size + 1) 0 _ _ v1 h.g
    simpa using this
  · rw [heap_setCell_other _ _ _ _ (by simp)]; exact h.r
theorem MSt.set2 (h : MSt w w1 u1 u2 u3 a b c) (hi : Ints w1 v1 a') (hf : Fresh (w.heap.size + 2) v1) : MSt w (w1.setCell ⟨w.heap.size + 1, 1, none⟩ v1) u1 v1 u3 a a' c := by
  refine ⟨?_, ?_, h.i1.setCell (h.f1.ne (by simp)) _, hi.setCell (hf.ne (by simp)) _, h.i3.setCell (h.f3.ne (by simp)) _, h.f1, hf, h.f3, h.b.setCell (by simp) _⟩
  · have := heap_setCell_same w1 (w.heap.size + 1) 1 _ _ v1 h.g
    simpa using this
  · rw [heap_setCell_other _ _ _ _ (by simp)]; exact h.r
theorem MSt.set3 (h : MSt w w1 u1 u2 u3 a b c) (hi : Links w1 v1 c') (hf : Fresh (w.heap.size + 2) v1) : MSt w (w1.setCell ⟨w.heap.size + 1, 2, none⟩ v1) u1 u2 v1 a b c' := by
  refine ⟨?_, ?_, h.i1.setCell (h.f1.ne (by simp)) _, h.i2.setCell (h.f2.ne (by simp)) _, hi.setCell (hf.ne (by simp)) _, h.f1, h.f2, hf, h.b.setCell (by simp) _⟩
  · have := heap_setCell_same w1 (w.heap.size + 1) 2 _ _ v1 h.g
    simpa using this
  · rw [heap_setCell_other _ _ _ _ (by simp)]; exact h.r
theorem MSt.facts (h : MSt w wr u1 u2 u3 a b c) : wr.cell? ⟨w.heap.size + 1, 0, none⟩ = some u1 ∧ wr.cell? ⟨w.heap.size + 1, 1, none⟩ = some u2 ∧ wr.cell? ⟨w.heap.size + 1, 2, none⟩ = some u3 ∧
    wr.frozen? ⟨w.heap.size + 1, 0, none⟩ = false ∧ wr.frozen? ⟨w.heap.size + 1, 1, none⟩ = false ∧ wr.frozen? ⟨w.heap.size + 1, 2, none⟩ = false :=
  ⟨heap_cell h.g, heap_cell h.g, heap_cell h.g, heap_free h.g, heap_free h.g, heap_free h.g⟩
theorem MSt.fresh {w wr : World} {u v : Value} (hz : w.heap.size + 1 < wr.heap.size) (hf : Fresh (w.heap.size + 2) u) (h : v = u ∨ Fresh wr.heap.size v) : Fresh (w.heap.size + 2) v := by
  rcases h with rfl | h
  · exact hf
  · exact h.mono (by omega)
end
/-- A struct of three cells, stored whole. -/
theorem heap_set3 {w : World} {g : Nat} {a b c x y z : Value} {t : TypeId} (h : w.heap[g]? = some (.cells #[a, b, c] t (0, 0))) :
    (((w.setCell ⟨g, 0, none⟩ x).setCell ⟨g, 1, none⟩ y).setCell ⟨g, 2, none⟩ z).heap[g]? = some (.cells #[x, y, z] t (0, 0)) := by
  have h1 := heap_setCell_same w g 0 _ _ x h
  have h2 := heap_setCell_same _ g 1 _ _ y h1
  have h3 := heap_setCell_same _ g 2 _ _ z h2
  simpa using h3
theorem SlOf.set3 {α : Type} {enc : α → List Value} {k : Nat} {w : World} {v : Value} {xs : List α} {g : Nat} (h : SlOf enc k w v xs) (hp : v.ownBlock ≠ some g) (x y z : Value) :
    SlOf enc k (((w.setCell ⟨g, 0, none⟩ x).setCell ⟨g, 1, none⟩ y).setCell ⟨g, 2, none⟩ z) v xs := ((h.setCell (p := ⟨g, 0, none⟩) hp x).setCell (p := ⟨g, 1, none⟩) hp y).setCell (p := ⟨g, 2, none⟩) hp z
theorem below_set3 {B g : Nat} {a w : World} (h : Below B a w) (hg : B ≤ g) (x y z : Value) : Below B a (((w.setCell ⟨g, 0, none⟩ x).setCell ⟨g, 1, none⟩ y).setCell ⟨g, 2, none⟩ z) :=
  ((h.setCell (p := ⟨g, 0, none⟩) hg x).setCell (p := ⟨g, 1, none⟩) hg y).setCell (p := ⟨g, 2, none⟩) hg z
theorem blk3 {w : World} {g : Nat} {a b c : Value} {t : TypeId} (h : w.heap[g]? = some (.cells #[a, b, c] t (0, 0))) :
    w.cell? ⟨g, 0, none⟩ = some a ∧ w.cell? ⟨g, 1, none⟩ = some b ∧ w.cell? ⟨g, 2, none⟩ = some c ∧ w.frozen? ⟨g, 0, none⟩ = false ∧ w.frozen? ⟨g, 1, none⟩ = false ∧ w.frozen? ⟨g, 2, none⟩ = false :=
  ⟨heap_cell h, heap_cell h, heap_cell h, heap_free h, heap_free h, heap_free h⟩
theorem results_cell_tmp_row {P : Program} {fn : Func} {p u : Tmp} {ty : TypeId} (h : fn.results = #[.cell p ty, .tmp u]) (tmps : Array Value) (w : World) (g : Nat) (t : TypeId) (cs : Array Value) (fr : Nat × Nat) (d : TypeDesc)
    (hp : tmps.getD p undef = .pointer (some ⟨g, 0, none⟩)) (hg : w.heap[g]? = some (.cells cs t fr))
    (hu : P.underlying ty = some d) (hd : (match d with | .struct _ | .array _ _ => true | _ => false) = true) (hi : (P.info? ty).map (·.size) = some cs.size) :
    (results fn tmps).run P w = .ok (.tuple #[.agg cs, tmps.getD u undef]) w := by
  rw [results_cell_tmp h, hp]
  simp [asAddr, run_loadVar_row w g t ty cs fr d hg hu hd hi, Result.andThen]
/-- A graph whose slices lie in no block below B. -/
def GraphNew (B : Nat) (w : World) (v : Value) (g : Graph) : Prop := ∃ v1 v2 v3, v = .agg #[v1, v2, v3] ∧ (Ints w v1 g.obv ∧ Ints w v2 g.rev ∧ Links w v3 g.links) ∧ Fresh B v1 ∧ Fresh B v2 ∧ Fresh B v3
theorem GraphNew.at {B : Nat} {w : World} {v : Value} {g : Graph} (h : GraphNew B w v g) : GraphAt w v g := by
  obtain ⟨v1, v2, v3, e, ⟨a, b, c⟩, _⟩ := h
  exact ⟨v1, v2, v3, e, a, b, c⟩
theorem infoG : (Tryz.prog.info? 54).map (·.size) = some 3 := by kernel_rfl
def MInv (w : World) (ls : List Link) (v4 : Value) (wr : World) : Prop := ∃ (k : Nat) (u1 u2 u3 : Value) (a b : List Int) (c : List Link), k ≤ ls.length ∧ v4 = .int .i64 k ∧ MSt w wr u1 u2 u3 a b c ∧ (a = withs ((ls.take k).map Link.obv) ∧ b = withs ((ls.take k).map Link.rev) ∧ c = inss (ls.take k))

set_option maxHeartbeats 4000000 in
theorem Made_ok (v : Value) (ls : List Link) (w : World) (h : Links w v ls) (hn : ls.length ≤ 1048576) :
    Calls Tryz.prog 64 #[v] w fun e w' => ∃ u, e = .returned u ∧ GraphNew w.heap.size w' u (madeG ls) ∧ Below w.heap.size w w' := by
  obtain ⟨A, c, rfl, h1, h2, hc⟩ := h.cells
  go_enter Tryz.func64, Tryz.ntmps64
  go_wp2
  go_loopw [4] (fun i wr => MInv w ls i wr) (fun i _ => ls.length - (intOf i).toNat)
  case atStart =>
    refine ⟨0, .slice none 0 0, .slice none 0 0, .slice none 0 0, [], [], [], Nat.zero_le _, rfl, ⟨heap_alloc2_new _ _ _, heap_alloc2_old _ _ _, ?_, ?_, ?_, fresh_nil _, fresh_nil _, fresh_nil _, ((Below.refl _ _).alloc (Nat.le_refl _) _).alloc (by simp) _⟩, by simp [withs, inss]⟩
    all_goals exact (own_nil _ _ 0 0 _).slOf
  case round =>
    obtain ⟨k, u1, u2, u3, la, lb, lc, hk, rfl, hm, hls⟩ := hrel
    have Hls := Lib.hid hls; clear hls
    have hz := heap_lt hm.g
    by_cases hlt : k < ls.length
    · obtain ⟨b, o, rfl, hbb, hc⟩ := hc k hlt
      obtain ⟨x, hx⟩ := get_of_lt hlt
      have hl1 : (k : Int) < (ls.length : Int) := by omega
      have hl0 : (0 : Int) ≤ (k : Int) := by omega
      have Hlen1 : Hid (la.length ≤ 1048576) := by rw [Hls.out.1]; exact Nat.le_trans (withs_len _) (by simp; omega)
      have Hlen2 : Hid (lb.length ≤ 1048576) := by rw [Hls.out.2.1]; exact Nat.le_trans (withs_len _) (by simp; omega)
      have Hlen3 : Hid (lc.length ≤ 1048576) := by show lc.length ≤ 1048576; rw [Hls.out.2.2, inss_len, List.length_take]; omega
      have HC := Lib.hid hc; have Hx := Lib.hid hx; clear hc hx
      obtain ⟨c0, c1, c2⟩ := HC.out wr hm.b k x Hx.out
      obtain ⟨g0, g1, g2, q0, q1, q2⟩ := hm.facts
      have hm' := hm.later (w1 := wr.drew) (Below.refl _ _).drew
      go_wp2
      go_region_law (first | (go_simp; go_at_call 99; (with_reducible refine (with_ok13 _ _ _ _ hm'.i1 Hlen1.out).mono ?_); rintro e w1 ⟨v1, rfl, hv1, hfv1, hb1⟩; obtain ⟨A1, cc1, rfl, _, _, _⟩ := hv1.cells; have hm1 := hm'.later hb1; obtain ⟨g0, g1, g2, q0, q1, q2⟩ := hm1.facts; dsimp only))
      all_goals
        have hn1 := hm1.set1 hv1 (MSt.fresh (by simpa using hz) hm.f1 hfv1)
        clear g0 g1 g2 q0 q1 q2 c0 c1 c2 hm1 hm' hb1
        obtain ⟨w2, hw2⟩ : ∃ w2, w1.setCell ⟨w.heap.size + 1, 0, none⟩ (.slice A1 (withI la x.obv).length cc1) = w2 := ⟨_, rfl⟩
        rw [hw2] at hn1 ⊢
        clear hw2
        obtain ⟨c0, c1, c2⟩ := HC.out w2 hn1.b k x Hx.out
        obtain ⟨g0, g1, g2, q0, q1, q2⟩ := hn1.facts
        have hn' := hn1.later (w1 := w2.drew) (Below.refl _ _).drew
        have hz2 := heap_lt hn1.g
        go_wp2
        go_region_law (first | (go_simp; go_at_call 99; (with_reducible refine (with_ok13 _ _ _ _ hn'.i2 Hlen2.out).mono ?_); rintro e w3 ⟨v2, rfl, hv2, hfv2, hb2⟩; obtain ⟨A2, cc2, rfl, _, _, _⟩ := hv2.cells; have hm1 := hn'.later hb2; obtain ⟨g0, g1, g2, q0, q1, q2⟩ := hm1.facts; dsimp only))
      all_goals
        have ho1 := hm1.set2 hv2 (MSt.fresh (by simpa using hz2) hn1.f2 hfv2)
        clear g0 g1 g2 q0 q1 q2 c0 c1 c2 hm1 hn' hb2 hn1
        obtain ⟨w4, hw4⟩ : ∃ w4, w3.setCell ⟨w.heap.size + 1, 1, none⟩ (.slice A2 (withI lb x.rev).length cc2) = w4 := ⟨_, rfl⟩
        rw [hw4] at ho1 ⊢
        clear hw4
        obtain ⟨c0, c1, c2⟩ := HC.out w4 ho1.b k x Hx.out
        obtain ⟨g0, g1, g2, q0, q1, q2⟩ := ho1.facts
        have ho' := ho1.later (w1 := w4.drew) (Below.refl _ _).drew
        have hz4 := heap_lt ho1.g
        go_wp2
        go_region_law (first | (go_simp; go_at_call 100; (with_reducible refine (insert_ok _ _ x _ ho'.i3 Hlen3.out).mono ?_); rintro e w5 ⟨v3, rfl, hv3, hfv3, hb3⟩; obtain ⟨A3, cc3, rfl, _, _, _⟩ := hv3.cells; have hm1 := ho'.later hb3; obtain ⟨g0, g1, g2, q0, q1, q2⟩ := hm1.facts; dsimp only))
      all_goals
        have hp1 := hm1.set3 hv3 (MSt.fresh (u := u3) (by simpa using hz4) ho1.f3 (.inr hfv3))
        clear g0 g1 g2 q0 q1 q2 c0 c1 c2 hm1 ho' hb3 ho1
        obtain ⟨w6, hw6⟩ : ∃ w6, w5.setCell ⟨w.heap.size + 1, 2, none⟩ (.slice A3 (insL lc x).length cc3) = w6 := ⟨_, rfl⟩
        rw [hw6] at hp1 ⊢
        clear hw6
        go_wp2
        refine ⟨?rel, ?measure⟩
        case rel => exact ⟨k + 1, _, _, _, _, _, _, by omega, by go_num, hp1, by rw [map_take_snoc _ Hx.out, map_take_snoc _ Hx.out, take_snoc' Hx.out, withs_snoc, withs_snoc, inss_snoc, Hls.out.1, Hls.out.2.1, Hls.out.2.2]; exact ⟨rfl, rfl, rfl⟩⟩
        case measure => simp [intOf]; omega
    · obtain ⟨g0, g1, g2, q0, q1, q2⟩ := hm.facts
      have r0 := heap_cell (i := 0) hm.r; have r1 := heap_cell (i := 1) hm.r; have r2 := heap_cell (i := 2) hm.r
      have s0 := heap_free (i := 0) hm.r; have s1 := heap_free (i := 1) hm.r; have s2 := heap_free (i := 2) hm.r
      obtain ⟨A1, cc1, rfl, _, _, _⟩ := hm.i1.cells
      obtain ⟨A2, cc2, rfl, _, _, _⟩ := hm.i2.cells
      obtain ⟨A3, cc3, rfl, _, _, _⟩ := hm.i3.cells
      have e1 : ls.take k = ls := List.take_of_length_le (by omega)
      have hls := Hls.out
      rw [e1] at hls
      clear e1 Hls
      have Hls := Lib.hid hls; clear hls
      go_wp2
      refine bodyPost_ret (results_cell_row rfl _ _ w.heap.size 54 #[.slice A1 la.length cc1, .slice A2 lb.length cc2, .slice A3 lc.length cc3] (0, 0) _ (by simp) (heap_set3 hm.r) Tryz.underlying54 rfl infoG) rfl
        ⟨_, rfl, ⟨_, _, _, rfl, ⟨?_, ?_, ?_⟩, hm.f1.mono (by omega), hm.f2.mono (by omega), hm.f3.mono (by omega)⟩, below_set3 hm.b (Nat.le_refl _) _ _ _⟩
      · rw [madeG, ← Hls.out.1]; exact hm.i1.set3 (hm.f1.ne (by omega)) _ _ _
      · rw [madeG, ← Hls.out.2.1]; exact hm.i2.set3 (hm.f2.ne (by omega)) _ _ _
      · rw [madeG, ← Hls.out.2.2]; exact hm.i3.set3 (hm.f3.ne (by omega)) _ _ _
end Go.Proofs.YtlmjncncmgmehaaGreat
/- The reference of layer 13: Of. Condition: the argument reads as a list of specimens. -/
namespace Go.Proofs.YtlmjncncmgmehaaGreat
open Go.RowKit

def linkOf (s : Spec) : Link := ⟨s.id, s.obv, s.rev⟩
def full (g : Graph) : Bool := decide (32 < g.obv.length) || decide (32 < g.rev.length)
/-- The error of the die graph of a corpus list, and the graph. -/
def ofE (l : List Spec) : Int := if checkE l = 0 then (if full (madeG (l.map linkOf)) then 6 else 0) else checkE l
def emptyG : Graph := ⟨[], [], []⟩
def ofG (l : List Spec) : Graph := if ofE l = 0 then madeG (l.map linkOf) else emptyG
theorem ret_pair {u : Value} {a b : Int} (h : a = b) : Ending.returned (.tuple #[u, .int .i64 a]) = .returned (.tuple #[u, .int .i64 b]) := by rw [h]

set_option maxHeartbeats 4000000 in
set_option maxRecDepth 100000 in
theorem Of_ok13 (v : Value) (l : List Spec) (w : World) (h : Specs w v l) (hn : l.length ≤ 1048576) :
    Calls Tryz.prog 33 #[v] w fun e w' => ∃ u, e = .returned (.tuple #[u, .int .i64 (ofE l)]) ∧ GraphAt w' u (ofG l) ∧ Below w.heap.size w w' := by
  have h0 := h
  obtain ⟨A, c, rfl, h1, h2, hc⟩ := h.cells
  obtain ⟨W, hW, Hz, hwW, hlt0, hc0⟩ := boxed w #[.slice none 0 0, .slice none 0 0, .slice none 0 0] 54
  clear hc0
  have hWg : W.heap[w.heap.size]? = some (.cells #[.slice none 0 0, .slice none 0 0, .slice none 0 0] 54 (0, 0)) := by rw [← hW]; exact heap_alloc_new _ _
  have HWg := Lib.hid hWg; clear hWg
  go_enter Tryz.func33, Tryz.ntmps33
  go_wp2_with fail
  refine (Check_ok _ _ _ (h0.below hwW)).mono ?_
  rintro e w1 ⟨rfl, hb1⟩
  have Hr1 := Lib.hid (heap_below HWg.out hb1 hlt0)
  have hw1 := below_trans hwW hb1
  by_cases hE : checkE l = 0
  case neg =>
    have hd : (checkE l != 0) = true := by simp [hE]
    obtain ⟨r0, r1, r2, q0, q1, q2⟩ := blk3 Hr1.out
    go_wp2_with fail
    refine bodyPost_ret (results_cell_tmp_row rfl _ _ w.heap.size 54 #[.slice none 0 0, .slice none 0 0, .slice none 0 0] (0, 0) _ (by simp) (heap_set3 Hr1.out) Tryz.underlying54 rfl infoG) rfl
      ⟨_, ret_pair (by simp [ofE, hE]), ?_, below_set3 hw1 (Nat.le_refl _) _ _ _⟩
    simp only [ofG, ofE, hE, if_false]
    exact ⟨_, _, _, rfl, (own_nil _ _ 0 0 _).slOf, (own_nil _ _ 0 0 _).slOf, (own_nil _ _ 0 0 _).slOf⟩
  have hd : (checkE l != 0) = false := by simp [hE]
  have HE := Lib.hid hE; clear hE
  have hWs : w.heap.size < w1.heap.size := heap_lt Hr1.out
  obtain ⟨i0, hi0, hz0, hk0, hb0⟩ := info_parts infoL
  have oneE := oneL
  go_wp2_with fail
  go_loopw [5, 6] (fun u i wr => ∃ k : Nat, k ≤ l.length ∧ i = .int .i64 k ∧ OwnL w1.heap.size wr u ((l.take k).map linkOf) ∧ Below w1.heap.size w1 wr) (fun _ i _ => l.length - (intOf i).toNat)
  case atStart => exact ⟨0, Nat.zero_le _, rfl, own_nil _ _ _ _ _, Below.refl _ _⟩
  case round =>
    obtain ⟨k, hk, rfl, hown, hb⟩ := hrel
    by_cases hlt : k < l.length
    · obtain ⟨b, o, rfl, hbb, hc⟩ := hc k hlt
      obtain ⟨x, hx⟩ := get_of_lt hlt
      have S4 : ∀ w', Below w1.heap.size w1 w' → Below w1.heap.size w1 w' ∧ w'.cell? ⟨b, o + k * 7, none⟩ = some (.int .i64 x.id) ∧ w'.cell? ⟨b, o + k * 7 + 1, none⟩ = some (.int .i64 x.obv) ∧ w'.cell? ⟨b, o + k * 7 + 2, none⟩ = some (.int .i64 x.rev) := fun w' hb' => by
        obtain ⟨c0, c1, c2, _⟩ := hc w' (hw1.trans (hb'.mono hw1.size)) k x hx
        exact ⟨hb', c0, c1, c2⟩
      have S4 := Lib.hid S4
      have Hx := Lib.hid hx; clear hx hc
      have hl1 : (k : Int) < (l.length : Int) := by omega
      have hl0 : (0 : Int) ≤ (k : Int) := by omega
      have hlen : ((l.take k).map linkOf).length ≤ 1048576 := by simp; omega
      go_wp2
      go_region_held3 (fun w' => Below w1.heap.size w1 w' ∧ w'.cell? ⟨b, o + k * 7, none⟩ = some (.int .i64 x.id) ∧ w'.cell? ⟨b, o + k * 7 + 1, none⟩ = some (.int .i64 x.obv) ∧ w'.cell? ⟨b, o + k * 7 + 2, none⟩ = some (.int .i64 x.rev)) (first | exact S4.out _ hb.drew | exact S4.out _ (by assumption) | (have hh := (‹Below w1.heap.size w1 _ ∧ _›).1; have h2 := hh.size; exact S4.out _ (by exact Below.alloc hh h2 _)))
        (first
          | (have hR := (‹Below w1.heap.size w1 _ ∧ _›).1; have hRs := hR.size; refine step_append_sl (by rfl) (.tmp 20) (.tmp 37) _ (by rfl) i0 _ 24 Tryz.underlying52 hi0 hz0 hk0 hb0 (by rfl) (by decide) oneE (by rfl) ((Own.alloc hown _).drew) _ 1 1 [linkOf x] (by rfl) (by rfl) (sl_one (by rfl) (by exact heap_alloc_new _ _)) (by simp; omega) (by simp; omega) hRs ?_; intro v1 w1 hown1 hgrow1 hat1; have hq1 := Below.grown hR hgrow1 hRs (fun g hg => (hown.lt g hg).1)))
      go_wp2
      refine ⟨?rel, ?measure⟩
      case rel => exact ⟨k + 1, by omega, by go_num, by rw [map_take_snoc _ Hx.out]; exact hown1, hq1⟩
      case measure => simp [intOf]; omega
    · have e1 : l.take k = l := List.take_of_length_le (by omega)
      rw [e1] at hown
      clear e1
      have Hr2 := Lib.hid (heap_below Hr1.out hb hWs)
      have hlen : (l.map linkOf).length ≤ 1048576 := by simp; omega
      clear hc
      obtain ⟨G, hG⟩ : ∃ G, madeG (l.map linkOf) = G := ⟨_, rfl⟩
      have hEf : ofE l = if full G then 6 else 0 := by rw [ofE, if_pos HE.out, hG]
      have hGf : full G = false → ofG l = G := fun h => by rw [ofG, hEf, h, hG]; rfl
      have hGt : full G = true → ofG l = emptyG := fun h => by rw [ofG, hEf, h]; rfl
      have HEf := Lib.hid hEf; have HGf := Lib.hid hGf; have HGt := Lib.hid hGt; clear hEf hGf hGt
      go_wp2_with fail
      refine (Made_ok _ _ _ hown.slOf hlen).mono ?_
      rintro e w2 ⟨u, rfl, hg, hb2⟩
      rw [hG] at hg
      clear hG
      obtain ⟨v1, v2, v3, rfl, ⟨hg1, hg2, hg3⟩, hf1, hf2, hf3⟩ := hg
      obtain ⟨A1, cc1, rfl, _, _, _⟩ := hg1.cells
      obtain ⟨A2, cc2, rfl, _, _, _⟩ := hg2.cells
      obtain ⟨A3, cc3, rfl, _, _, _⟩ := hg3.cells
      obtain ⟨W3, hW3, Hz3, hb23, hlt3, hc3⟩ := boxed w2 #[.slice A1 G.obv.length cc1, .slice A2 G.rev.length cc2, .slice A3 G.links.length cc3] 54
      have s0 := hc3 0 _ rfl; have s1 := hc3 1 _ rfl; have s2 := hc3 2 _ rfl
      clear hc3
      have hwr := heap_lt Hr2.out
      have Hr3 := Lib.hid (heap_below (heap_below Hr2.out hb2 hwr) hb23 (heap_lt (heap_below Hr2.out hb2 hwr)))
      obtain ⟨r0, r1, r2, q0, q1, q2⟩ := blk3 Hr3.out
      have hww : Below w.heap.size w W3 := below_trans (below_trans (hw1.trans (hb.mono hw1.size)) hb2) hb23
      by_cases n1 : 32 < G.obv.length
      · have d1 : decide ((32 : Int) < (G.obv.length : Int)) = true := by simp; omega
        have hfu : full G = true := by simp [full, n1]
        have HE' : Hid (ofE l = 6) := by show _ = _; rw [HEf.out, hfu]; rfl
        have HG' : Hid (ofG l = emptyG) := HGt.out hfu
        clear n1 hfu
        go_wp2_with fail
        refine bodyPost_ret (results_cell_tmp_row rfl _ _ w.heap.size 54 #[.slice none 0 0, .slice none 0 0, .slice none 0 0] (0, 0) _ (by simp) (heap_set3 Hr3.out) Tryz.underlying54 rfl infoG) rfl
          ⟨_, ret_pair HE'.out.symm, ?_, below_set3 hww (Nat.le_refl _) _ _ _⟩
        rw [HG'.out]
        exact ⟨_, _, _, rfl, (own_nil _ _ 0 0 _).slOf, (own_nil _ _ 0 0 _).slOf, (own_nil _ _ 0 0 _).slOf⟩
      have d1 : decide ((32 : Int) < (G.obv.length : Int)) = false := by simp; omega
      by_cases n2 : 32 < G.rev.length
      · have d2 : decide ((32 : Int) < (G.rev.length : Int)) = true := by simp; omega
        have hfu : full G = true := by simp [full, n2]
        have HE' : Hid (ofE l = 6) := by show _ = _; rw [HEf.out, hfu]; rfl
        have HG' : Hid (ofG l = emptyG) := HGt.out hfu
        clear n1 n2 hfu
        go_wp2_with fail
        refine bodyPost_ret (results_cell_tmp_row rfl _ _ w.heap.size 54 #[.slice none 0 0, .slice none 0 0, .slice none 0 0] (0, 0) _ (by simp) (heap_set3 Hr3.out) Tryz.underlying54 rfl infoG) rfl
          ⟨_, ret_pair HE'.out.symm, ?_, below_set3 hww (Nat.le_refl _) _ _ _⟩
        rw [HG'.out]
        exact ⟨_, _, _, rfl, (own_nil _ _ 0 0 _).slOf, (own_nil _ _ 0 0 _).slOf, (own_nil _ _ 0 0 _).slOf⟩
      have d2 : decide ((32 : Int) < (G.rev.length : Int)) = false := by simp; omega
      have hfu : full G = false := by simp [full]; omega
      have HE' : Hid (ofE l = 0) := by show _ = _; rw [HEf.out, hfu]; rfl
      have HG' : Hid (ofG l = G) := HGf.out hfu
      clear n1 n2 hfu
      go_wp2_with fail
      refine bodyPost_ret (results_cell_tmp_row rfl _ _ w.heap.size 54 #[.slice A1 G.obv.length cc1, .slice A2 G.rev.length cc2, .slice A3 G.links.length cc3] (0, 0) _ (by simp) (heap_set3 Hr3.out) Tryz.underlying54 rfl infoG) rfl
        ⟨_, ret_pair HE'.out.symm, ?_, below_set3 hww (Nat.le_refl _) _ _ _⟩
      rw [HG'.out]
      exact ⟨_, _, _, rfl, (hg1.below hb23).set3 (hf1.ne hwr) _ _ _, (hg2.below hb23).set3 (hf2.ne hwr) _ _ _, (hg3.below hb23).set3 (hf3.ne hwr) _ _ _⟩
end Go.Proofs.YtlmjncncmgmehaaGreat
