/- The first functions of the reference of layer 13: In, Touches, Valid, place, with, insert. Condition: the arguments read as lists and graphs. -/
import Derived.Test.YtifgpmhkdnmhlaaBase4
import Derived.Deep.RegionHeld3
import Derived.Deep.DrawnRows
namespace Go.Proofs.Ytifgpmhkdnmhlaa
open Go.RowKit

/-- Whether a die is in a graph. -/
def dieIn (g : Graph) (d : Die) : Bool := (d.side == 0 && hasB g.obv d.num) || (d.side == 1 && hasB g.rev d.num)
def touchB (l : Link) (d : Die) : Bool := (d.side == 0 && l.obv == d.num) || (d.side == 1 && l.rev == d.num)

set_option maxHeartbeats 1000000 in
theorem In_ok13 (v : Value) (g : Graph) (d : Die) (w : World) (hg : GraphAt w v g) :
    Calls Try.prog 62 #[v, .agg #[.int .i64 d.side, .int .i64 d.num]] w fun e w' => e = .returned (.bool (dieIn g d)) ∧ Below w.heap.size w w' := by
  obtain ⟨v1, v2, v3, rfl, ho, hr, hl⟩ := hg
  obtain ⟨W0, hW0, Hz0, hwW0, hlt0, hc0⟩ := boxed w #[v1, v2, v3] 27
  obtain ⟨W, hW, Hz, hWW, hlt, hc1⟩ := boxed W0 #[.int .i64 d.side, .int .i64 d.num] 39
  have hwW := below_trans hwW0 hWW
  have a0 := cell_later hWW (hc0 0 _ rfl); have a1 := cell_later hWW (hc0 1 _ rfl); have a2 := cell_later hWW (hc0 2 _ rfl)
  have b0 := hc1 0 _ rfl; have b1 := hc1 1 _ rfl
  clear hc0 hc1
  rw [Hz0.out] at b0 b1
  have hW' : (w.alloc (.cells #[v1, v2, v3] 27)).alloc (.cells #[.int .i64 d.side, .int .i64 d.num] 39) = W := by rw [hW0, hW]
  clear hW0 hW
  go_enter Try.func62, Try.ntmps62
  go_wp2_with (first
    | (go_at_call 27; (with_reducible refine (Has_ok _ _ _ _ (ho.below hwW)).mono ?_); rintro e w' ⟨rfl, rfl⟩)
    | (go_at_call 27; (with_reducible refine (Has_ok _ _ _ _ (hr.below hwW)).mono ?_); rintro e w' ⟨rfl, rfl⟩))
  all_goals
    go_ret
    exact ⟨ret_bool (by simp_all [dieIn]), hwW⟩

set_option maxHeartbeats 1000000 in
theorem Touches_ok (l : Link) (d : Die) (w : World) :
    Calls Try.prog 50 #[.agg #[.int .i64 l.id, .int .i64 l.obv, .int .i64 l.rev], .agg #[.int .i64 d.side, .int .i64 d.num]] w fun e w' => e = .returned (.bool (touchB l d)) ∧ Below w.heap.size w w' := by
  go_enter Try.func50, Try.ntmps50
  go_wp2
  all_goals
    go_ret
    exact ⟨ret_bool (by simp_all [touchB]), ((Below.refl _ _).alloc (Nat.le_refl _) _).alloc (by simp) _⟩

theorem Valid_ok13 (v : Value) (g : Graph) (w : World) (h : GraphAt w v g) :
    Calls Try.prog 22 #[v] w fun e w' => e = .returned (.bool (graphB g)) ∧ Below w.heap.size w w' := by
  have h0 := h
  obtain ⟨v1, v2, v3, rfl, ho, hr, hl⟩ := h
  obtain ⟨W, hW, Hz, hwW, hlt, hc0⟩ := boxed w #[v1, v2, v3] 27
  have a0 := hc0 0 _ rfl; have a1 := hc0 1 _ rfl; have a2 := hc0 2 _ rfl
  clear hc0
  go_enter Try.func22, Try.ntmps22
  go_wp2_with (go_at_call 48; (with_reducible refine (Graph_ok _ _ _ (h0.below hwW)).mono ?_); rintro e w' ⟨rfl, hb⟩)
  go_ret
  exact ⟨rfl, below_trans hwW hb⟩

/-- The place of a number in a list, or -1. -/
def placeN : List Int → Int → Nat → Int
  | [], _, _ => -1
  | y :: ys, x, n => if y = x then (n : Int) else placeN ys x (n + 1)
def placeI (xs : List Int) (x : Int) : Int := placeN xs x 0
theorem place_go {xs : List Int} {k : Nat} {x y : Int} (hy : xs[k]? = some y) (hr : x ∉ xs.take k) (h : (y == x) = false) : x ∉ xs.take (k + 1) := by
  rw [take_snoc' hy]
  simp only [List.mem_append, List.mem_singleton]
  rintro (h1 | rfl)
  · exact hr h1
  · simp at h
theorem placeN_hit {x : Int} : ∀ {xs : List Int} {k n : Nat}, xs[k]? = some x → x ∉ xs.take k → placeN xs x n = (n + k : Nat)
  | [], k, n, h, _ => by simp at h
  | y :: ys, 0, n, h, _ => by
    simp at h
    simp [placeN, h]
  | y :: ys, k + 1, n, h, hr => by
    simp only [List.take_succ_cons, List.mem_cons, not_or] at hr
    rw [placeN, if_neg (fun e => hr.1 e.symm), placeN_hit (by simpa using h) hr.2]
    omega
theorem place_hit {xs : List Int} {k : Nat} {x y : Int} (hy : xs[k]? = some y) (hr : x ∉ xs.take k) (h : (y == x) = true) : placeI xs x = k := by
  simp at h
  subst h
  unfold placeI
  rw [placeN_hit hy hr, Nat.zero_add]
theorem placeN_miss {x : Int} : ∀ {xs : List Int} {n : Nat}, x ∉ xs → placeN xs x n = -1
  | [], _, _ => rfl
  | y :: ys, n, h => by
    simp only [List.mem_cons, not_or] at h
    rw [placeN, if_neg (fun e => h.1 e.symm), placeN_miss h.2]
theorem place_miss {xs : List Int} {k : Nat} {x : Int} (hk : ¬ k < xs.length) (hr : x ∉ xs.take k) : placeI xs x = -1 := by
  rw [List.take_of_length_le (by omega)] at hr
  exact placeN_miss hr

set_option maxHeartbeats 1000000 in
theorem place_ok (v : Value) (xs : List Int) (x : Int) (w : World) (h : Ints w v xs) :
    Calls Try.prog 61 #[v, .int .i64 x] w fun e w' => e = .returned (.int .i64 (placeI xs x)) ∧ w = w' := by
  obtain ⟨A, c, rfl, h1, h2, hc⟩ := h.cells
  go_enter Try.func61, Try.ntmps61
  go_wp2
  go_loop [5] (fun i => ∃ k : Nat, k ≤ xs.length ∧ i = .int .i64 k ∧ x ∉ xs.take k) (fun i => xs.length - (intOf i).toNat)
  case atStart => exact ⟨0, Nat.zero_le _, rfl, by simp⟩
  case round =>
    obtain ⟨k, hk, rfl, hr⟩ := hrel
    have Hr := Lib.hid hr; clear hr
    by_cases hlt : k < xs.length
    · obtain ⟨b, o, rfl, hb, hc⟩ := hc k hlt
      obtain ⟨y, hy⟩ := get_of_lt hlt
      have c1 := hc w (Below.refl _ _) k y hy
      have Hy := Lib.hid hy; clear hy hc
      go_wp2
      · go_ret
        exact ⟨ret_i64 (place_hit Hy.out Hr.out (by assumption)).symm, rfl⟩
      · go_round
        case rel => exact ⟨k + 1, by omega, by go_num, place_go Hy.out Hr.out (by assumption)⟩
        case measure => simp [intOf]; omega
    · go_wp2
      go_ret
      exact ⟨ret_i64 (place_miss hlt Hr.out).symm, rfl⟩

/-- A number entered into ascending numbers. -/
def withI : List Int → Int → List Int
  | [], n => [n]
  | x :: xs, n => if x < n then x :: withI xs n else if x = n then x :: xs else n :: x :: xs
/-- A link entered into links by Id. -/
def insL : List Link → Link → List Link
  | [], y => [y]
  | x :: xs, y => if x.id < y.id then x :: insL xs y else y :: x :: xs
theorem withI_at : ∀ {xs : List Int} {k : Nat} {n : Int}, (∀ y ∈ xs.take k, y < n) → (∀ y, xs[k]? = some y → ¬ y < n) → withI xs n = if xs[k]? = some n then xs else xs.take k ++ [n] ++ xs.drop k
  | [], k, n, _, _ => by simp [withI]
  | x :: xs, 0, n, _, h => by
    have := h x (by simp)
    by_cases e : x = n <;> simp [withI, this, e]
  | x :: xs, k + 1, n, h1, h2 => by
    have hx := h1 x (by simp)
    rw [withI, if_pos hx, withI_at (k := k) (fun y hy => h1 y (by simp [hy])) (fun y hy => h2 y (by simpa using hy))]
    by_cases e : xs[k]? = some n <;> simp [e]

set_option maxHeartbeats 2000000 in
theorem with_ok13 (v : Value) (xs : List Int) (x : Int) (w : World) (h : Ints w v xs) (hn : xs.length ≤ 1048576) :
    Calls Try.prog 63 #[v, .int .i64 x] w fun e w' => ∃ u, e = .returned u ∧ Ints w' u (withI xs x) ∧ (u = v ∨ Fresh w.heap.size u) ∧ Below w.heap.size w w' := by
  have h0 := h
  obtain ⟨A, c, rfl, h1, h2, hc⟩ := h.cells
  go_enter Try.func63, Try.ntmps63
  go_wp2
  go_loop [5] (fun i => ∃ k : Nat, k ≤ xs.length ∧ i = .int .i64 k ∧ ∀ y ∈ xs.take k, y < x) (fun i => xs.length - (intOf i).toNat)
  case atStart => exact ⟨0, Nat.zero_le _, rfl, by simp⟩
  case round =>
    obtain ⟨k, hk, rfl, hr⟩ := hrel
    have Hr := Lib.hid hr; clear hr
    by_cases hlt : k < xs.length
    · have d0 : decide ((k : Int) < (xs.length : Int)) = true := by simp; omega
      obtain ⟨b, o, rfl, hb, hc⟩ := hc k hlt
      obtain ⟨y, hy⟩ := get_of_lt hlt
      have c1 := hc w (Below.refl _ _) k y hy
      have Hy := Lib.hid hy; clear hy hc
      by_cases hyx : y < x
      · have d1 : decide (y < x) = true := by simpa using hyx
        go_wp2
        go_round
        case rel => exact ⟨k + 1, by omega, by go_num, by rw [take_snoc' Hy.out]; intro z hz; simp at hz; rcases hz with hz | rfl; exact Hr.out z (by simpa using hz); exact hyx⟩
        case measure => simp [intOf]; omega
      · have d1 : decide (y < x) = false := by simpa using hyx
        have W1 := Lib.hid (withI_at Hr.out (fun z hz => by rw [Hy.out] at hz; cases hz; exact hyx))
        by_cases he : y = x
        · have d2 : (y == x) = true := by simp [he]
          have He := Lib.hid he; clear he
          go_wp2
          go_ret
          refine ⟨_, rfl, ?_, .inl rfl, Below.refl _ _⟩
          have := W1.out
          rw [Hy.out, He.out, if_pos rfl] at this
          rw [this]
          exact h0
        · have d2 : (y == x) = false := by simp [he]
          have hl1 : (k : Int) < (xs.length : Int) := by omega
          have hl0 : (0 : Int) ≤ (k : Int) := by omega
          have hl2 : (k : Int) ≤ (xs.length : Int) := by omega
          have hl3 : (xs.length : Int) ≤ (c : Int) := by omega
          have hl4 : (k : Int) ≤ (c : Int) := by omega
          have hl5 : ¬ c = k := by omega
          have hsl := SlOf.sl h0
          obtain ⟨i0, hi0, hz0, hk0, hb0⟩ := info_parts infoI
          have oneE := oneI
          have hsl1 : Sl w 1 (some ⟨b, o, none⟩) (xs.take k).length ((xs.take k).flatMap encI) := by rw [flat_take encI 1 lenI, List.length_take, Nat.min_eq_left hk]; exact hsl.take hk
          have hsl2 : Sl w 1 (some ⟨b, o + k, none⟩) (xs.drop k).length ((xs.drop k).flatMap encI) := by rw [flat_drop encI 1 lenI, List.length_drop]; have := hsl.drop hk; simpa using this
          go_wp2
          go_region_held3 (fun w' => Below w.heap.size w w' ∧ True) (first | exact ⟨(Below.refl _ _).drew, trivial⟩ | exact ⟨by assumption, trivial⟩ | (have hh := (‹Below w.heap.size w _ ∧ True›).1; have h2 := hh.size; exact ⟨by exact Below.alloc hh h2 _, trivial⟩))
            (first
              | (refine step_append_sl rfl (.tmp 33) (.tmp 36) _ rfl i0 _ 8 Try.underlying24 hi0 hz0 hk0 hb0 rfl (by decide) oneE (by rfl) (own_empty (B := w.heap.size) (by first | exact heap_alloc_new _ _ | exact heap_alloc2_old _ _ _ | exact heap_alloc2_new _ _ _) (by first | (simp; done) | (have := hbz.size; simp; omega))) _ _ k (xs.take k) (by rfl) (by simp; omega) ((hsl1).below (‹Below w.heap.size w _ ∧ True›).1) (by simp; omega) (by simp; omega) (Below.size (‹Below w.heap.size w _ ∧ True›).1) ?_; intro v1 w1 ho1 hg1 ha1; have hq1 := Below.grown (B := w.heap.size) (a := w) (‹Below w.heap.size w _ ∧ True›).1 hg1 (Below.size (‹Below w.heap.size w _ ∧ True›).1) (by intro g hg; simp [Value.ownBlock] at hg; first | omega | (have := hbz.size; omega)))
              | (refine step_append_sl rfl (.tmp 37) (.tmp 39) _ rfl i0 _ 8 Try.underlying24 hi0 hz0 hk0 hb0 rfl (by decide) oneE (by rfl) (by first | exact ho1 | exact Own.alloc ho1 _) _ 1 1 [x] (by rfl) rfl (sl_one rfl (by first | exact heap_alloc_new _ _ | (refine (hg1.block _ (by simp <;> omega) (by simp [Value.ownBlock])).trans ?_; first | exact heap_alloc2_new _ _ _ | exact heap_alloc2_old _ _ _))) (by simp; omega) (by simp; omega) (Below.size (‹Below w.heap.size w _ ∧ True›).1) ?_; intro v2 w2 ho2 hg2 ha2; have hq2 := Below.grown (B := w.heap.size) (a := w) (‹Below w.heap.size w _ ∧ True›).1 hg2 (Below.size (‹Below w.heap.size w _ ∧ True›).1) (fun g hg => (ho1.lt g hg).1))
              | (refine step_append_sl rfl (.tmp 40) (.tmp 43) _ rfl i0 _ 8 Try.underlying24 hi0 hz0 hk0 hb0 rfl (by decide) oneE (by rfl) ho2 _ _ _ (xs.drop k) (by rfl) (by simp <;> omega) ((by first | exact hsl2.below (‹Below w.heap.size w _ ∧ True›).1 | exact (hsl2 _).below (‹Below w.heap.size w _ ∧ True›).1)) (by simp; omega) (by simp; omega) (Below.size (‹Below w.heap.size w _ ∧ True›).1) ?_; intro v3 w3 ho3 hg3 ha3; have hq3 := Below.grown (B := w.heap.size) (a := w) (‹Below w.heap.size w _ ∧ True›).1 hg3 (Below.size (‹Below w.heap.size w _ ∧ True›).1) (fun g hg => (ho2.lt g hg).1)))
          all_goals
            go_wp2
            go_ret
            refine ⟨_, rfl, ?_, .inr ho3.fresh, hq3⟩
            have : Ints _ _ _ := ho3.slOf
            rw [W1.out, Hy.out, if_neg (by simpa using he)]
            simpa using this
    · have d0 : decide ((k : Int) < (xs.length : Int)) = false := by simp; omega
      have hke : k = xs.length := by omega
      have W1 := Lib.hid (withI_at Hr.out (fun z hz => by have := lt_of_get hz; omega))
      have hl0 : (0 : Int) ≤ (k : Int) := by omega
      have hl2 : (k : Int) ≤ (xs.length : Int) := by omega
      have hl3 : (xs.length : Int) ≤ (c : Int) := by omega
      have hl4 : (k : Int) ≤ (c : Int) := by omega
      have hsl := SlOf.sl h0
      have Hke := Lib.hid hke; clear hke
      obtain ⟨i0, hi0, hz0, hk0, hb0⟩ := info_parts infoI
      have oneE := oneI
      have hsl1 : Sl w 1 A (xs.take k).length ((xs.take k).flatMap encI) := by rw [List.take_of_length_le (by omega)]; exact hsl
      have hsl2 : ∀ A', Sl w 1 A' (xs.drop k).length ((xs.drop k).flatMap encI) := by intro A'; rw [List.drop_eq_nil_of_le (by omega)]; exact Sl.nil _ _ _
      by_cases hl5 : c = k
      · have hl6 := Lib.hid hl5
        go_wp2
        go_region_held3 (fun w' => Below w.heap.size w w' ∧ True) (first | exact ⟨(Below.refl _ _).drew, trivial⟩ | exact ⟨by assumption, trivial⟩ | (have hh := (‹Below w.heap.size w _ ∧ True›).1; have h2 := hh.size; exact ⟨by exact Below.alloc hh h2 _, trivial⟩))
          (first
            | (refine step_append_sl rfl (.tmp 33) (.tmp 36) _ rfl i0 _ 8 Try.underlying24 hi0 hz0 hk0 hb0 rfl (by decide) oneE (by rfl) (own_empty (B := w.heap.size) (by first | exact heap_alloc_new _ _ | exact heap_alloc2_old _ _ _ | exact heap_alloc2_new _ _ _) (by first | (simp; done) | (have := hbz.size; simp; omega))) _ _ k (xs.take k) (by rfl) (by simp; omega) ((hsl1).below (‹Below w.heap.size w _ ∧ True›).1) (by simp; omega) (by simp; omega) (Below.size (‹Below w.heap.size w _ ∧ True›).1) ?_; intro v1 w1 ho1 hg1 ha1; have hq1 := Below.grown (B := w.heap.size) (a := w) (‹Below w.heap.size w _ ∧ True›).1 hg1 (Below.size (‹Below w.heap.size w _ ∧ True›).1) (by intro g hg; simp [Value.ownBlock] at hg; first | omega | (have := hbz.size; omega)))
            | (refine step_append_sl rfl (.tmp 37) (.tmp 39) _ rfl i0 _ 8 Try.underlying24 hi0 hz0 hk0 hb0 rfl (by decide) oneE (by rfl) (by first | exact ho1 | exact Own.alloc ho1 _) _ 1 1 [x] (by rfl) rfl (sl_one rfl (by first | exact heap_alloc_new _ _ | (refine (hg1.block _ (by simp <;> omega) (by simp [Value.ownBlock])).trans ?_; first | exact heap_alloc2_new _ _ _ | exact heap_alloc2_old _ _ _))) (by simp; omega) (by simp; omega) (Below.size (‹Below w.heap.size w _ ∧ True›).1) ?_; intro v2 w2 ho2 hg2 ha2; have hq2 := Below.grown (B := w.heap.size) (a := w) (‹Below w.heap.size w _ ∧ True›).1 hg2 (Below.size (‹Below w.heap.size w _ ∧ True›).1) (fun g hg => (ho1.lt g hg).1))
            | (refine step_append_sl rfl (.tmp 40) (.tmp 43) _ rfl i0 _ 8 Try.underlying24 hi0 hz0 hk0 hb0 rfl (by decide) oneE (by rfl) ho2 _ _ _ (xs.drop k) (by rfl) (by simp <;> omega) ((by first | exact hsl2.below (‹Below w.heap.size w _ ∧ True›).1 | exact (hsl2 _).below (‹Below w.heap.size w _ ∧ True›).1)) (by simp; omega) (by simp; omega) (Below.size (‹Below w.heap.size w _ ∧ True›).1) ?_; intro v3 w3 ho3 hg3 ha3; have hq3 := Below.grown (B := w.heap.size) (a := w) (‹Below w.heap.size w _ ∧ True›).1 hg3 (Below.size (‹Below w.heap.size w _ ∧ True›).1) (fun g hg => (ho2.lt g hg).1)))
        all_goals
          go_wp2
          go_ret
          refine ⟨_, rfl, ?_, .inr ho3.fresh, hq3⟩
          have : Ints _ _ _ := ho3.slOf
          rw [W1.out, if_neg (fun h => by have := lt_of_get h; have := Hke.out; omega)]
          simpa using this
      · have hl6 : ¬ c = k := hl5
        go_wp2
        go_region_held3 (fun w' => Below w.heap.size w w' ∧ True) (first | exact ⟨(Below.refl _ _).drew, trivial⟩ | exact ⟨by assumption, trivial⟩ | (have hh := (‹Below w.heap.size w _ ∧ True›).1; have h2 := hh.size; exact ⟨by exact Below.alloc hh h2 _, trivial⟩))
          (first
            | (refine step_append_sl rfl (.tmp 33) (.tmp 36) _ rfl i0 _ 8 Try.underlying24 hi0 hz0 hk0 hb0 rfl (by decide) oneE (by rfl) (own_empty (B := w.heap.size) (by first | exact heap_alloc_new _ _ | exact heap_alloc2_old _ _ _ | exact heap_alloc2_new _ _ _) (by first | (simp; done) | (have := hbz.size; simp; omega))) _ _ k (xs.take k) (by rfl) (by simp; omega) ((hsl1).below (‹Below w.heap.size w _ ∧ True›).1) (by simp; omega) (by simp; omega) (Below.size (‹Below w.heap.size w _ ∧ True›).1) ?_; intro v1 w1 ho1 hg1 ha1; have hq1 := Below.grown (B := w.heap.size) (a := w) (‹Below w.heap.size w _ ∧ True›).1 hg1 (Below.size (‹Below w.heap.size w _ ∧ True›).1) (by intro g hg; simp [Value.ownBlock] at hg; first | omega | (have := hbz.size; omega)))
            | (refine step_append_sl rfl (.tmp 37) (.tmp 39) _ rfl i0 _ 8 Try.underlying24 hi0 hz0 hk0 hb0 rfl (by decide) oneE (by rfl) (by first | exact ho1 | exact Own.alloc ho1 _) _ 1 1 [x] (by rfl) rfl (sl_one rfl (by first | exact heap_alloc_new _ _ | (refine (hg1.block _ (by simp <;> omega) (by simp [Value.ownBlock])).trans ?_; first | exact heap_alloc2_new _ _ _ | exact heap_alloc2_old _ _ _))) (by simp; omega) (by simp; omega) (Below.size (‹Below w.heap.size w _ ∧ True›).1) ?_; intro v2 w2 ho2 hg2 ha2; have hq2 := Below.grown (B := w.heap.size) (a := w) (‹Below w.heap.size w _ ∧ True›).1 hg2 (Below.size (‹Below w.heap.size w _ ∧ True›).1) (fun g hg => (ho1.lt g hg).1))
            | (refine step_append_sl rfl (.tmp 40) (.tmp 43) _ rfl i0 _ 8 Try.underlying24 hi0 hz0 hk0 hb0 rfl (by decide) oneE (by rfl) ho2 _ _ _ (xs.drop k) (by rfl) (by simp <;> omega) ((by first | exact hsl2.below (‹Below w.heap.size w _ ∧ True›).1 | exact (hsl2 _).below (‹Below w.heap.size w _ ∧ True›).1)) (by simp; omega) (by simp; omega) (Below.size (‹Below w.heap.size w _ ∧ True›).1) ?_; intro v3 w3 ho3 hg3 ha3; have hq3 := Below.grown (B := w.heap.size) (a := w) (‹Below w.heap.size w _ ∧ True›).1 hg3 (Below.size (‹Below w.heap.size w _ ∧ True›).1) (fun g hg => (ho2.lt g hg).1)))
        all_goals
          go_wp2
          go_ret
          refine ⟨_, rfl, ?_, .inr ho3.fresh, hq3⟩
          have : Ints _ _ _ := ho3.slOf
          rw [W1.out, if_neg (fun h => by have := lt_of_get h; have := Hke.out; omega)]
          simpa using this
end Go.Proofs.Ytifgpmhkdnmhlaa
