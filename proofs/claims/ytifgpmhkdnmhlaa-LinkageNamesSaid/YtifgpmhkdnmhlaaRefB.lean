/- The reference of layer 13: insert and Made. Condition: the arguments read as lists. -/
import Derived.Test.YtifgpmhkdnmhlaaRefA
import Derived.Deep.RegionLaw
namespace Go.Proofs.Ytifgpmhkdnmhlaa
open Go.RowKit

theorem insL_at : ∀ {xs : List Link} {k : Nat} {x : Link}, (∀ y ∈ xs.take k, y.id < x.id) → (∀ y, xs[k]? = some y → ¬ y.id < x.id) → insL xs x = xs.take k ++ [x] ++ xs.drop k
  | [], k, x, _, _ => by simp [insL]
  | y :: xs, 0, x, _, h => by
    have := h y (by simp)
    simp [insL, this]
  | y :: xs, k + 1, x, h1, h2 => by
    have hx := h1 y (by simp)
    rw [insL, if_pos hx, insL_at (k := k) (fun z hz => h1 z (by simp [hz])) (fun z hz => h2 z (by simpa using hz))]
    simp

set_option maxHeartbeats 2000000 in
theorem insert_ok (v : Value) (xs : List Link) (x : Link) (w0 : World) (h : Links w0 v xs) (hn : xs.length ≤ 1048576) :
    Calls Try.prog 70 #[v, .agg #[.int .i64 x.id, .int .i64 x.obv, .int .i64 x.rev]] w0 fun e w' => ∃ u, e = .returned u ∧ Links w' u (insL xs x) ∧ Fresh w0.heap.size u ∧ Below w0.heap.size w0 w' := by
  obtain ⟨w, hw, Hz, hww, hlt0, hc0⟩ := boxed w0 #[.int .i64 x.id, .int .i64 x.obv, .int .i64 x.rev] 67
  have k0 := hc0 0 _ rfl; have k1 := hc0 1 _ rfl; have k2 := hc0 2 _ rfl
  clear hc0
  have h0 := h.below hww
  obtain ⟨A, c, rfl, h1, h2, hc⟩ := h0.cells
  have hzw : w0.heap.size ≤ w.heap.size := by omega
  go_enter Try.func70, Try.ntmps70
  go_wp2
  go_loopw [5] (fun i wr => ∃ k : Nat, k ≤ xs.length ∧ i = .int .i64 k ∧ (∀ y ∈ xs.take k, y.id < x.id) ∧ ∃ n, wr = w.drewN n) (fun i _ => xs.length - (intOf i).toNat)
  case atStart => exact ⟨0, Nat.zero_le _, rfl, by simp, 0, rfl⟩
  case round =>
    obtain ⟨k, hk, rfl, hr, n, rfl⟩ := hrel
    have Hr := Lib.hid hr; clear hr
    by_cases hlt : k < xs.length
    · have d0 : decide ((k : Int) < (xs.length : Int)) = true := by simp; omega
      obtain ⟨b, o, rfl, hb, hc⟩ := hc k hlt
      obtain ⟨y, hy⟩ := get_of_lt hlt
      obtain ⟨c0, _⟩ := hc w (Below.refl _ _) k y hy
      have Hy := Lib.hid hy; clear hy hc
      have hl1 : (k : Int) < (xs.length : Int) := by omega
      have hl0 : (0 : Int) ≤ (k : Int) := by omega
      by_cases hyx : y.id < x.id
      · have d1 : decide (y.id < x.id) = true := by simpa using hyx
        go_wp2
        go_quiet (fail)
        go_wp2
        refine ⟨?rel, ?measure⟩
        case rel => exact ⟨k + 1, by omega, by go_num, by rw [take_snoc' Hy.out]; intro z hz; simp only [List.mem_append, List.mem_singleton] at hz; rcases hz with hz | rfl; exact Hr.out z hz; exact hyx, _, rfl⟩
        case measure => simp [intOf]; omega
      · have d1 : decide (y.id < x.id) = false := by simpa using hyx
        have W1 := Lib.hid (insL_at Hr.out (fun z hz => by rw [Hy.out] at hz; cases hz; exact hyx))
        have hl2 : (k : Int) ≤ (xs.length : Int) := by omega
        have hl3 : (xs.length : Int) ≤ (c : Int) := by omega
        have hl4 : (k : Int) ≤ (c : Int) := by omega
        have hl5 : ¬ c = k := by omega
        have hsl := SlOf.sl h0
        obtain ⟨i0, hi0, hz0, hk0, hb0⟩ := info_parts infoL
        have hsl1 : Sl w 3 (some ⟨b, o, none⟩) (xs.take k).length ((xs.take k).flatMap encL) := by rw [flat_take encL 3 lenL, List.length_take, Nat.min_eq_left hk]; exact hsl.take hk
        have hsl2 : Sl w 3 (some ⟨b, o + k * 3, none⟩) (xs.drop k).length ((xs.drop k).flatMap encL) := by rw [flat_drop encL 3 lenL, List.length_drop]; have := hsl.drop hk; simpa using this
        have oneE := oneL
        have S4 : ∀ w', Below w.heap.size w w' → Below w.heap.size w w' ∧ w'.cell? ⟨w0.heap.size, 0, none⟩ = some (.int .i64 x.id) ∧ w'.cell? ⟨w0.heap.size, 1, none⟩ = some (.int .i64 x.obv) ∧ w'.cell? ⟨w0.heap.size, 2, none⟩ = some (.int .i64 x.rev) :=
          fun w' hb => ⟨hb, cell_later hb k0, cell_later hb k1, cell_later hb k2⟩
        go_wp2
        go_quiet (fail)
        go_wp2
        obtain ⟨wz, hwz, hbz⟩ : ∃ wz, wz = (w.drewN n).drewN nq ∧ Below w.heap.size w wz := ⟨_, rfl, below_drewN (below_drewN (Below.refl _ _) _) _⟩
        rw [← hwz]
        clear hwz
        go_region_held3 (fun w' => Below w.heap.size w w' ∧ w'.cell? ⟨w0.heap.size, 0, none⟩ = some (.int .i64 x.id) ∧ w'.cell? ⟨w0.heap.size, 1, none⟩ = some (.int .i64 x.obv) ∧ w'.cell? ⟨w0.heap.size, 2, none⟩ = some (.int .i64 x.rev)) (first | exact S4 _ hbz.drew | exact S4 _ (by assumption) | (have hh := (‹Below w.heap.size w _ ∧ _ ∧ _ ∧ _›).1; have h2 := hh.size; exact S4 _ (by exact Below.alloc hh h2 _)))
          (first
            | (refine step_append_sl rfl (.tmp 22) (.tmp 25) _ rfl i0 _ 24 Try.underlying25 hi0 hz0 hk0 hb0 rfl (by decide) oneE (by rfl) (own_empty (B := w.heap.size) (by first | exact heap_alloc_new _ _ | exact heap_alloc2_old _ _ _ | exact heap_alloc2_new _ _ _) (by first | (simp; done) | (have := hbz.size; simp; omega))) _ _ k (xs.take k) (by rfl) (by simp; omega) ((hsl1).below (‹Below w.heap.size w _ ∧ _ ∧ _ ∧ _›).1) (by simp; omega) (by simp; omega) (Below.size (‹Below w.heap.size w _ ∧ _ ∧ _ ∧ _›).1) ?_; intro v1 w1 ho1 hg1 ha1; have hq1 := Below.grown (B := w.heap.size) (a := w) (‹Below w.heap.size w _ ∧ _ ∧ _ ∧ _›).1 hg1 (Below.size (‹Below w.heap.size w _ ∧ _ ∧ _ ∧ _›).1) (by intro g hg; simp [Value.ownBlock] at hg; first | omega | (have := hbz.size; omega)))
            | (refine step_append_sl rfl (.tmp 26) (.tmp 28) _ rfl i0 _ 24 Try.underlying25 hi0 hz0 hk0 hb0 rfl (by decide) oneE (by rfl) (by first | exact ho1 | exact Own.alloc ho1 _) _ 1 1 [x] (by rfl) rfl (sl_one rfl (by first | exact heap_alloc_new _ _ | (refine (hg1.block _ (by simp <;> omega) (by simp [Value.ownBlock])).trans ?_; first | exact heap_alloc2_new _ _ _ | exact heap_alloc2_old _ _ _))) (by simp; omega) (by simp; omega) (Below.size (‹Below w.heap.size w _ ∧ _ ∧ _ ∧ _›).1) ?_; intro v2 w2 ho2 hg2 ha2; have hq2 := Below.grown (B := w.heap.size) (a := w) (‹Below w.heap.size w _ ∧ _ ∧ _ ∧ _›).1 hg2 (Below.size (‹Below w.heap.size w _ ∧ _ ∧ _ ∧ _›).1) (fun g hg => (ho1.lt g hg).1))
            | (refine step_append_sl rfl (.tmp 29) (.tmp 32) _ rfl i0 _ 24 Try.underlying25 hi0 hz0 hk0 hb0 rfl (by decide) oneE (by rfl) ho2 _ _ _ (xs.drop k) (by rfl) (by simp <;> omega) ((by first | exact hsl2.below (‹Below w.heap.size w _ ∧ _ ∧ _ ∧ _›).1 | exact (hsl2 _).below (‹Below w.heap.size w _ ∧ _ ∧ _ ∧ _›).1)) (by simp; omega) (by simp; omega) (Below.size (‹Below w.heap.size w _ ∧ _ ∧ _ ∧ _›).1) ?_; intro v3 w3 ho3 hg3 ha3; have hq3 := Below.grown (B := w.heap.size) (a := w) (‹Below w.heap.size w _ ∧ _ ∧ _ ∧ _›).1 hg3 (Below.size (‹Below w.heap.size w _ ∧ _ ∧ _ ∧ _›).1) (fun g hg => (ho2.lt g hg).1)))
        all_goals
          go_wp2
          go_ret
          refine ⟨_, rfl, ?_, ho3.fresh.mono hzw, hww.trans (hq3.mono hzw)⟩
          have : Links _ _ _ := ho3.slOf
          rw [W1.out]
          simpa using this
    · have d0 : decide ((k : Int) < (xs.length : Int)) = false := by simp; omega
      have hke : k = xs.length := by omega
      have W1 := Lib.hid (insL_at Hr.out (fun z hz => by have := lt_of_get hz; omega))
      have hl0 : (0 : Int) ≤ (k : Int) := by omega
      have hl2 : (k : Int) ≤ (xs.length : Int) := by omega
      have hl3 : (xs.length : Int) ≤ (c : Int) := by omega
      have hl4 : (k : Int) ≤ (c : Int) := by omega
      have hsl := SlOf.sl h0
      have Hke := Lib.hid hke; clear hke
      obtain ⟨i0, hi0, hz0, hk0, hb0⟩ := info_parts infoL
      have oneE := oneL
      have S4 : ∀ w', Below w.heap.size w w' → Below w.heap.size w w' ∧ w'.cell? ⟨w0.heap.size, 0, none⟩ = some (.int .i64 x.id) ∧ w'.cell? ⟨w0.heap.size, 1, none⟩ = some (.int .i64 x.obv) ∧ w'.cell? ⟨w0.heap.size, 2, none⟩ = some (.int .i64 x.rev) :=
          fun w' hb => ⟨hb, cell_later hb k0, cell_later hb k1, cell_later hb k2⟩
      have hsl1 : Sl w 3 A (xs.take k).length ((xs.take k).flatMap encL) := by rw [List.take_of_length_le (by omega)]; exact hsl
      have hsl2 : ∀ A', Sl w 3 A' (xs.drop k).length ((xs.drop k).flatMap encL) := by intro A'; rw [List.drop_eq_nil_of_le (by omega)]; exact Sl.nil _ _ _
      by_cases hl5 : c = k
      · have hl6 := Lib.hid hl5
        go_wp2
        go_quiet (fail)
        go_wp2
        obtain ⟨wz, hwz, hbz⟩ : ∃ wz, wz = (w.drewN n).drewN nq ∧ Below w.heap.size w wz := ⟨_, rfl, below_drewN (below_drewN (Below.refl _ _) _) _⟩
        rw [← hwz]
        clear hwz
        go_region_held3 (fun w' => Below w.heap.size w w' ∧ w'.cell? ⟨w0.heap.size, 0, none⟩ = some (.int .i64 x.id) ∧ w'.cell? ⟨w0.heap.size, 1, none⟩ = some (.int .i64 x.obv) ∧ w'.cell? ⟨w0.heap.size, 2, none⟩ = some (.int .i64 x.rev)) (first | exact S4 _ hbz.drew | exact S4 _ (by assumption) | (have hh := (‹Below w.heap.size w _ ∧ _ ∧ _ ∧ _›).1; have h2 := hh.size; exact S4 _ (by exact Below.alloc hh h2 _)))
          (first
            | (refine step_append_sl rfl (.tmp 22) (.tmp 25) _ rfl i0 _ 24 Try.underlying25 hi0 hz0 hk0 hb0 rfl (by decide) oneE (by rfl) (own_empty (B := w.heap.size) (by first | exact heap_alloc_new _ _ | exact heap_alloc2_old _ _ _ | exact heap_alloc2_new _ _ _) (by first | (simp; done) | (have := hbz.size; simp; omega))) _ _ k (xs.take k) (by rfl) (by simp; omega) ((hsl1).below (‹Below w.heap.size w _ ∧ _ ∧ _ ∧ _›).1) (by simp; omega) (by simp; omega) (Below.size (‹Below w.heap.size w _ ∧ _ ∧ _ ∧ _›).1) ?_; intro v1 w1 ho1 hg1 ha1; have hq1 := Below.grown (B := w.heap.size) (a := w) (‹Below w.heap.size w _ ∧ _ ∧ _ ∧ _›).1 hg1 (Below.size (‹Below w.heap.size w _ ∧ _ ∧ _ ∧ _›).1) (by intro g hg; simp [Value.ownBlock] at hg; first | omega | (have := hbz.size; omega)))
            | (refine step_append_sl rfl (.tmp 26) (.tmp 28) _ rfl i0 _ 24 Try.underlying25 hi0 hz0 hk0 hb0 rfl (by decide) oneE (by rfl) (by first | exact ho1 | exact Own.alloc ho1 _) _ 1 1 [x] (by rfl) rfl (sl_one rfl (by first | exact heap_alloc_new _ _ | (refine (hg1.block _ (by simp <;> omega) (by simp [Value.ownBlock])).trans ?_; first | exact heap_alloc2_new _ _ _ | exact heap_alloc2_old _ _ _))) (by simp; omega) (by simp; omega) (Below.size (‹Below w.heap.size w _ ∧ _ ∧ _ ∧ _›).1) ?_; intro v2 w2 ho2 hg2 ha2; have hq2 := Below.grown (B := w.heap.size) (a := w) (‹Below w.heap.size w _ ∧ _ ∧ _ ∧ _›).1 hg2 (Below.size (‹Below w.heap.size w _ ∧ _ ∧ _ ∧ _›).1) (fun g hg => (ho1.lt g hg).1))
            | (refine step_append_sl rfl (.tmp 29) (.tmp 32) _ rfl i0 _ 24 Try.underlying25 hi0 hz0 hk0 hb0 rfl (by decide) oneE (by rfl) ho2 _ _ _ (xs.drop k) (by rfl) (by simp <;> omega) ((by first | exact hsl2.below (‹Below w.heap.size w _ ∧ _ ∧ _ ∧ _›).1 | exact (hsl2 _).below (‹Below w.heap.size w _ ∧ _ ∧ _ ∧ _›).1)) (by simp; omega) (by simp; omega) (Below.size (‹Below w.heap.size w _ ∧ _ ∧ _ ∧ _›).1) ?_; intro v3 w3 ho3 hg3 ha3; have hq3 := Below.grown (B := w.heap.size) (a := w) (‹Below w.heap.size w _ ∧ _ ∧ _ ∧ _›).1 hg3 (Below.size (‹Below w.heap.size w _ ∧ _ ∧ _ ∧ _›).1) (fun g hg => (ho2.lt g hg).1)))
        all_goals
          go_wp2
          go_ret
          refine ⟨_, rfl, ?_, ho3.fresh.mono hzw, hww.trans (hq3.mono hzw)⟩
          have : Links _ _ _ := ho3.slOf
          rw [W1.out]
          simpa using this
      · have hl6 : ¬ c = k := hl5
        go_wp2
        go_quiet (fail)
        go_wp2
        obtain ⟨wz, hwz, hbz⟩ : ∃ wz, wz = (w.drewN n).drewN nq ∧ Below w.heap.size w wz := ⟨_, rfl, below_drewN (below_drewN (Below.refl _ _) _) _⟩
        rw [← hwz]
        clear hwz
        go_region_held3 (fun w' => Below w.heap.size w w' ∧ w'.cell? ⟨w0.heap.size, 0, none⟩ = some (.int .i64 x.id) ∧ w'.cell? ⟨w0.heap.size, 1, none⟩ = some (.int .i64 x.obv) ∧ w'.cell? ⟨w0.heap.size, 2, none⟩ = some (.int .i64 x.rev)) (first | exact S4 _ hbz.drew | exact S4 _ (by assumption) | (have hh := (‹Below w.heap.size w _ ∧ _ ∧ _ ∧ _›).1; have h2 := hh.size; exact S4 _ (by exact Below.alloc hh h2 _)))
          (first
            | (refine step_append_sl rfl (.tmp 22) (.tmp 25) _ rfl i0 _ 24 Try.underlying25 hi0 hz0 hk0 hb0 rfl (by decide) oneE (by rfl) (own_empty (B := w.heap.size) (by first | exact heap_alloc_new _ _ | exact heap_alloc2_old _ _ _ | exact heap_alloc2_new _ _ _) (by first | (simp; done) | (have := hbz.size; simp; omega))) _ _ k (xs.take k) (by rfl) (by simp; omega) ((hsl1).below (‹Below w.heap.size w _ ∧ _ ∧ _ ∧ _›).1) (by simp; omega) (by simp; omega) (Below.size (‹Below w.heap.size w _ ∧ _ ∧ _ ∧ _›).1) ?_; intro v1 w1 ho1 hg1 ha1; have hq1 := Below.grown (B := w.heap.size) (a := w) (‹Below w.heap.size w _ ∧ _ ∧ _ ∧ _›).1 hg1 (Below.size (‹Below w.heap.size w _ ∧ _ ∧ _ ∧ _›).1) (by intro g hg; simp [Value.ownBlock] at hg; first | omega | (have := hbz.size; omega)))
            | (refine step_append_sl rfl (.tmp 26) (.tmp 28) _ rfl i0 _ 24 Try.underlying25 hi0 hz0 hk0 hb0 rfl (by decide) oneE (by rfl) (by first | exact ho1 | exact Own.alloc ho1 _) _ 1 1 [x] (by rfl) rfl (sl_one rfl (by first | exact heap_alloc_new _ _ | (refine (hg1.block _ (by simp <;> omega) (by simp [Value.ownBlock])).trans ?_; first | exact heap_alloc2_new _ _ _ | exact heap_alloc2_old _ _ _))) (by simp; omega) (by simp; omega) (Below.size (‹Below w.heap.size w _ ∧ _ ∧ _ ∧ _›).1) ?_; intro v2 w2 ho2 hg2 ha2; have hq2 := Below.grown (B := w.heap.size) (a := w) (‹Below w.heap.size w _ ∧ _ ∧ _ ∧ _›).1 hg2 (Below.size (‹Below w.heap.size w _ ∧ _ ∧ _ ∧ _›).1) (fun g hg => (ho1.lt g hg).1))
            | (refine step_append_sl rfl (.tmp 29) (.tmp 32) _ rfl i0 _ 24 Try.underlying25 hi0 hz0 hk0 hb0 rfl (by decide) oneE (by rfl) ho2 _ _ _ (xs.drop k) (by rfl) (by simp <;> omega) ((by first | exact hsl2.below (‹Below w.heap.size w _ ∧ _ ∧ _ ∧ _›).1 | exact (hsl2 _).below (‹Below w.heap.size w _ ∧ _ ∧ _ ∧ _›).1)) (by simp; omega) (by simp; omega) (Below.size (‹Below w.heap.size w _ ∧ _ ∧ _ ∧ _›).1) ?_; intro v3 w3 ho3 hg3 ha3; have hq3 := Below.grown (B := w.heap.size) (a := w) (‹Below w.heap.size w _ ∧ _ ∧ _ ∧ _›).1 hg3 (Below.size (‹Below w.heap.size w _ ∧ _ ∧ _ ∧ _›).1) (fun g hg => (ho2.lt g hg).1)))
        all_goals
          go_wp2
          go_ret
          refine ⟨_, rfl, ?_, ho3.fresh.mono hzw, hww.trans (hq3.mono hzw)⟩
          have : Links _ _ _ := ho3.slOf
          rw [W1.out]
          simpa using this
end Go.Proofs.Ytifgpmhkdnmhlaa
