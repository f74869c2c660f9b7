/- linkage.numbers, has. Condition: the arguments read as lists. -/
import Derived.Test.YthnckicnnhkkaaaGreatLinkA
import Derived.Deep.OwnRows
namespace Go.Proofs.YthnckicnnhkkaaaGreat
open Go.RowKit Go.Shelf

def numbersB (xs : List Int) : Bool := ascB xs 1 999 && decide (xs.length ≤ 32)
set_option maxHeartbeats 1000000 in
theorem numbers_ok (v : Value) (xs : List Int) (w : World) (h : Ints w v xs) :
    Calls Tryz.prog 213 #[v] w fun e w' => e = .returned (.bool (numbersB xs)) ∧ w = w' := by
  obtain ⟨A, c, rfl, h1, h2, hc⟩ := h.cells
  go_enter Tryz.func213, Tryz.ntmps213
  go_wp2
  go_loop [7] (fun i => ∃ k : Nat, k ≤ xs.length ∧ i = .int .i64 k ∧ ascB (xs.take k) 1 999 = true) (fun i => xs.length - (intOf i).toNat)
  case atStart => exact ⟨0, Nat.zero_le _, rfl, by simp [ascB_nil]⟩
  case round =>
    obtain ⟨k, hk, rfl, hr⟩ := hrel
    have Hr := Lib.hid hr; clear hr
    have no : ascB xs 1 999 = false → Ending.returned (.bool false) = .returned (.bool (numbersB xs)) := fun h => ret_bool (by simp [numbersB, h])
    have No := Lib.hid no; clear no
    by_cases hlt : k < xs.length
    · obtain ⟨b, o, rfl, hbb, hc⟩ := hc k hlt
      obtain ⟨x, hx⟩ := get_of_lt hlt
      have c1 := hc w (Below.refl _ _) k x hx
      have hl1 : (k : Int) < (xs.length : Int) := by omega
      have hl0 : (0 : Int) ≤ (k : Int) := by omega
      by_cases a1 : 1 ≤ x
      · have d1 : decide (x < 1) = false := by simpa using a1
        by_cases a2 : x ≤ 999
        · have d2 : decide (999 < x) = false := by simpa using a2
          by_cases a3 : 0 < k
          · have d3 : decide ((0 : Int) < (k : Int)) = true := by simp; omega
            obtain ⟨y, hy⟩ := get_of_lt (show k - 1 < xs.length by omega)
            have c2 := hc w (Below.refl _ _) (k - 1) y hy
            have Hx := Lib.hid hx; have Hy := Lib.hid hy; clear hx hy hc
            by_cases a4 : x ≤ y
            · have d4 : decide (x ≤ y) = true := by simpa using a4
              go_wp2
              go_ret
              exact ⟨No.out (asc_stop Hx.out Hr.out (fun ⟨_, _, e⟩ => by have := e y a3 Hy.out; omega)), rfl⟩
            · have d4 : decide (x ≤ y) = false := by simpa using a4
              go_wp2
              go_round
              case rel => exact ⟨k + 1, by omega, by go_num, asc_go Hx.out Hr.out a1 a2 (fun z _ hz => by rw [Hy.out] at hz; cases hz; omega)⟩
              case measure => simp [intOf]; omega
          · have d3 : decide ((0 : Int) < (k : Int)) = false := by simp; omega
            have Hx := Lib.hid hx; clear hx hc
            go_wp2
            go_round
            case rel => exact ⟨k + 1, by omega, by go_num, asc_go Hx.out Hr.out a1 a2 (fun z hz => absurd hz a3)⟩
            case measure => simp [intOf]; omega
        · have d2 : decide (999 < x) = true := by simpa using a2
          have Hx := Lib.hid hx; clear hx hc
          go_wp2
          go_ret
          exact ⟨No.out (asc_stop Hx.out Hr.out (fun ⟨_, e, _⟩ => by omega)), rfl⟩
      · have d1 : decide (x < 1) = true := by simpa using a1
        have Hx := Lib.hid hx; clear hx hc
        go_wp2
        go_ret
        exact ⟨No.out (asc_stop Hx.out Hr.out (fun ⟨e, _⟩ => by omega)), rfl⟩
    · have e1 := Hr.out
      rw [List.take_of_length_le (by omega)] at e1
      have E1 := Lib.hid e1; clear e1 Hr
      go_wp2
      go_ret
      refine ⟨ret_bool ?_, rfl⟩
      rw [numbersB, E1.out, Bool.true_and]
      exact decide_eq_decide.2 (by omega)

set_option maxHeartbeats 1000000 in
theorem searchI_nil (A : Option Addr) (c : Nat) (x : Int) (w : World) :
    Calls Tryz.prog 248 #[.slice A 0 c, .int .i64 x] w fun e w' => e = .returned (.tuple #[.int .i64 0, .bool false]) ∧ Below w.heap.size w w' := by
  go_enter Tryz.func248, Tryz.ntmps248
  go_wp2
  refine wp_loop_rounds 1 ?_
  rw [rounds_succ]
  go_wp2
  go_ret2
  exact ⟨rfl, Below.refl _ _⟩
theorem searchI_ok (v : Value) (xs : List Int) (x : Int) (w : World) (h : Ints w v xs) (hs : xs.Pairwise (· < ·)) (hn : xs.length ≤ 1048576) :
    Calls Tryz.prog 248 #[v, .int .i64 x] w fun e w' => e = .returned (.tuple #[.int .i64 (xs.countP (· < x) : Nat), .bool (hasB xs x)]) ∧ Below w.heap.size w w' := by
  obtain ⟨A, c, rfl, h1, h2, hc⟩ := h.cells
  rcases Nat.eq_zero_or_pos xs.length with h0 | h0
  · have e0 : xs = [] := List.eq_nil_of_length_eq_zero h0
    subst e0
    exact searchI_nil A c x w
  · obtain ⟨b, o, rfl, hb, hc⟩ := hc 0 h0
    refine (show Calls Tryz.prog 248 _ w _ from AnyG.slices_BinarySearch_int Tryz.laySearch b o xs.length c xs x w (Nat.le_refl _) (by omega) (fun j hj => by
      have := hc w (Below.refl _ _) j xs[j] (List.getElem?_eq_getElem hj)
      simpa [List.getD, List.getElem?_eq_getElem hj] using this) (by rw [List.take_length]; exact hs.imp fun h => by omega)).mono ?_
    rintro e w' ⟨rfl, q, rfl⟩
    rw [List.take_length]
    exact ⟨rfl, below_drewN (Below.refl _ _) _⟩
set_option maxHeartbeats 1000000 in
theorem has_ok (v : Value) (xs : List Int) (x : Int) (w : World) (h : Ints w v xs) (hs : xs.Pairwise (· < ·)) (hn : xs.length ≤ 1048576) :
    Calls Tryz.prog 214 #[v, .int .i64 x] w fun e w' => e = .returned (.bool (hasB xs x)) ∧ Below w.heap.size w w' := by
  go_enter Tryz.func214, Tryz.ntmps214
  go_wp2_with (go_at_call 248; refine (searchI_ok v xs x w h hs hn).mono ?_; rintro e w' ⟨rfl, hb⟩)
  go_ret
  exact ⟨rfl, hb⟩

/-! ### Dies that are all used -/
theorem asc_sub : ∀ {xs ys : List Int}, xs.Pairwise (· < ·) → ys.Pairwise (· < ·) → (∀ n ∈ ys, n ∈ xs) → ys.length ≤ xs.length ∧ (ys.length = xs.length → ys = xs)
  | [], [], _, _, _ => by simp
  | [], y :: ys, _, _, h => absurd (h y (by simp)) (by simp)
  | x :: xs, [], _, _, _ => by simp
  | x :: xs, y :: ys, hx, hy, h => by
    rw [List.pairwise_cons] at hx hy
    by_cases e : y = x
    · subst e
      obtain ⟨h1, h2⟩ := asc_sub hx.2 hy.2 fun n hn => by
        have := h n (List.mem_cons_of_mem _ hn)
        rw [List.mem_cons] at this
        rcases this with rfl | this
        · have := hy.1 n hn; omega
        · exact this
      refine ⟨by simpa using h1, fun hl => ?_⟩
      rw [h2 (by simpa using hl)]
    · have hyx : y ∈ xs := by
        have := h y (by simp)
        rw [List.mem_cons] at this
        exact this.resolve_left e
      have hlt := hx.1 y hyx
      obtain ⟨h1, _⟩ := asc_sub (ys := y :: ys) hx.2 (List.pairwise_cons.2 hy) fun n hn => by
        have h3 := h n hn
        rw [List.mem_cons] at h3 hn
        rcases h3 with rfl | h3
        · rcases hn with rfl | hn
          · omega
          · have := hy.1 n hn; omega
        · exact h3
      refine ⟨by simp at h1 ⊢; omega, fun hl => ?_⟩
      simp at h1 hl
      omega
theorem used_iff {xs l : List Int} (hx : xs.Pairwise (· < ·)) (h : ∀ n ∈ l, n ∈ xs) : (withs l).length = xs.length ↔ ∀ n ∈ xs, n ∈ l := by
  constructor
  · intro hl n hn
    have := (asc_sub hx (withs_asc l) fun n hn => h n ((withs_mem l n).1 hn)).2 hl
    exact (withs_mem l n).1 (by rw [this]; exact hn)
  · intro ha
    rw [← withs_unique hx fun n => ⟨ha n, h n⟩]
theorem ascB_asc {xs : List Int} {lo hi : Int} (h : ascB xs lo hi = true) : xs.Pairwise (· < ·) := by
  simp only [ascB, decide_eq_true_eq] at h
  exact h.2
end Go.Proofs.YthnckicnnhkkaaaGreat
/- linkage.Valid. Condition: the argument reads as a graph. -/
namespace Go.Proofs.YthnckicnnhkkaaaGreat
open Go.RowKit Go.Shelf

theorem graphB_parts (g : Graph) : graphB g = true ↔ ((numbersB g.obv = true ∧ numbersB g.rev = true ∧ g.links.length ≤ 64) ∧ ascB (g.links.map Link.id) 1 9999 = true ∧ g.links.all (linkOK g) = true) ∧
    (withs (g.links.map Link.obv)).length = g.obv.length ∧ (withs (g.links.map Link.rev)).length = g.rev.length := by
  rw [graphB_iff]
  constructor
  · rintro ⟨a, b, c, d, e, f, h, i, j⟩
    have ho : ∀ n ∈ g.links.map Link.obv, n ∈ g.obv := by
      intro n hn
      obtain ⟨x, hx, rfl⟩ := List.mem_map.1 hn
      have := List.all_eq_true.1 h x hx
      simp only [Bool.and_eq_true, hasB_iff] at this
      exact this.1
    have hr : ∀ n ∈ g.links.map Link.rev, n ∈ g.rev := by
      intro n hn
      obtain ⟨x, hx, rfl⟩ := List.mem_map.1 hn
      have := List.all_eq_true.1 h x hx
      simp only [Bool.and_eq_true, hasB_iff] at this
      exact this.2
    refine ⟨⟨⟨by simp [numbersB, d, a], by simp [numbersB, e, b], c⟩, f, h⟩, (used_iff (ascB_asc d) ho).2 fun n hn => ?_, (used_iff (ascB_asc e) hr).2 fun n hn => ?_⟩
    · exact (hasB_iff _ _).1 (List.all_eq_true.1 i n hn)
    · exact (hasB_iff _ _).1 (List.all_eq_true.1 j n hn)
  · rintro ⟨⟨⟨a, b, c⟩, f, h⟩, u1, u2⟩
    simp only [numbersB, Bool.and_eq_true, decide_eq_true_eq] at a b
    have ho : ∀ n ∈ g.links.map Link.obv, n ∈ g.obv := by
      intro n hn
      obtain ⟨x, hx, rfl⟩ := List.mem_map.1 hn
      have := List.all_eq_true.1 h x hx
      simp only [linkOK, Bool.and_eq_true, hasB_iff] at this
      exact this.1
    have hr : ∀ n ∈ g.links.map Link.rev, n ∈ g.rev := by
      intro n hn
      obtain ⟨x, hx, rfl⟩ := List.mem_map.1 hn
      have := List.all_eq_true.1 h x hx
      simp only [linkOK, Bool.and_eq_true, hasB_iff] at this
      exact this.2
    refine ⟨a.2, b.2, c, a.1, b.1, f, h, ?_, ?_⟩
    · exact List.all_eq_true.2 fun n hn => (hasB_iff _ _).2 ((used_iff (ascB_asc a.1) ho).1 u1 n hn)
    · exact List.all_eq_true.2 fun n hn => (hasB_iff _ _).2 ((used_iff (ascB_asc b.1) hr).1 u2 n hn)

set_option maxHeartbeats 4000000 in
set_option maxRecDepth 100000 in
theorem Valid_ok (v : Value) (g : Graph) (w : World) (h : GraphAt w v g) :
    Calls Tryz.prog 162 #[v] w fun e w' => e = .returned (.bool (graphB g)) ∧ Below w.heap.size w w' := by
  obtain ⟨v1, v2, v3, rfl, ho, hr, hl⟩ := h
  obtain ⟨A1, c1, rfl, _, _, _⟩ := ho.cells
  obtain ⟨A2, c2, rfl, _, _, _⟩ := hr.cells
  obtain ⟨A3, c3, rfl, l1, l2, hcl⟩ := hl.cells
  obtain ⟨W, hW, Hz, hwW, hbW, hc0⟩ := boxed w #[.slice A1 g.obv.length c1, .slice A2 g.rev.length c2, .slice A3 g.links.length c3] 76
  have k0 := hc0 0 _ rfl; have k1 := hc0 1 _ rfl; have k2 := hc0 2 _ rfl
  clear hc0
  have no : ∀ {b : Bool}, (¬ graphB g = true) → graphB g = false := fun h => Bool.eq_false_iff.2 h
  have No : Hid ((¬ (((numbersB g.obv = true ∧ numbersB g.rev = true ∧ g.links.length ≤ 64) ∧ ascB (g.links.map Link.id) 1 9999 = true ∧ g.links.all (linkOK g) = true) ∧
    (withs (g.links.map Link.obv)).length = g.obv.length ∧ (withs (g.links.map Link.rev)).length = g.rev.length)) → graphB g = false) := fun h => Bool.eq_false_iff.2 fun e => h ((graphB_parts g).1 e)
  clear no
  go_enter Tryz.func162, Tryz.ntmps162
  by_cases hlen : g.links.length ≤ 64
  case neg =>
    have d3 : decide ((64 : Int) < (g.links.length : Int)) = true := by simp; omega
    go_wp2_with (first
      | (go_at_call 213; (with_reducible refine (numbers_ok _ _ _ (ho.below hwW)).mono ?_); rintro e w' ⟨rfl, rfl⟩)
      | (go_at_call 213; (with_reducible refine (numbers_ok _ _ _ (hr.below hwW)).mono ?_); rintro e w' ⟨rfl, rfl⟩))
    all_goals
      go_ret
      exact ⟨ret_bool (No.out fun H => hlen H.1.1.2.2).symm, hwW⟩
  have d3 : decide ((64 : Int) < (g.links.length : Int)) = false := by simp; omega
  cases hno : numbersB g.obv
  · go_wp2_with (go_at_call 213; refine (numbers_ok _ _ _ (ho.below hwW)).mono ?_; rintro e w' ⟨rfl, rfl⟩)
    go_ret
    exact ⟨ret_bool (No.out fun H => by rw [H.1.1.1] at hno; cases hno).symm, hwW⟩
  go_wp2_with fail
  refine (numbers_ok _ _ _ (ho.below hwW)).mono ?_
  rintro e w' ⟨rfl, rfl⟩
  cases hnr : numbersB g.rev
  · go_wp2_with (go_at_call 213; refine (numbers_ok _ _ _ (hr.below hwW)).mono ?_; rintro e w' ⟨rfl, rfl⟩)
    go_ret
    exact ⟨ret_bool (No.out fun H => by rw [H.1.1.2.1] at hnr; cases hnr).symm, hwW⟩
  go_wp2_with fail
  refine (numbers_ok _ _ _ (hr.below hwW)).mono ?_
  rintro e w' ⟨rfl, rfl⟩
  have hno' := hno; have hnr' := hnr
  simp only [numbersB, Bool.and_eq_true, decide_eq_true_eq] at hno' hnr'
  have Ao := Lib.hid (ascB_asc hno'.1); have Ar := Lib.hid (ascB_asc hnr'.1)
  have hlo : g.obv.length ≤ 1048576 := by omega
  have hlr : g.rev.length ≤ 1048576 := by omega
  clear hno' hnr'
  go_wp2_with fail
  go_loopw [25] (fun i wr => ∃ k : Nat, k ≤ g.links.length ∧ i = .int .i64 k ∧ ascB ((g.links.take k).map Link.id) 1 9999 = true ∧ (g.links.take k).all (linkOK g) = true ∧ Below W.heap.size W wr) (fun i _ => g.links.length - (intOf i).toNat)
  case atStart => exact ⟨0, Nat.zero_le _, rfl, by simp [ascB_nil], by simp, Below.refl _ _⟩
  case round =>
    obtain ⟨k, hk, rfl, ha, he, hbr⟩ := hrel
    have Ha := Lib.hid ha; have He := Lib.hid he; clear ha he
    have g0 := cell_later hbr k0
    have g1 := cell_later hbr k1
    have g2 := cell_later hbr k2
    have hwr : Below w.heap.size w wr := hwW.trans (hbr.mono hwW.size)
    have hsz : w.heap.size < wr.heap.size := by have := hbr.size; omega
    by_cases hlt : k < g.links.length
    · obtain ⟨b, o, rfl, hbb, hc⟩ := hcl k hlt
      obtain ⟨x, hx⟩ := get_of_lt hlt
      obtain ⟨e0, e1, e2⟩ := hc wr hwr k x hx
      obtain ⟨W1, hW1⟩ : ∃ W1, wr.alloc (.cells #[.int .i64 x.id, .int .i64 x.obv, .int .i64 x.rev] 135) = W1 := ⟨_, rfl⟩
      have m0 := Later.cell_all (w := W1) (a := ⟨wr.heap.size, 0, none⟩) (v := .int .i64 x.id) (by rw [← hW1]; simp)
      have m1 := Later.cell_all (w := W1) (a := ⟨wr.heap.size, 1, none⟩) (v := .int .i64 x.obv) (by rw [← hW1]; simp)
      have m2 := Later.cell_all (w := W1) (a := ⟨wr.heap.size, 2, none⟩) (v := .int .i64 x.rev) (by rw [← hW1]; simp)
      have hrW1 : Below wr.heap.size wr W1 := by rw [← hW1]; exact (Below.refl _ _).alloc (Nat.le_refl _) _
      have n0 := Later.cell_all (cell_later hrW1 g0)
      have n1 := Later.cell_all (cell_later hrW1 g1)
      have n2 := Later.cell_all (cell_later hrW1 g2)
      have HB : ∀ y : Later W1, Below w.heap.size w y.to := fun y => below_trans hwr (below_trans hrW1 y.h)
      have hl1 : (k : Int) < (g.links.length : Int) := by omega
      have hl0 : (0 : Int) ≤ (k : Int) := by omega
      by_cases b1 : 1 ≤ x.id
      case neg =>
        have d1 : decide (x.id < 1) = true := by simpa using b1
        have Hx := Lib.hid hx; clear hx hc
        go_wp2
        refine wp_region_later (by kernel_rfl) (by kernel_rfl) ?_
        repeat (go_big_quiet_step (first | (go_at_call 214; with_reducible exact calls_later (has_ok _ _ _ _ (ho.below (HB _)) Ao.out hlo)) | (go_at_call 214; with_reducible exact calls_later (has_ok _ _ _ _ (hr.below (HB _)) Ar.out hlr))))
        refine wpQuiet_nil ?_
        intro _ hw'
        obtain ⟨xq, hw''⟩ := hw'
        subst hw''
        go_wp2
        go_ret
        exact ⟨ret_bool (No.out fun H => by have := H.1.2.1; rw [asc_map_stop Hx.out Ha.out (.inl (by simp [inB]; omega))] at this; cases this).symm, HB xq⟩
      have d1 : decide (x.id < 1) = false := by simpa using b1
      by_cases b2 : x.id ≤ 9999
      case neg =>
        have d2 : decide (9999 < x.id) = true := by simpa using b2
        have Hx := Lib.hid hx; clear hx hc
        go_wp2
        refine wp_region_later (by kernel_rfl) (by kernel_rfl) ?_
        repeat (go_big_quiet_step (first | (go_at_call 214; with_reducible exact calls_later (has_ok _ _ _ _ (ho.below (HB _)) Ao.out hlo)) | (go_at_call 214; with_reducible exact calls_later (has_ok _ _ _ _ (hr.below (HB _)) Ar.out hlr))))
        refine wpQuiet_nil ?_
        intro _ hw'
        obtain ⟨xq, hw''⟩ := hw'
        subst hw''
        go_wp2
        go_ret
        exact ⟨ret_bool (No.out fun H => by have := H.1.2.1; rw [asc_map_stop Hx.out Ha.out (.inl (by simp [inB, b2]))] at this; cases this).symm, HB xq⟩
      have d2 : decide (9999 < x.id) = false := by simpa using b2
      have v1 : inB x.id 1 9999 = true := by simp [inB, b1, b2]
      have alt : (∃ y, 0 < k ∧ g.links[k - 1]? = some y ∧ x.id ≤ y.id) ∨ (∃ y, 0 < k ∧ g.links[k - 1]? = some y ∧ ¬ x.id ≤ y.id) ∨ ¬ 0 < k := by
        by_cases hk0 : 0 < k
        · obtain ⟨y, hy⟩ := get_of_lt (show k - 1 < g.links.length by omega)
          by_cases hle : x.id ≤ y.id
          · exact .inl ⟨y, hk0, hy, hle⟩
          · exact .inr (.inl ⟨y, hk0, hy, hle⟩)
        · exact .inr (.inr hk0)
      rcases alt with ⟨y, hk0, hy, hle⟩ | alt
      · have d5 : decide ((0 : Int) < (k : Int)) = true := by simp; omega
        have d6 : decide (x.id ≤ y.id) = true := by simpa using hle
        have f0 := Later.cell_all (cell_later hrW1 (hc wr hwr (k - 1) y hy).1)
        have Hx := Lib.hid hx; have Hy := Lib.hid hy; clear hx hc hy
        go_wp2
        refine wp_region_later (by kernel_rfl) (by kernel_rfl) ?_
        repeat (go_big_quiet_step (first | (go_at_call 214; with_reducible exact calls_later (has_ok _ _ _ _ (ho.below (HB _)) Ao.out hlo)) | (go_at_call 214; with_reducible exact calls_later (has_ok _ _ _ _ (hr.below (HB _)) Ar.out hlr))))
        refine wpQuiet_nil ?_
        intro _ hw'
        obtain ⟨xq, hw''⟩ := hw'
        subst hw''
        go_wp2
        go_ret
        exact ⟨ret_bool (No.out fun H => by have := H.1.2.1; rw [asc_map_stop Hx.out Ha.out (.inr ⟨y, hk0, Hy.out, hle⟩)] at this; cases this).symm, HB xq⟩
      have HA' : Hid (ascB ((g.links.take (k + 1)).map Link.id) 1 9999 = true) := by
        refine asc_map_go hx Ha.out v1 fun y h0 hy => ?_
        rcases alt with ⟨z, _, hz, hle⟩ | hk0
        · rw [hz] at hy; cases hy; omega
        · omega
      clear v1
      rcases alt with ⟨y, hk0, hy, hle⟩ | hk0
      · have d5 : decide ((0 : Int) < (k : Int)) = true := by simp; omega
        have d6 : decide (x.id ≤ y.id) = false := by simpa using hle
        have f0 := Later.cell_all (cell_later hrW1 (hc wr hwr (k - 1) y hy).1)
        have Hx := Lib.hid hx; clear hx hc hy hle
        cases v2 : hasB g.obv x.obv
        · go_wp2
          refine wp_region_later (by kernel_rfl) (by kernel_rfl) ?_
          repeat (go_big_quiet_step (first | (go_at_call 214; with_reducible exact calls_later (has_ok _ _ _ _ (ho.below (HB _)) Ao.out hlo)) | (go_at_call 214; with_reducible exact calls_later (has_ok _ _ _ _ (hr.below (HB _)) Ar.out hlr))))
          refine wpQuiet_nil ?_
          intro _ hw'
          obtain ⟨xq, hw''⟩ := hw'
          subst hw''
          go_wp2
          go_ret
          exact ⟨ret_bool (No.out fun H => by have := List.all_eq_true.1 H.1.2.2 x (List.mem_of_getElem? Hx.out); rw [linkOK, v2] at this; cases this).symm, HB xq⟩
        cases v3' : hasB g.rev x.rev
        · go_wp2
          refine wp_region_later (by kernel_rfl) (by kernel_rfl) ?_
          repeat (go_big_quiet_step (first | (go_at_call 214; with_reducible exact calls_later (has_ok _ _ _ _ (ho.below (HB _)) Ao.out hlo)) | (go_at_call 214; with_reducible exact calls_later (has_ok _ _ _ _ (hr.below (HB _)) Ar.out hlr))))
          refine wpQuiet_nil ?_
          intro _ hw'
          obtain ⟨xq, hw''⟩ := hw'
          subst hw''
          go_wp2
          go_ret
          exact ⟨ret_bool (No.out fun H => by have := List.all_eq_true.1 H.1.2.2 x (List.mem_of_getElem? Hx.out); rw [linkOK, v2, v3'] at this; cases this).symm, HB xq⟩
        go_wp2
        refine wp_region_later (by kernel_rfl) (by kernel_rfl) ?_
        repeat (go_big_quiet_step (first | (go_at_call 214; with_reducible exact calls_later (has_ok _ _ _ _ (ho.below (HB _)) Ao.out hlo)) | (go_at_call 214; with_reducible exact calls_later (has_ok _ _ _ _ (hr.below (HB _)) Ar.out hlr))))
        refine wpQuiet_nil ?_
        intro _ hw'
        obtain ⟨xq, hw''⟩ := hw'
        subst hw''
        go_wp2
        refine ⟨?rel, ?measure⟩
        case rel => exact ⟨k + 1, by omega, by go_num, HA'.out, all_snoc Hx.out He.out (by simp [linkOK, v2, v3']), (hbr.trans ((below_trans hrW1 xq.h).mono hbr.size))⟩
        case measure => simp [intOf]; omega
      · have d5 : decide ((0 : Int) < (k : Int)) = false := by simp; omega
        have Hx := Lib.hid hx; clear hx hc
        cases v2 : hasB g.obv x.obv
        · go_wp2
          refine wp_region_later (by kernel_rfl) (by kernel_rfl) ?_
          repeat (go_big_quiet_step (first | (go_at_call 214; with_reducible exact calls_later (has_ok _ _ _ _ (ho.below (HB _)) Ao.out hlo)) | (go_at_call 214; with_reducible exact calls_later (has_ok _ _ _ _ (hr.below (HB _)) Ar.out hlr))))
          refine wpQuiet_nil ?_
          intro _ hw'
          obtain ⟨xq, hw''⟩ := hw'
          subst hw''
          go_wp2
          go_ret
          exact ⟨ret_bool (No.out fun H => by have := List.all_eq_true.1 H.1.2.2 x (List.mem_of_getElem? Hx.out); rw [linkOK, v2] at this; cases this).symm, HB xq⟩
        cases v3' : hasB g.rev x.rev
        · go_wp2
          refine wp_region_later (by kernel_rfl) (by kernel_rfl) ?_
          repeat (go_big_quiet_step (first | (go_at_call 214; with_reducible exact calls_later (has_ok _ _ _ _ (ho.below (HB _)) Ao.out hlo)) | (go_at_call 214; with_reducible exact calls_later (has_ok _ _ _ _ (hr.below (HB _)) Ar.out hlr))))
          refine wpQuiet_nil ?_
          intro _ hw'
          obtain ⟨xq, hw''⟩ := hw'
          subst hw''
          go_wp2
          go_ret
          exact ⟨ret_bool (No.out fun H => by have := List.all_eq_true.1 H.1.2.2 x (List.mem_of_getElem? Hx.out); rw [linkOK, v2, v3'] at this; cases this).symm, HB xq⟩
        go_wp2
        refine wp_region_later (by kernel_rfl) (by kernel_rfl) ?_
        repeat (go_big_quiet_step (first | (go_at_call 214; with_reducible exact calls_later (has_ok _ _ _ _ (ho.below (HB _)) Ao.out hlo)) | (go_at_call 214; with_reducible exact calls_later (has_ok _ _ _ _ (hr.below (HB _)) Ar.out hlr))))
        refine wpQuiet_nil ?_
        intro _ hw'
        obtain ⟨xq, hw''⟩ := hw'
        subst hw''
        go_wp2
        refine ⟨?rel, ?measure⟩
        case rel => exact ⟨k + 1, by omega, by go_num, HA'.out, all_snoc Hx.out He.out (by simp [linkOK, v2, v3']), (hbr.trans ((below_trans hrW1 xq.h).mono hbr.size))⟩
        case measure => simp [intOf]; omega
    · have E1 : g.links.take k = g.links := List.take_of_length_le (by omega)
      have Ha' : Hid (ascB (g.links.map Link.id) 1 9999 = true) := by rw [← E1]; exact Ha.out
      have He' : Hid (g.links.all (linkOK g) = true) := by rw [← E1]; exact He.out
      clear E1 Ha He hcl
      go_wp2_with fail
      refine (with_ok _ _ _ (hl.below hwr) (by omega)).mono ?_
      rintro e w2 ⟨u1, u2, rfl, hg1, hg2, _, _, hb2⟩
      obtain ⟨B1, e1, rfl, _, _, _⟩ := hg1.cells
      obtain ⟨B2, e2, rfl, _, _, _⟩ := hg2.cells
      clear hg1 hg2
      have j0 := cell_later hb2 g0
      have j1 := cell_later hb2 g1
      clear g0 g1 g2
      obtain ⟨W3, hW3, Hz3, hb23, hlt3, hc3⟩ := boxed w2 #[.slice B1 (withs (g.links.map Link.obv)).length e1, .slice B2 (withs (g.links.map Link.rev)).length e2, .slice A3 g.links.length c3] 76
      have s0 := hc3 0 _ rfl; have s1 := hc3 1 _ rfl; have s2 := hc3 2 _ rfl
      clear hc3
      have p0 := cell_later hb23 j0
      have p1 := cell_later hb23 j1
      clear j0 j1
      have hend : Below w.heap.size w W3 := below_trans (below_trans hwr hb2) hb23
      have Yes : Hid ((withs (g.links.map Link.obv)).length = g.obv.length → (withs (g.links.map Link.rev)).length = g.rev.length → graphB g = true) := fun q1 q2 => (graphB_parts g).2 ⟨⟨⟨hno, hnr, hlen⟩, Ha'.out, He'.out⟩, q1, q2⟩
      by_cases q1 : (withs (g.links.map Link.obv)).length = g.obv.length
      case neg =>
        have z1 : (((withs (g.links.map Link.obv)).length : Int) == (g.obv.length : Int)) = false := by simp; omega
        have Q1 := Lib.hid q1; clear q1
        go_wp2_with fail
        go_ret
        exact ⟨ret_bool (No.out fun H => Q1.out H.2.1).symm, hend⟩
      have z1 : (((withs (g.links.map Link.obv)).length : Int) == (g.obv.length : Int)) = true := by simp; omega
      have Q1 := Lib.hid q1; clear q1
      by_cases q2 : (withs (g.links.map Link.rev)).length = g.rev.length
      case neg =>
        have z2 : (((withs (g.links.map Link.rev)).length : Int) == (g.rev.length : Int)) = false := by simp; omega
        have Q2 := Lib.hid q2; clear q2
        go_wp2_with fail
        go_ret
        exact ⟨ret_bool (No.out fun H => Q2.out H.2.2).symm, hend⟩
      have z2 : (((withs (g.links.map Link.rev)).length : Int) == (g.rev.length : Int)) = true := by simp; omega
      have Q2 := Lib.hid q2; clear q2
      go_wp2_with fail
      go_ret
      exact ⟨ret_bool (Yes.out Q1.out Q2.out).symm, hend⟩
end Go.Proofs.YthnckicnnhkkaaaGreat
/- linkage.end and Degree. Condition: the argument reads as a graph. -/
namespace Go.Proofs.YthnckicnnhkkaaaGreat
open Go.RowKit Go.Shelf

end Go.Proofs.YthnckicnnhkkaaaGreat
/- linkage.Matrix. Condition: the argument reads as a graph. -/
namespace Go.Proofs.YthnckicnnhkkaaaGreat
open Go.RowKit Go.Shelf

/-! ### Plain laws -/
def validE (g : Graph) : Int := if graphB g = true then 0 else 1
/-! ### A slice of slices under way -/
def encB (m : Nat) (b : Nat) : List Value := [.slice (some ⟨b, 0, none⟩) m m]
structure MatSt (B m : Nat) (w : World) (u : Value) (bs : List Nat) (R : List (List Int)) : Prop where
  own : Own (encB m) 1 68 B w u bs
  len : bs.length = R.length
  row : ∀ (i b : Nat) (r : List Int), bs[i]? = some b → R[i]? = some r → B ≤ b ∧ r.length = m ∧ w.heap[b]? = some (.cells (r.map (Value.int .i64)).toArray 3 (0, 0))
  nodup : bs.Nodup
section
variable {B m : Nat} {w w' : World} {u : Value} {bs : List Nat} {R : List (List Int)}
theorem MatSt.below (h : MatSt B m w u bs R) (hb : Below w.heap.size w w') : MatSt B m w' u bs R :=
  ⟨h.own.below hb, h.len, fun i b r h1 h2 => by
    obtain ⟨p1, p2, p3⟩ := h.row i b r h1 h2
    exact ⟨p1, p2, heap_below p3 hb (heap_lt p3)⟩, h.nodup⟩
theorem own_block {α : Type} {enc : α → List Value} {k : Nat} {e t : TypeId} {xs : List α} {b : Nat} {cs : Array Value} (h : Own enc k e B w u xs) (hb : w.heap[b]? = some (.cells cs t (0, 0))) (ht : t ≠ e) : some b ≠ u.ownBlock := by
  rcases h.2 with ⟨rfl, _⟩ | ⟨g, cap, cur, rfl, _, hg, _⟩
  · simp [Value.ownBlock]
  · intro e1
    have : b = g := by simpa [Value.ownBlock] using e1
    subst this
    rw [hb] at hg
    cases hg
    exact ht rfl
end
end Go.Proofs.YthnckicnnhkkaaaGreat
/- linkage.Matrix: the walk. Condition: the argument reads as a graph. -/
namespace Go.Proofs.YthnckicnnhkkaaaGreat
open Go.RowKit Go.Shelf

theorem ret_mat {u : Value} {a b : Int} (h : a = b) : Ending.returned (.tuple #[u, .int .i64 a]) = .returned (.tuple #[u, .int .i64 b]) := by rw [h]

end Go.Proofs.YthnckicnnhkkaaaGreat
/- linkage.Dies; the reference's Dies and Degree. Condition: the arguments read as graphs and dies. -/
namespace Go.Proofs.YthnckicnnhkkaaaGreat
open Go.RowKit Go.Shelf

def diesG (g : Graph) : List Die := if graphB g = true then g.obv.map (Die.mk 0) ++ g.rev.map (Die.mk 1) else []

set_option maxHeartbeats 4000000 in
set_option maxRecDepth 100000 in
theorem Dies_own (v : Value) (g : Graph) (w : World) (h : GraphAt w v g) :
    Calls Tryz.prog 124 #[v] w fun e w' => ∃ u, e = .returned (.tuple #[u, .int .i64 (validE g)]) ∧ OwnD w.heap.size w' u (diesG g) ∧ Below w.heap.size w w' := by
    have h0 := h
    obtain ⟨v1, v2, v3, rfl, ho, hr, hl⟩ := h
    obtain ⟨A1, c1, rfl, o1, o2, hco⟩ := ho.cells
    obtain ⟨A2, c2, rfl, r1, r2, hcr⟩ := hr.cells
    obtain ⟨A3, c3, rfl, _, _, _⟩ := hl.cells
    obtain ⟨W, hW, Hz, hwW, hlt, hc1⟩ := boxed w #[.slice A1 g.obv.length c1, .slice A2 g.rev.length c2, .slice A3 g.links.length c3] 76
    have a0 := hc1 0 _ rfl; have a1 := hc1 1 _ rfl; have a2 := hc1 2 _ rfl
    clear hc1
    go_enter Tryz.func124, Tryz.ntmps124
    go_wp2_with fail
    refine (Valid_ok _ _ _ (h0.below hwW)).mono ?_
    rintro e w1 ⟨rfl, hb1⟩
    clear hW
    have b0 := cell_later hb1 a0; have b1 := cell_later hb1 a1; have b2 := cell_later hb1 a2
    have hw1 := below_trans hwW hb1
    clear a0 a1 a2
    cases hg : graphB g
    · go_wp2_with fail
      go_ret2
      exact ⟨_, ret_mat (by simp [validE, hg]), by simp only [diesG, hg]; exact own_nil encD 2 143 _ _, hw1⟩
    have hok := (graphB_iff g).1 hg
    have hlo := hok.lo; have hlr := hok.lr
    have hvz : validE g = 0 := by simp [validE, hg]
    have hmz : diesG g = g.obv.map (Die.mk 0) ++ g.rev.map (Die.mk 1) := by simp [diesG, hg]
    have Hvz := Lib.hid hvz; have Hmz := Lib.hid hmz; clear hvz hmz hok
    obtain ⟨iD, hiD, hzD, hkD, hbD⟩ := info_parts infoD
    go_wp2_with fail
    go_loopw [4, 15] (fun u i wr => ∃ k : Nat, k ≤ g.obv.length ∧ i = .int .i64 k ∧ OwnD w1.heap.size wr u ((g.obv.take k).map (Die.mk 0)) ∧ Below w1.heap.size w1 wr) (fun _ i _ => g.obv.length - (intOf i).toNat)
    case atStart => exact ⟨0, Nat.zero_le _, rfl, own_nil _ _ _ _ _, Below.refl _ _⟩
    case round =>
      obtain ⟨k, hk, rfl, hown, hb⟩ := hrel
      have d0 := cell_later hb b0; have d1 := cell_later hb b1
      by_cases hlt' : k < g.obv.length
      · obtain ⟨b, o, rfl, _, hc⟩ := hco k hlt'
        obtain ⟨x, hx⟩ := get_of_lt hlt'
        have e0 := hc wr (hw1.trans (hb.mono hw1.size)) k x hx
        have Hx := Lib.hid hx; clear hx hc
        have hl1 : (k : Int) < (g.obv.length : Int) := by omega
        have hl0 : (0 : Int) ≤ (k : Int) := by omega
        have hlen : ((g.obv.take k).map (Die.mk 0)).length ≤ 32 := by simp; omega
        have hBs := hb.size
        go_wp2_with (at_builtin; refine wpList_append1 (enc := encD) (size := 2) (B := w1.heap.size) rfl (.tmp 19) (.tmp 22) _ rfl 143 iD _ 16 Tryz.underlying126 hiD hzD hkD hbD rfl (by decide) rfl hown (Die.mk 0 x) _ rfl lenD oneD _ rfl rfl (by omega) (by omega) hBs ?_; intro v' w2 hown' hgrow hat)
        refine ⟨?rel, ?measure⟩
        case rel => exact ⟨k + 1, by omega, by go_num, by rw [map_take_snoc _ Hx.out]; exact hown', hb.trans (below_append hown hgrow hBs)⟩
        case measure => simp [intOf]; omega
      · have e1 : g.obv.take k = g.obv := List.take_of_length_le (by omega)
        rw [e1] at hown
        clear e1
        have hb0 := hb
        go_wp2_with fail
        go_loopw [4, 28] (fun u i wr => ∃ k : Nat, k ≤ g.rev.length ∧ i = .int .i64 k ∧ OwnD w1.heap.size wr u (g.obv.map (Die.mk 0) ++ (g.rev.take k).map (Die.mk 1)) ∧ Below w1.heap.size w1 wr) (fun _ i _ => g.rev.length - (intOf i).toNat)
        case atStart => exact ⟨0, Nat.zero_le _, rfl, by simpa using hown, hb⟩
        case round =>
          clear hown hb hb0 d0 d1
          obtain ⟨j, hj, rfl, hown, hb⟩ := hrel
          have d1 := cell_later hb b1
          by_cases hlt2 : j < g.rev.length
          · obtain ⟨b, o, rfl, _, hc⟩ := hcr j hlt2
            obtain ⟨x, hx⟩ := get_of_lt hlt2
            have e0 := hc _ (hw1.trans (hb.mono hw1.size)) j x hx
            have Hx := Lib.hid hx; clear hx hc
            have hl1 : (j : Int) < (g.rev.length : Int) := by omega
            have hl0 : (0 : Int) ≤ (j : Int) := by omega
            have hlen : (g.obv.map (Die.mk 0) ++ (g.rev.take j).map (Die.mk 1)).length ≤ 64 := by simp; omega
            have hBs := hb.size
            go_wp2_with (at_builtin; refine wpList_append1 (enc := encD) (size := 2) (B := w1.heap.size) rfl (.tmp 32) (.tmp 35) _ rfl 143 iD _ 16 Tryz.underlying126 hiD hzD hkD hbD rfl (by decide) rfl hown (Die.mk 1 x) _ rfl lenD oneD _ rfl rfl (by omega) (by omega) hBs ?_; intro v' w2 hown' hgrow hat)
            refine ⟨?rel, ?measure⟩
            case rel => exact ⟨j + 1, by omega, by go_num, by rw [map_take_snoc _ Hx.out, ← List.append_assoc]; exact hown', hb.trans (below_append hown hgrow hBs)⟩
            case measure => simp [intOf]; omega
          · have e1 : g.rev.take j = g.rev := List.take_of_length_le (by omega)
            rw [e1] at hown
            clear e1
            go_wp2_with fail
            go_ret2
            exact ⟨_, ret_mat Hvz.out.symm, by rw [Hmz.out]; exact hown.base hw1.size, hw1.trans (hb.mono hw1.size)⟩
theorem Dies_ok (v : Value) (g : Graph) (w : World) (h : GraphAt w v g) :
    Calls Tryz.prog 124 #[v] w fun e w' => ∃ u, e = .returned (.tuple #[u, .int .i64 (validE g)]) ∧ Dies w' u (diesG g) ∧ Below w.heap.size w w' :=
  (Dies_own v g w h).mono fun _ _ ⟨u, h1, h2, h3⟩ => ⟨u, h1, h2.slOf, h3⟩

end Go.Proofs.YthnckicnnhkkaaaGreat
/- linkage.Partners. Condition: the argument reads as a graph. -/
namespace Go.Proofs.YthnckicnnhkkaaaGreat
open Go.RowKit Go.Shelf

end Go.Proofs.YthnckicnnhkkaaaGreat
