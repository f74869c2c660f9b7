/- The functions of coinagebase that say whether numbers, lists, specimens and graphs are valid. Condition: the arguments read as lists. -/
import Derived.Test.YtlmjncncmgmehaaGreatCmp
namespace Go.Proofs.YtlmjncncmgmehaaGreat
open Go.RowKit

def inB (n lo hi : Int) : Bool := decide (lo ≤ n) && decide (n ≤ hi)
set_option maxHeartbeats 400000 in
theorem In_ok (n lo hi : Int) (w : World) : Calls Tryz.prog 108 #[.int .i64 n, .int .i64 lo, .int .i64 hi] w fun e w' => e = .returned (.bool (inB n lo hi)) ∧ w = w' := by
  by_cases h1 : lo ≤ n
  · have hd : decide (lo ≤ n) = true := by simpa using h1
    go_enter Tryz.func108, Tryz.ntmps108
    go_wp2
    go_ret
    exact ⟨ret_bool (by simp [inB, h1]), rfl⟩
  · have hd : decide (lo ≤ n) = false := by simpa using h1
    go_enter Tryz.func108, Tryz.ntmps108
    go_wp2
    go_ret
    exact ⟨ret_bool (by simp only [inB, hd, Bool.false_and]), rfl⟩
theorem Number_ok (n : Int) (w : World) : Calls Tryz.prog 109 #[.int .i64 n] w fun e w' => e = .returned (.bool (inB n 1 999)) ∧ w = w' := by
  go_enter Tryz.func109, Tryz.ntmps109
  go_wp2_with (go_at_call 108; refine (In_ok _ _ _ _).mono ?_; rintro e w' ⟨rfl, rfl⟩)
  go_ret
  exact ⟨rfl, rfl⟩
theorem Id_ok (n : Int) (w : World) : Calls Tryz.prog 137 #[.int .i64 n] w fun e w' => e = .returned (.bool (inB n 1 9999)) ∧ w = w' := by
  go_enter Tryz.func137, Tryz.ntmps137
  go_wp2_with (go_at_call 108; refine (In_ok _ _ _ _).mono ?_; rintro e w' ⟨rfl, rfl⟩)
  go_ret
  exact ⟨rfl, rfl⟩

def hasB (xs : List Int) (x : Int) : Bool := xs.contains x
theorem hasB_snoc {xs : List Int} {k : Nat} {y x : Int} (h : xs[k]? = some y) (h0 : hasB (xs.take k) x = false) : hasB (xs.take (k + 1)) x = (y == x) := by
  unfold hasB at *
  rw [take_snoc' h, List.contains_eq_any_beq, List.any_append, ← List.contains_eq_any_beq, h0]
  simp [Bool.beq_comm]
theorem hasB_yes {xs : List Int} {k : Nat} {y x : Int} (h : xs[k]? = some y) (h0 : (y == x) = true) : hasB xs x = true := by
  unfold hasB
  have := List.mem_of_getElem? h
  simp at h0 ⊢
  subst h0
  exact this
theorem hasB_iff (xs : List Int) (x : Int) : hasB xs x = true ↔ x ∈ xs := by simp [hasB]

set_option maxHeartbeats 400000 in
theorem Has_ok (v : Value) (xs : List Int) (x : Int) (w : World) (h : Ints w v xs) :
    Calls Tryz.prog 21 #[v, .int .i64 x] w fun e w' => e = .returned (.bool (hasB xs x)) ∧ w = w' := by
  obtain ⟨A, c, rfl, h1, h2, hc⟩ := h.cells
  go_enter Tryz.func21, Tryz.ntmps21
  go_wp2
  go_loop [5] (fun i => ∃ k : Nat, k ≤ xs.length ∧ i = .int .i64 k ∧ hasB (xs.take k) x = false) (fun i => xs.length - (intOf i).toNat)
  case atStart => exact ⟨0, Nat.zero_le _, rfl, by simp [hasB]⟩
  case round =>
    obtain ⟨k, hk, rfl, hr⟩ := hrel
    have Hr := Lib.hid hr; clear hr
    by_cases hlt : k < xs.length
    · obtain ⟨b, o, rfl, hb, hc⟩ := hc k hlt
      obtain ⟨y, hy⟩ := get_of_lt hlt
      have c1 := hc w (Below.refl _ _) k y hy
      have Hy := Lib.hid hy; clear hy hc
      go_wp2
      · go_ret
        exact ⟨ret_bool (hasB_yes Hy.out (by assumption)).symm, rfl⟩
      · go_round
        case rel => exact ⟨k + 1, by omega, by go_num, by rw [hasB_snoc Hy.out Hr.out]; assumption⟩
        case measure => simp [intOf]; omega
    · go_wp2
      go_ret
      have := Hr.out
      rw [List.take_of_length_le (by omega)] at this
      exact ⟨ret_bool this.symm, rfl⟩

/-- Strictly ascending numbers from lo to hi. -/
def ascB (xs : List Int) (lo hi : Int) : Bool := decide ((∀ x ∈ xs, lo ≤ x ∧ x ≤ hi) ∧ xs.Pairwise (· < ·))
theorem ascB_nil (lo hi : Int) : ascB [] lo hi = true := by simp [ascB]
theorem asc_snoc (xs : List Int) (lo hi x : Int) (h : ascB xs lo hi = true) : ascB (xs ++ [x]) lo hi = (decide (lo ≤ x) && decide (x ≤ hi) && (xs.getLast?.all fun y => decide (y < x))) := by
  simp only [ascB, decide_eq_true_eq] at h
  rw [Bool.eq_iff_iff]
  simp only [ascB, decide_eq_true_eq, Bool.and_eq_true, List.pairwise_append, List.mem_append, List.mem_singleton]
  constructor
  · rintro ⟨ha, hp, _, hl⟩
    refine ⟨ha x (.inr rfl), ?_⟩
    cases hx : xs.getLast? with
    | none => rfl
    | some y => simp; exact hl y (List.mem_of_getLast? hx) x rfl
  · rintro ⟨ha, hl⟩
    refine ⟨fun y hy => ?_, h.2, List.pairwise_singleton _ _, fun y hy z hz => ?_⟩
    · rcases hy with hy | rfl
      · exact h.1 y hy
      · exact ha
    · subst hz
      cases hx : xs.getLast? with
      | none => rw [List.getLast?_eq_none_iff] at hx; subst hx; cases hy
      | some u =>
        rw [hx] at hl
        simp at hl
        obtain ⟨l, rfl⟩ := List.getLast?_eq_some_iff.1 hx
        have h3 := (List.pairwise_append.1 h.2).2.2
        simp only [List.mem_append, List.mem_singleton] at hy
        rcases hy with hy | rfl
        · have := h3 y hy u (by simp); omega
        · exact hl
theorem ascB_take {xs : List Int} {lo hi : Int} (h : ascB xs lo hi = true) (k : Nat) : ascB (xs.take k) lo hi = true := by
  simp only [ascB, decide_eq_true_eq] at *
  exact ⟨fun x hx => h.1 x (List.mem_of_mem_take hx), h.2.sublist (List.take_sublist _ _)⟩
theorem last_take {α : Type} {xs : List α} {k : Nat} (hk : k < xs.length) : (xs.take (k + 1)).getLast? = xs[k]? := by
  rw [List.getLast?_take]
  simp
  rw [List.getElem?_eq_getElem hk]
  rfl
theorem asc_go {xs : List Int} {lo hi x : Int} {k : Nat} (hx : xs[k]? = some x) (h : ascB (xs.take k) lo hi = true) (h1 : lo ≤ x) (h2 : x ≤ hi) (h3 : ∀ y, 0 < k → xs[k - 1]? = some y → y < x) : ascB (xs.take (k + 1)) lo hi = true := by
  rw [take_snoc' hx, asc_snoc _ _ _ _ h]
  simp only [h1, h2, decide_true, Bool.and_self, Bool.true_and]
  cases k with
  | zero => simp
  | succ k =>
    rw [last_take (by have := lt_of_get hx; omega)]
    cases hy : xs[k]? with
    | none => rfl
    | some y => simpa using h3 y (by omega) hy
theorem asc_stop {xs : List Int} {lo hi x : Int} {k : Nat} (hx : xs[k]? = some x) (h : ascB (xs.take k) lo hi = true) (h1 : ¬ (lo ≤ x ∧ x ≤ hi ∧ ∀ y, 0 < k → xs[k - 1]? = some y → y < x)) : ascB xs lo hi = false := by
  rw [Bool.eq_false_iff]
  intro ha
  have := ascB_take ha (k + 1)
  rw [take_snoc' hx, asc_snoc _ _ _ _ h] at this
  simp only [Bool.and_eq_true, decide_eq_true_eq] at this
  refine h1 ⟨this.1.1, this.1.2, fun y hk hy => ?_⟩
  cases k with
  | zero => omega
  | succ k =>
    rw [last_take (by have := lt_of_get hx; omega)] at this
    simp only [Nat.add_sub_cancel] at hy
    rw [hy] at this
    simpa using this.2

set_option maxHeartbeats 400000 in
theorem Ascending_ok (v : Value) (xs : List Int) (lo hi : Int) (w : World) (h : Ints w v xs) :
    Calls Tryz.prog 34 #[v, .int .i64 lo, .int .i64 hi] w fun e w' => e = .returned (.bool (ascB xs lo hi)) ∧ Below w.heap.size w w' := by
  obtain ⟨A, c, rfl, h1, h2, hc⟩ := h.cells
  go_enter Tryz.func34, Tryz.ntmps34
  go_wp2
  go_loopw [7] (fun i wr => ∃ k : Nat, k ≤ xs.length ∧ i = .int .i64 k ∧ ascB (xs.take k) lo hi = true ∧ Below w.heap.size w wr) (fun i _ => xs.length - (intOf i).toNat)
  case atStart => exact ⟨0, Nat.zero_le _, rfl, by simp [ascB_nil], Below.refl _ _⟩
  case round =>
    obtain ⟨k, hk, rfl, hr, hb⟩ := hrel
    have Hr := Lib.hid hr; clear hr
    by_cases hlt : k < xs.length
    · obtain ⟨b, o, rfl, hbb, hc⟩ := hc k hlt
      obtain ⟨x, hx⟩ := get_of_lt hlt
      have c1 := hc wr hb k x hx
      have hl1 : (k : Int) < (xs.length : Int) := by omega
      have hl0 : (0 : Int) ≤ (k : Int) := by omega
      by_cases a1 : lo ≤ x
      · have d1 : decide (x < lo) = false := by simpa using a1
        by_cases a2 : x ≤ hi
        · have d2 : decide (hi < x) = false := by simpa using a2
          by_cases a3 : 0 < k
          · have d3 : decide ((0 : Int) < (k : Int)) = true := by simp; omega
            obtain ⟨y, hy⟩ := get_of_lt (show k - 1 < xs.length by omega)
            have c2 := hc wr hb (k - 1) y hy
            have Hx := Lib.hid hx; have Hy := Lib.hid hy; clear hx hy hc
            by_cases a4 : x ≤ y
            · have d4 : decide (x ≤ y) = true := by simpa using a4
              go_wp2
              go_quiet (fail)
              go_wp2
              go_ret
              exact ⟨ret_bool (asc_stop Hx.out Hr.out (fun ⟨_, _, e⟩ => by have := e y a3 Hy.out; omega)).symm, hb.trans (below_drewN (Below.refl _ _) _)⟩
            · have d4 : decide (x ≤ y) = false := by simpa using a4
              go_wp2
              go_quiet (fail)
              go_wp2
              refine ⟨?rel, ?measure⟩
              case rel => exact ⟨k + 1, by omega, by go_num, asc_go Hx.out Hr.out a1 a2 (fun z _ hz => by rw [Hy.out] at hz; cases hz; omega), hb.trans (below_drewN (Below.refl _ _) _)⟩
              case measure => simp [intOf]; omega
          · have d3 : decide ((0 : Int) < (k : Int)) = false := by simp; omega
            have Hx := Lib.hid hx; clear hx hc
            go_wp2
            go_quiet (fail)
            go_wp2
            refine ⟨?rel, ?measure⟩
            case rel => exact ⟨k + 1, by omega, by go_num, asc_go Hx.out Hr.out a1 a2 (fun z hz => absurd hz a3), hb.trans (below_drewN (Below.refl _ _) _)⟩
            case measure => simp [intOf]; omega
        · have d2 : decide (hi < x) = true := by simpa using a2
          have Hx := Lib.hid hx; clear hx hc
          go_wp2
          go_quiet (fail)
          go_wp2
          go_ret
          exact ⟨ret_bool (asc_stop Hx.out Hr.out (fun ⟨_, e, _⟩ => by omega)).symm, hb.trans (below_drewN (Below.refl _ _) _)⟩
      · have d1 : decide (x < lo) = true := by simpa using a1
        have Hx := Lib.hid hx; clear hx hc
        go_wp2
        go_quiet (fail)
        go_wp2
        go_ret
        exact ⟨ret_bool (asc_stop Hx.out Hr.out (fun ⟨e, _⟩ => by omega)).symm, hb.trans (below_drewN (Below.refl _ _) _)⟩
    · go_wp2
      go_ret
      have := Hr.out
      rw [List.take_of_length_le (by omega)] at this
      exact ⟨ret_bool this.symm, hb⟩

/-- Whether a specimen is valid. -/
def specB (s : Spec) : Bool := inB s.id 1 9999 && (inB s.obv 1 999 && inB s.rev 1 999 && inB s.os 1 9 && inB s.rs 1 9) && inB s.ax 0 11 && inB s.wt 1 200000
set_option maxHeartbeats 1000000 in
theorem Specimen_ok (s : Spec) (w : World) : Calls Tryz.prog 98 #[.agg #[.int .i64 s.id, .int .i64 s.obv, .int .i64 s.rev, .int .i64 s.os, .int .i64 s.rs, .int .i64 s.ax, .int .i64 s.wt]] w
    fun e w' => e = .returned (.bool (specB s)) ∧ Below w.heap.size w w' := by
  go_enter Tryz.func98, Tryz.ntmps98
  go_wp2_with (first
    | (go_at_call 109; refine (Number_ok _ _).mono ?_; rintro e w' ⟨rfl, rfl⟩)
    | (go_at_call 108; refine (In_ok _ _ _ _).mono ?_; rintro e w' ⟨rfl, rfl⟩)
    | (go_at_call 137; refine (Id_ok _ _).mono ?_; rintro e w' ⟨rfl, rfl⟩))
  all_goals
    go_ret
    exact ⟨ret_bool (by simp [specB, *]), (Below.refl _ _).alloc (Nat.le_refl _) _⟩
end Go.Proofs.YtlmjncncmgmehaaGreat
/- The functions of coinagebase that check a corpus list and compare graphs and lists of lists. Condition: the arguments read as lists. -/
namespace Go.Proofs.YtlmjncncmgmehaaGreat
open Go.RowKit

/-- The error of a corpus list. -/
def checkE (l : List Spec) : Int := if 64 < l.length then 6 else if l.all specB then (if (l.map Spec.id).Nodup then 0 else 8) else 1
theorem checkE_full {l : List Spec} (h : 64 < l.length) : checkE l = 6 := by simp [checkE, h]
theorem checkE_arg {l : List Spec} {k : Nat} {s : Spec} (h : ¬ 64 < l.length) (hs : l[k]? = some s) (hb : specB s = false) : checkE l = 1 := by
  have : ¬ l.all specB = true := by
    intro ha
    have := List.all_eq_true.1 ha s (List.mem_of_getElem? hs)
    rw [hb] at this
    cases this
  simp only [checkE, if_neg h, if_neg this]
theorem checkE_dup {l : List Spec} {i k : Nat} {s t : Spec} (h : ¬ 64 < l.length) (ha : l.all specB = true) (hs : l[i]? = some s) (ht : l[k]? = some t) (hk : k < i) (he : s.id = t.id) : checkE l = 8 := by
  have : ¬ (l.map Spec.id).Nodup := by
    intro hn
    have h1 := List.pairwise_iff_getElem.1 hn k i (by simpa using lt_of_get ht) (by simpa using lt_of_get hs) hk
    obtain ⟨h2, rfl⟩ := List.getElem?_eq_some_iff.1 hs
    obtain ⟨h3, rfl⟩ := List.getElem?_eq_some_iff.1 ht
    simp at h1
    exact h1 he.symm
  simp only [checkE, if_neg h, if_pos ha, if_neg this]
theorem checkE_ok {l : List Spec} (h : ¬ 64 < l.length) (ha : l.all specB = true) (hn : (l.map Spec.id).Nodup) : checkE l = 0 := by
  simp only [checkE, if_neg h, if_pos ha, if_pos hn]
theorem all_snoc {α : Type} {p : α → Bool} {l : List α} {k : Nat} {x : α} (hx : l[k]? = some x) (h : (l.take k).all p = true) (hp : p x = true) : (l.take (k + 1)).all p = true := by
  rw [take_snoc' hx, List.all_append, h]
  simpa using hp
theorem all_end {α : Type} {p : α → Bool} {l : List α} {k : Nat} (hk : ¬ k < l.length) (h : (l.take k).all p = true) : l.all p = true := by
  rwa [List.take_of_length_le (by omega)] at h
theorem nodup_snoc {l : List Spec} {k : Nat} {s : Spec} (hs : l[k]? = some s) (h : ((l.take k).map Spec.id).Nodup) (hn : ((l.take k).map Spec.id).contains s.id = false) : ((l.take (k + 1)).map Spec.id).Nodup := by
  rw [take_snoc' hs, List.map_append, List.nodup_append]
  have hn' : s.id ∉ (l.take k).map Spec.id := by
    intro hm
    rw [List.contains_iff_mem.2 hm] at hn
    cases hn
  refine ⟨h, by simp, fun a ha b hb e => ?_⟩
  simp only [List.map_cons, List.map_nil, List.mem_singleton] at hb
  subst hb
  exact hn' (e ▸ ha)
theorem nodup_end {l : List Spec} {k : Nat} (hk : ¬ k < l.length) (h : ((l.take k).map Spec.id).Nodup) : (l.map Spec.id).Nodup := by
  rwa [List.take_of_length_le (by omega)] at h
theorem contains_snoc {l : List Spec} {k : Nat} {t : Spec} {x : Int} (ht : l[k]? = some t) (h : ((l.take k).map Spec.id).contains x = false) (hn : x ≠ t.id) : ((l.take (k + 1)).map Spec.id).contains x = false := by
  rw [take_snoc' ht]
  rw [List.map_append, List.contains_eq_any_beq, List.any_append, ← List.contains_eq_any_beq, h]
  simpa using hn

theorem ret_i64 {a b : Int} (h : a = b) : Ending.returned (.int .i64 a) = .returned (.int .i64 b) := by rw [h]

set_option maxHeartbeats 1000000 in
theorem Check_ok (v : Value) (l : List Spec) (w : World) (h : Specs w v l) :
    Calls Tryz.prog 63 #[v] w fun e w' => e = .returned (.int .i64 (checkE l)) ∧ Below w.heap.size w w' := by
  obtain ⟨A, c, rfl, h1, h2, hc⟩ := h.cells
  by_cases hf : 64 < l.length
  · have hd : decide ((64 : Int) < (l.length : Int)) = true := by simp; omega
    go_enter Tryz.func63, Tryz.ntmps63
    go_wp2
    go_ret
    exact ⟨ret_i64 (checkE_full hf).symm, Below.refl _ _⟩
  · have hd : decide ((64 : Int) < (l.length : Int)) = false := by simp; omega
    go_enter Tryz.func63, Tryz.ntmps63
    go_wp2
    go_loopw [3] (fun i wr => ∃ k : Nat, k ≤ l.length ∧ i = .int .i64 k ∧ (l.take k).all specB = true ∧ Below w.heap.size w wr) (fun i _ => l.length - (intOf i).toNat)
    case atStart => exact ⟨0, Nat.zero_le _, rfl, by simp, Below.refl _ _⟩
    case round =>
      obtain ⟨k, hk, rfl, hr, hb⟩ := hrel
      have Hr := Lib.hid hr; clear hr
      by_cases hlt : k < l.length
      · obtain ⟨b, o, rfl, _, hc⟩ := hc k hlt
        obtain ⟨s, hs⟩ := get_of_lt hlt
        obtain ⟨c0, c1, c2, c3, c4, c5, c6⟩ := hc wr hb k s hs
        have Hs := Lib.hid hs; clear hs hc
        cases hv : specB s
        · go_wp2_with (go_at_call 98; refine (Specimen_ok s _).mono ?_; rintro e w1 ⟨rfl, hb1⟩)
          go_ret
          exact ⟨ret_i64 (checkE_arg hf Hs.out hv).symm, below_trans hb (hb1.mono (Nat.le_refl _))⟩
        · go_wp2_with (go_at_call 98; refine (Specimen_ok s _).mono ?_; rintro e w1 ⟨rfl, hb1⟩)
          refine ⟨?rel, ?measure⟩
          case rel => exact ⟨k + 1, by omega, by go_num, all_snoc Hs.out Hr.out hv, below_trans hb hb1⟩
          case measure => simp [intOf]; omega
      · have Ha := Lib.hid (all_end hlt Hr.out)
        clear Hr
        go_wp2
        go_loopw [4, 5] (fun i _ wr => ∃ k : Nat, k ≤ l.length ∧ i = .int .i64 k ∧ ((l.take k).map Spec.id).Nodup ∧ Below w.heap.size w wr) (fun i _ _ => l.length - (intOf i).toNat)
        case atStart => exact ⟨0, Nat.zero_le _, rfl, by simp, hb⟩
        case round =>
          clear hb hlt hk
          obtain ⟨i, hk, rfl, hr, hb⟩ := hrel
          have Hr := Lib.hid hr; clear hr
          by_cases hlt : i < l.length
          · obtain ⟨b, o, rfl, _, hc⟩ := hc i hlt
            obtain ⟨s, hs⟩ := get_of_lt hlt
            have Hs := Lib.hid hs
            obtain ⟨wo, rfl⟩ : ∃ wo : World, wo = wr := ⟨_, rfl⟩
            clear hs
            go_wp2
            go_loopw [5] (fun j wr => ∃ k : Nat, k ≤ i ∧ j = .int .i64 k ∧ ((l.take k).map Spec.id).contains s.id = false ∧ Below w.heap.size w wr) (fun j _ => i - (intOf j).toNat)
            case atStart => exact ⟨0, Nat.zero_le _, rfl, by simp, hb⟩
            case round =>
              clear hb
              obtain ⟨m, hk', rfl, hr, hb⟩ := hrel
              have Hc := Lib.hid hr; clear hr
              by_cases hki : m < i
              · obtain ⟨t, ht⟩ := get_of_lt (show m < l.length by omega)
                obtain ⟨c0, _⟩ := hc wr hb i s Hs.out
                obtain ⟨d0, _⟩ := hc wr hb m t ht
                have Ht := Lib.hid ht; clear ht hc
                have hl1 : (i : Int) < (l.length : Int) := by omega
                have hl2 : (m : Int) < (l.length : Int) := by omega
                have hl3 : (0 : Int) ≤ (i : Int) := by omega
                have hl4 : (0 : Int) ≤ (m : Int) := by omega
                by_cases he : s.id = t.id
                · have hd2 : (s.id == t.id) = true := by simp [he]
                  have He := Lib.hid he; clear he
                  go_wp2
                  go_quiet (fail)
                  go_wp2
                  go_ret
                  exact ⟨ret_i64 (checkE_dup hf Ha.out Hs.out Ht.out hki He.out).symm, hb.trans (below_drewN (Below.refl _ _) _)⟩
                · have hd2 : (s.id == t.id) = false := by simp [he]
                  go_wp2
                  go_quiet (fail)
                  go_wp2
                  refine ⟨?rel, ?measure⟩
                  case rel => exact ⟨m + 1, by omega, by go_num, contains_snoc Ht.out Hc.out he, hb.trans (below_drewN (Below.refl _ _) _)⟩
                  case measure => simp [intOf]; omega
              · have hke : m = i := by omega
                have Hc' : Hid (((l.take i).map Spec.id).contains s.id = false) := by rw [← hke]; exact Hc.out
                clear Hc hke
                go_wp2
                refine ⟨?rel, ?measure⟩
                case rel => exact ⟨i + 1, by omega, by go_num, nodup_snoc Hs.out Hr.out Hc'.out, hb⟩
                case measure => simp [intOf]; omega
          · go_wp2
            go_ret
            exact ⟨ret_i64 (checkE_ok hf Ha.out (nodup_end hlt Hr.out)).symm, hb⟩

/-! ### Graphs -/
/-- Whether a graph is valid. -/
def graphB (g : Graph) : Bool :=
  decide (g.obv.length ≤ 32) && decide (g.rev.length ≤ 32) && decide (g.links.length ≤ 64) && ascB g.obv 1 999 && ascB g.rev 1 999 && ascB (g.links.map Link.id) 1 9999 &&
    g.links.all (fun x => hasB g.obv x.obv && hasB g.rev x.rev) && g.obv.all (fun n => hasB (g.links.map Link.obv) n) && g.rev.all (fun n => hasB (g.links.map Link.rev) n)
structure GraphOK (g : Graph) : Prop where
  lo : g.obv.length ≤ 32
  lr : g.rev.length ≤ 32
  ll : g.links.length ≤ 64
  ao : ascB g.obv 1 999 = true
  ar : ascB g.rev 1 999 = true
  ids : ascB (g.links.map Link.id) 1 9999 = true
  ends : g.links.all (fun x => hasB g.obv x.obv && hasB g.rev x.rev) = true
  uo : g.obv.all (fun n => hasB (g.links.map Link.obv) n) = true
  ur : g.rev.all (fun n => hasB (g.links.map Link.rev) n) = true
theorem graphB_iff (g : Graph) : graphB g = true ↔ GraphOK g := by
  simp only [graphB, Bool.and_eq_true, decide_eq_true_eq]
  exact ⟨fun ⟨⟨⟨⟨⟨⟨⟨⟨a, b⟩, c⟩, d⟩, e⟩, f⟩, g⟩, h⟩, i⟩ => ⟨a, b, c, d, e, f, g, h, i⟩, fun ⟨a, b, c, d, e, f, g, h, i⟩ => ⟨⟨⟨⟨⟨⟨⟨⟨a, b⟩, c⟩, d⟩, e⟩, f⟩, g⟩, h⟩, i⟩⟩
theorem graphB_no {g : Graph} (h : ¬ GraphOK g) : graphB g = false := by
  rw [Bool.eq_false_iff]
  exact fun e => h ((graphB_iff g).1 e)

theorem GraphAt.below {w w' : World} {v : Value} {g : Graph} (h : GraphAt w v g) (hb : Below w.heap.size w w') : GraphAt w' v g := by
  obtain ⟨v1, v2, v3, e, a, b, c⟩ := h
  exact ⟨v1, v2, v3, e, SlOf.below a hb, SlOf.below b hb, SlOf.below c hb⟩
theorem bcell {W w1 : World} (hb : Below W.heap.size W w1) : (∀ b o, b < W.heap.size → w1.cell? ⟨b, o, none⟩ = W.cell? ⟨b, o, none⟩) ∧ (∀ b o, b < W.heap.size → w1.frozen? ⟨b, o, none⟩ = W.frozen? ⟨b, o, none⟩) :=
  ⟨fun b o h => hb.cell (p := ⟨b, o, none⟩) h, fun b o h => hb.frozen (p := ⟨b, o, none⟩) h⟩

end Go.Proofs.YtlmjncncmgmehaaGreat
/- coinagebase.Graph answers whether a graph is valid. Condition: the argument reads as a graph. -/
namespace Go.Proofs.YtlmjncncmgmehaaGreat
open Go.RowKit

def linkOK (g : Graph) (x : Link) : Bool := hasB g.obv x.obv && hasB g.rev x.rev
def GInv (g : Graph) (W : World) (v3 v4 i : Value) (wr : World) : Prop := ∃ k : Nat, k ≤ g.links.length ∧ i = .int .i64 k ∧ ascB ((g.links.take k).map Link.id) 1 9999 = true ∧ (g.links.take k).all (linkOK g) = true ∧
  OwnI W.heap.size wr v3 ((g.links.take k).map Link.obv) ∧ OwnI W.heap.size wr v4 ((g.links.take k).map Link.rev) ∧ Apart v3 v4 ∧ Below W.heap.size W wr
theorem map_take_snoc {α β : Type} (f : α → β) {l : List α} {k : Nat} {x : α} (h : l[k]? = some x) : (l.take (k + 1)).map f = (l.take k).map f ++ [f x] := by rw [take_snoc' h, List.map_append]; rfl
theorem map_get {α β : Type} (f : α → β) {l : List α} {k : Nat} {x : α} (h : l[k]? = some x) : (l.map f)[k]? = some (f x) := by simp [h]
theorem asc_map_go {l : List Link} {k : Nat} {x : Link} (hx : l[k]? = some x) (h : ascB ((l.take k).map Link.id) 1 9999 = true) (h1 : inB x.id 1 9999 = true) (h3 : ∀ y, 0 < k → l[k - 1]? = some y → y.id < x.id) : ascB ((l.take (k + 1)).map Link.id) 1 9999 = true := by
  simp only [inB, Bool.and_eq_true, decide_eq_true_eq] at h1
  rw [List.map_take] at h ⊢
  refine asc_go (map_get _ hx) h h1.1 h1.2 fun y hk hy => ?_
  simp only [List.getElem?_map, Option.map_eq_some_iff] at hy
  obtain ⟨z, hz, rfl⟩ := hy
  exact h3 z hk hz
theorem asc_map_stop {l : List Link} {k : Nat} {x : Link} (hx : l[k]? = some x) (h : ascB ((l.take k).map Link.id) 1 9999 = true) (h1 : inB x.id 1 9999 = false ∨ ∃ y, 0 < k ∧ l[k - 1]? = some y ∧ x.id ≤ y.id) : ascB (l.map Link.id) 1 9999 = false := by
  rw [List.map_take] at h
  refine asc_stop (map_get _ hx) h fun ⟨a, b, c⟩ => ?_
  rcases h1 with h1 | ⟨y, hk, hy, hle⟩
  · simp [inB, a, b] at h1
  · have := c y.id hk (map_get _ hy)
    omega

set_option maxHeartbeats 2000000 in
set_option maxRecDepth 100000 in
theorem Graph_ok (v : Value) (g : Graph) (w : World) (h : GraphAt w v g) :
    Calls Tryz.prog 110 #[v] w fun e w' => e = .returned (.bool (graphB g)) ∧ Below w.heap.size w w' := by
  obtain ⟨v1, v2, v3, rfl, ho, hr, hl⟩ := h
  obtain ⟨A1, c1, rfl, o1, o2, hco⟩ := ho.cells
  obtain ⟨A2, c2, rfl, r1, r2, hcr⟩ := hr.cells
  obtain ⟨A3, c3, rfl, l1, l2, hcl⟩ := hl.cells
  obtain ⟨W, hW⟩ : ∃ W, w.alloc (.cells #[.slice A1 g.obv.length c1, .slice A2 g.rev.length c2, .slice A3 g.links.length c3] 54) = W := ⟨_, rfl⟩
  have k0 : W.cell? ⟨w.heap.size, 0, none⟩ = some (.slice A1 g.obv.length c1) := by rw [← hW]; simp
  have k1 : W.cell? ⟨w.heap.size, 1, none⟩ = some (.slice A2 g.rev.length c2) := by rw [← hW]; simp
  have k2 : W.cell? ⟨w.heap.size, 2, none⟩ = some (.slice A3 g.links.length c3) := by rw [← hW]; simp
  have kz : W.heap.size = w.heap.size + 1 := by rw [← hW]; simp
  have hwW : Below w.heap.size w W := by rw [← hW]; exact (Below.refl _ _).alloc (Nat.le_refl _) _
  go_enter Tryz.func110, Tryz.ntmps110
  have Kz := Lib.hid kz; clear kz
  have hbW : w.heap.size < W.heap.size := by have := Kz.out; omega
  by_cases hlen : g.obv.length ≤ 32 ∧ g.rev.length ≤ 32 ∧ g.links.length ≤ 64
  case neg =>
    go_wp2_with (go_at_call 34; refine (Ascending_ok _ _ _ _ _ (SlOf.below ho hwW)).mono ?_; rintro e w1 ⟨rfl, hb1⟩)
    all_goals
      go_ret
      exact ⟨ret_bool (graphB_no fun H => hlen ⟨H.lo, H.lr, H.ll⟩).symm, hwW⟩
  obtain ⟨q1, q2, q3⟩ := hlen
  have d1 : decide ((32 : Int) < (g.obv.length : Int)) = false := by simp; omega
  have d2 : decide ((32 : Int) < (g.rev.length : Int)) = false := by simp; omega
  have d3 : decide ((64 : Int) < (g.links.length : Int)) = false := by simp; omega
  cases hgo : ascB g.obv 1 999
  · go_wp2_with (go_at_call 34; refine (Ascending_ok _ _ _ _ _ (SlOf.below ho hwW)).mono ?_; rintro e w1 ⟨rfl, hb1⟩)
    go_ret
    exact ⟨ret_bool (graphB_no fun H => by rw [H.ao] at hgo; cases hgo).symm, below_trans hwW hb1⟩
  go_wp2_with fail
  refine (Ascending_ok _ _ _ _ _ (SlOf.below ho hwW)).mono ?_
  rintro e w1 ⟨rfl, hb1⟩
  obtain ⟨hc1, hf1⟩ := bcell hb1
  have hw1 : Below w.heap.size w w1 := below_trans hwW hb1
  cases hgr : ascB g.rev 1 999
  · go_wp2_with (go_at_call 34; refine (Ascending_ok _ _ _ _ _ (SlOf.below hr hw1)).mono ?_; rintro e w2 ⟨rfl, hb2⟩)
    go_ret
    exact ⟨ret_bool (graphB_no fun H => by rw [H.ar] at hgr; cases hgr).symm, below_trans hw1 hb2⟩
  go_wp2_with fail
  refine (Ascending_ok _ _ _ _ _ (SlOf.below hr hw1)).mono ?_
  rintro e w2 ⟨rfl, hb2⟩
  have hbW2 : Below W.heap.size W w2 := below_trans hb1 hb2
  clear hb1 hb2 hc1 hf1 hw1 hbW
  obtain ⟨hc2, hf2⟩ := bcell hbW2
  have hbW : w.heap.size < W.heap.size := by have := Kz.out; omega
  go_wp2_with fail
  have hw2 : Below w.heap.size w w2 := hwW.trans (hbW2.mono (by omega))
  clear hwW
  go_loopw [3, 4, 5] (fun v3 v4 i wr => GInv g W v3 v4 i wr) (fun _ _ i _ => g.links.length - (intOf i).toNat)
  case atStart => exact ⟨0, Nat.zero_le _, rfl, by simp [ascB_nil], by simp, own_nil _ _ _ _ _, own_nil _ _ _ _ _, .inl rfl, hbW2⟩
  case round =>
    obtain ⟨k, hk, rfl, ha, he, hv3, hv4, hap, hbr⟩ := hrel
    have Ha := Lib.hid ha; have He := Lib.hid he; have Hap := Lib.hid hap; clear ha he hap hc2 hf2
    have g0 := cell_later hbr k0
    have g1 := cell_later hbr k1
    have g2 := cell_later hbr k2
    have hwr : Below w.heap.size w wr := (show Below w.heap.size w W by rw [← hW]; exact (Below.refl _ _).alloc (Nat.le_refl _) _).trans (hbr.mono (by omega))
    have hsz : w.heap.size < wr.heap.size := by have := hbr.size; omega
    by_cases hlt : k < g.links.length
    · obtain ⟨b, o, rfl, hbb, hc⟩ := hcl k hlt
      obtain ⟨x, hx⟩ := get_of_lt hlt
      obtain ⟨e0, e1, e2⟩ := hc wr hwr k x hx
      obtain ⟨W1, hW1⟩ : ∃ W1, wr.alloc (.cells #[.int .i64 x.id, .int .i64 x.obv, .int .i64 x.rev] 65) = W1 := ⟨_, rfl⟩
      have m0 := Later.cell_all (w := W1) (a := ⟨wr.heap.size, 0, none⟩) (v := .int .i64 x.id) (by rw [← hW1]; simp)
      have m1 := Later.cell_all (w := W1) (a := ⟨wr.heap.size, 1, none⟩) (v := .int .i64 x.obv) (by rw [← hW1]; simp)
      have m2 := Later.cell_all (w := W1) (a := ⟨wr.heap.size, 2, none⟩) (v := .int .i64 x.rev) (by rw [← hW1]; simp)
      have Hz1 : Hid (W1.heap.size = wr.heap.size + 1) := by rw [← hW1]; exact World.size_alloc _ _
      have hrW1 : Below wr.heap.size wr W1 := by rw [← hW1]; exact (Below.refl _ _).alloc (Nat.le_refl _) _
      have n0 := Later.cell_all (cell_later hrW1 g0)
      have n1 := Later.cell_all (cell_later hrW1 g1)
      have n2 := Later.cell_all (cell_later hrW1 g2)
      have HB : ∀ y : Later W1, Below w.heap.size w y.to := fun y => below_trans hwr (below_trans hrW1 y.h)
      have hl1 : (k : Int) < (g.links.length : Int) := by omega
      have hl0 : (0 : Int) ≤ (k : Int) := by omega
      cases v1 : inB x.id 1 9999
      · have Hx := Lib.hid hx; clear hx hc
        go_wp2
        refine wp_region_later (by kernel_rfl) (by kernel_rfl) ?_
        repeat (go_big_quiet_step (first | (go_at_call 137; exact calls_later_same (Id_ok _ _))))
        refine wpQuiet_nil ?_
        intro _ hw'
        obtain ⟨xq, hw''⟩ := hw'
        subst hw''
        go_wp2
        go_ret
        exact ⟨ret_bool (graphB_no fun H => by have := H.ids; rw [asc_map_stop Hx.out Ha.out (.inl v1)] at this; cases this).symm, HB xq⟩
      have alt : (∃ y, 0 < k ∧ g.links[k - 1]? = some y ∧ x.id ≤ y.id) ∨ (∃ y, 0 < k ∧ g.links[k - 1]? = some y ∧ ¬ x.id ≤ y.id) ∨ ¬ 0 < k := by
        by_cases hk0 : 0 < k
        · obtain ⟨y, hy⟩ := get_of_lt (show k - 1 < g.links.length by omega)
          by_cases hle : x.id ≤ y.id
          · exact .inl ⟨y, hk0, hy, hle⟩
          · exact .inr (.inl ⟨y, hk0, hy, hle⟩)
        · exact .inr (.inr hk0)
      rcases alt with ⟨y, hk0, hy, hle⟩ | alt
      · have d5 : decide ((0 : Int) < (k : Int)) = true := by simp; omega
        have d6 : decide (x.id ≤ y.id) = true := by simpa using hle
        have f0 := Later.cell_all (cell_later hrW1 (hc wr hwr (k - 1) y hy).1)
        have Hx := Lib.hid hx; have Hy := Lib.hid hy; clear hx hc hy
        go_wp2
        refine wp_region_later (by kernel_rfl) (by kernel_rfl) ?_
        repeat (go_big_quiet_step (first | (go_at_call 137; exact calls_later_same (Id_ok _ _))))
        refine wpQuiet_nil ?_
        intro _ hw'
        obtain ⟨xq, hw''⟩ := hw'
        subst hw''
        go_wp2
        go_ret
        exact ⟨ret_bool (graphB_no fun H => by have := H.ids; rw [asc_map_stop Hx.out Ha.out (.inr ⟨y, hk0, Hy.out, hle⟩)] at this; cases this).symm, HB xq⟩
      have HA' : Hid (ascB ((g.links.take (k + 1)).map Link.id) 1 9999 = true) := by
        refine asc_map_go hx Ha.out v1 fun y h0 hy => ?_
        rcases alt with ⟨z, _, hz, hle⟩ | hk0
        · rw [hz] at hy; cases hy; omega
        · omega
      rcases alt with ⟨y, hk0, hy, hle⟩ | hk0
      · have d5 : decide ((0 : Int) < (k : Int)) = true := by simp; omega
        have d6 : decide (x.id ≤ y.id) = false := by simpa using hle
        have f0 := Later.cell_all (cell_later hrW1 (hc wr hwr (k - 1) y hy).1)
        have Hx := Lib.hid hx; clear hx hc hy hle
        cases v2 : hasB g.obv x.obv
        · go_wp2
          refine wp_region_later (by kernel_rfl) (by kernel_rfl) ?_
          repeat (go_big_quiet_step (first | (go_at_call 137; exact calls_later_same (Id_ok _ _)) | (go_at_call 21; with_reducible exact calls_later_same (Has_ok _ _ _ _ (ho.below (HB _))))))
          refine wpQuiet_nil ?_
          intro _ hw'
          obtain ⟨xq, hw''⟩ := hw'
          subst hw''
          go_wp2
          go_ret
          exact ⟨ret_bool (graphB_no fun H => by have := List.all_eq_true.1 H.ends x (List.mem_of_getElem? Hx.out); rw [v2] at this; cases this).symm, HB xq⟩
        cases v3' : hasB g.rev x.rev
        · go_wp2
          refine wp_region_later (by kernel_rfl) (by kernel_rfl) ?_
          repeat (go_big_quiet_step (first | (go_at_call 137; exact calls_later_same (Id_ok _ _)) | (go_at_call 21; with_reducible exact calls_later_same (Has_ok _ _ _ _ (ho.below (HB _)))) | (go_at_call 21; with_reducible exact calls_later_same (Has_ok _ _ _ _ (hr.below (HB _))))))
          refine wpQuiet_nil ?_
          intro _ hw'
          obtain ⟨xq, hw''⟩ := hw'
          subst hw''
          go_wp2
          go_ret
          exact ⟨ret_bool (graphB_no fun H => by have := List.all_eq_true.1 H.ends x (List.mem_of_getElem? Hx.out); rw [v2, v3'] at this; cases this).symm, HB xq⟩
        go_wp2
        refine wp_region_later (by kernel_rfl) (by kernel_rfl) ?_
        repeat (go_big_quiet_step (first | (go_at_call 137; exact calls_later_same (Id_ok _ _)) | (go_at_call 21; with_reducible exact calls_later_same (Has_ok _ _ _ _ (ho.below (HB _)))) | (go_at_call 21; with_reducible exact calls_later_same (Has_ok _ _ _ _ (hr.below (HB _))))))
        refine wpQuiet_nil ?_
        intro _ hw'
        obtain ⟨xq, hw''⟩ := hw'
        subst hw''
        obtain ⟨iI, hiI, hzI, hkI, hbI⟩ := info_parts infoI
        have hlen3 : ((g.links.take k).map Link.obv).length ≤ 64 := by simp; omega
        have hlen4 : ((g.links.take k).map Link.rev).length ≤ 64 := by simp; omega
        have hxq := below_trans hrW1 xq.h
        have hq3 := hv3.below hxq
        have hq4 := hv4.below hxq
        have hxs : wr.heap.size < xq.to.heap.size := by have := xq.h.size; have := Hz1.out; omega
        have hBx : W.heap.size ≤ xq.to.heap.size := by have := hbr.size; omega
        have p2 := m2 xq
        have p1 := n1 xq
        have p0 := n0 xq
        go_wp2_with (first
          | (at_builtin
             refine wpList_append1 (enc := encI) (size := 1) (B := W.heap.size) rfl (.tmp 85) (.tmp 88) _ rfl 3 iI _ 8 Tryz.underlying26 hiI hzI hkI hbI rfl (by decide) rfl hq3 x.obv _ rfl lenI oneI _ rfl rfl (by simp; omega) (by simp; omega) (by omega) ?_
             intro v' w1 hown' hgrow hat
             have r2 := hgrow.cell (a := ⟨wr.heap.size, 2, none⟩) (m2 xq) (fun e => by have := (hv3.lt _ e.symm).2; simp at this)
             have hq4' := hq4.kept hgrow (Apart.keep Hap.out)
             have hz1 := hgrow.size
             have hB1 : W.heap.size ≤ w1.heap.size := by omega
             have hsw : wr.heap.size < w1.heap.size := by omega)
          | (at_builtin
             refine wpList_append1 (enc := encI) (size := 1) (B := W.heap.size) rfl (.tmp 90) (.tmp 93) _ rfl 3 iI _ 8 Tryz.underlying26 hiI hzI hkI hbI rfl (by decide) rfl hq4' x.rev _ rfl lenI oneI _ rfl rfl (by simp; omega) (by simp; omega) (by omega) ?_
             intro v'' w2' hown'' hgrow' hat'))
        have hA1 : Apart v' u4 := Hap.out.append hat fun g hg => by have := (hq4.lt g hg).2; omega
        refine ⟨?rel, ?measure⟩
        case rel => exact ⟨k + 1, by omega, by go_num, HA'.out, all_snoc Hx.out He.out (by simp [linkOK, v2, v3']), by rw [map_take_snoc _ Hx.out]; exact hown'.kept hgrow' hA1, by rw [map_take_snoc _ Hx.out]; exact hown'', hA1.append' hat' fun g hg => by have := (hown'.lt g hg).2; omega, ((hbr.trans (hxq.mono hbr.size)).trans (below_append hq3 hgrow hBx)).trans (below_append hq4' hgrow' hB1)⟩
        case measure => simp [intOf]; omega
      · have d5 : decide ((0 : Int) < (k : Int)) = false := by simp; omega
        have Hx := Lib.hid hx; clear hx hc
        cases v2 : hasB g.obv x.obv
        · go_wp2
          refine wp_region_later (by kernel_rfl) (by kernel_rfl) ?_
          repeat (go_big_quiet_step (first | (go_at_call 137; exact calls_later_same (Id_ok _ _)) | (go_at_call 21; with_reducible exact calls_later_same (Has_ok _ _ _ _ (ho.below (HB _))))))
          refine wpQuiet_nil ?_
          intro _ hw'
          obtain ⟨xq, hw''⟩ := hw'
          subst hw''
          go_wp2
          go_ret
          exact ⟨ret_bool (graphB_no fun H => by have := List.all_eq_true.1 H.ends x (List.mem_of_getElem? Hx.out); rw [v2] at this; cases this).symm, HB xq⟩
        cases v3' : hasB g.rev x.rev
        · go_wp2
          refine wp_region_later (by kernel_rfl) (by kernel_rfl) ?_
          repeat (go_big_quiet_step (first | (go_at_call 137; exact calls_later_same (Id_ok _ _)) | (go_at_call 21; with_reducible exact calls_later_same (Has_ok _ _ _ _ (ho.below (HB _)))) | (go_at_call 21; with_reducible exact calls_later_same (Has_ok _ _ _ _ (hr.below (HB _))))))
          refine wpQuiet_nil ?_
          intro _ hw'
          obtain ⟨xq, hw''⟩ := hw'
          subst hw''
          go_wp2
          go_ret
          exact ⟨ret_bool (graphB_no fun H => by have := List.all_eq_true.1 H.ends x (List.mem_of_getElem? Hx.out); rw [v2, v3'] at this; cases this).symm, HB xq⟩
        go_wp2
        refine wp_region_later (by kernel_rfl) (by kernel_rfl) ?_
        repeat (go_big_quiet_step (first | (go_at_call 137; exact calls_later_same (Id_ok _ _)) | (go_at_call 21; with_reducible exact calls_later_same (Has_ok _ _ _ _ (ho.below (HB _)))) | (go_at_call 21; with_reducible exact calls_later_same (Has_ok _ _ _ _ (hr.below (HB _))))))
        refine wpQuiet_nil ?_
        intro _ hw'
        obtain ⟨xq, hw''⟩ := hw'
        subst hw''
        obtain ⟨iI, hiI, hzI, hkI, hbI⟩ := info_parts infoI
        have hlen3 : ((g.links.take k).map Link.obv).length ≤ 64 := by simp; omega
        have hlen4 : ((g.links.take k).map Link.rev).length ≤ 64 := by simp; omega
        have hxq := below_trans hrW1 xq.h
        have hq3 := hv3.below hxq
        have hq4 := hv4.below hxq
        have hxs : wr.heap.size < xq.to.heap.size := by have := xq.h.size; have := Hz1.out; omega
        have hBx : W.heap.size ≤ xq.to.heap.size := by have := hbr.size; omega
        have p2 := m2 xq
        have p1 := n1 xq
        have p0 := n0 xq
        go_wp2_with (first
          | (at_builtin
             refine wpList_append1 (enc := encI) (size := 1) (B := W.heap.size) rfl (.tmp 85) (.tmp 88) _ rfl 3 iI _ 8 Tryz.underlying26 hiI hzI hkI hbI rfl (by decide) rfl hq3 x.obv _ rfl lenI oneI _ rfl rfl (by simp; omega) (by simp; omega) (by omega) ?_
             intro v' w1 hown' hgrow hat
             have r2 := hgrow.cell (a := ⟨wr.heap.size, 2, none⟩) (m2 xq) (fun e => by have := (hv3.lt _ e.symm).2; simp at this)
             have hq4' := hq4.kept hgrow (Apart.keep Hap.out)
             have hz1 := hgrow.size
             have hB1 : W.heap.size ≤ w1.heap.size := by omega
             have hsw : wr.heap.size < w1.heap.size := by omega)
          | (at_builtin
             refine wpList_append1 (enc := encI) (size := 1) (B := W.heap.size) rfl (.tmp 90) (.tmp 93) _ rfl 3 iI _ 8 Tryz.underlying26 hiI hzI hkI hbI rfl (by decide) rfl hq4' x.rev _ rfl lenI oneI _ rfl rfl (by simp; omega) (by simp; omega) (by omega) ?_
             intro v'' w2' hown'' hgrow' hat'))
        have hA1 : Apart v' u4 := Hap.out.append hat fun g hg => by have := (hq4.lt g hg).2; omega
        refine ⟨?rel, ?measure⟩
        case rel => exact ⟨k + 1, by omega, by go_num, HA'.out, all_snoc Hx.out He.out (by simp [linkOK, v2, v3']), by rw [map_take_snoc _ Hx.out]; exact hown'.kept hgrow' hA1, by rw [map_take_snoc _ Hx.out]; exact hown'', hA1.append' hat' fun g hg => by have := (hown'.lt g hg).2; omega, ((hbr.trans (hxq.mono hbr.size)).trans (below_append hq3 hgrow hBx)).trans (below_append hq4' hgrow' hB1)⟩
        case measure => simp [intOf]; omega
    · have E1 : g.links.take k = g.links := List.take_of_length_le (by omega)
      have hv3' : Ints wr u3 (g.links.map Link.obv) := by rw [← E1]; exact hv3.slOf
      have hv4' : Ints wr u4 (g.links.map Link.rev) := by rw [← E1]; exact hv4.slOf
      have Ha' : Hid (ascB (g.links.map Link.id) 1 9999 = true) := by rw [← E1]; exact Ha.out
      have He' : Hid (g.links.all (linkOK g) = true) := by rw [← E1]; exact He.out
      clear E1 hv3 hv4 Ha He hcl
      go_wp2_with fail
      go_loop [7] (fun i => ∃ m : Nat, m ≤ g.obv.length ∧ i = .int .i64 m ∧ (g.obv.take m).all (fun n => hasB (g.links.map Link.obv) n) = true) (fun i => g.obv.length - (intOf i).toNat)
      case atStart => exact ⟨0, Nat.zero_le _, rfl, by simp⟩
      case round =>
        obtain ⟨m, hm, rfl, hrm⟩ := hrel
        have Hrm := Lib.hid hrm; clear hrm
        by_cases hlm : m < g.obv.length
        · obtain ⟨b, o, rfl, _, hc⟩ := hco m hlm
          obtain ⟨x, hx⟩ := get_of_lt hlm
          have e0 := hc wr hwr m x hx
          have Hx := Lib.hid hx; clear hx hc
          cases hh : hasB (g.links.map Link.obv) x
          · go_wp2_with (go_at_call 21; refine (Has_ok _ _ _ _ hv3').mono ?_; rintro e w' ⟨rfl, rfl⟩)
            go_ret
            exact ⟨ret_bool (graphB_no fun H => by have := List.all_eq_true.1 H.uo x (List.mem_of_getElem? Hx.out); rw [hh] at this; cases this).symm, hwr⟩
          · go_wp2_with (go_at_call 21; refine (Has_ok _ _ _ _ hv3').mono ?_; rintro e w' ⟨rfl, rfl⟩)
            go_round
            case rel => exact ⟨m + 1, by omega, by go_num, all_snoc Hx.out Hrm.out hh⟩
            case measure => simp [intOf]; omega
        · have Ho' := Lib.hid (all_end hlm Hrm.out); clear Hrm
          go_wp2_with fail
          go_loop [8] (fun i => ∃ m : Nat, m ≤ g.rev.length ∧ i = .int .i64 m ∧ (g.rev.take m).all (fun n => hasB (g.links.map Link.rev) n) = true) (fun i => g.rev.length - (intOf i).toNat)
          case atStart => exact ⟨0, Nat.zero_le _, rfl, by simp⟩
          case round =>
            obtain ⟨n, hn, rfl, hrn⟩ := hrel
            have Hrn := Lib.hid hrn; clear hrn
            by_cases hln : n < g.rev.length
            · obtain ⟨b, o, rfl, _, hc⟩ := hcr n hln
              obtain ⟨x, hx⟩ := get_of_lt hln
              have e0 := hc wr hwr n x hx
              have Hx := Lib.hid hx; clear hx hc
              cases hh : hasB (g.links.map Link.rev) x
              · go_wp2_with (go_at_call 21; refine (Has_ok _ _ _ _ hv4').mono ?_; rintro e w' ⟨rfl, rfl⟩)
                go_ret
                exact ⟨ret_bool (graphB_no fun H => by have := List.all_eq_true.1 H.ur x (List.mem_of_getElem? Hx.out); rw [hh] at this; cases this).symm, hwr⟩
              · go_wp2_with (go_at_call 21; refine (Has_ok _ _ _ _ hv4').mono ?_; rintro e w' ⟨rfl, rfl⟩)
                go_round
                case rel => exact ⟨n + 1, by omega, by go_num, all_snoc Hx.out Hrn.out hh⟩
                case measure => simp [intOf]; omega
            · have Hr' := Lib.hid (all_end hln Hrn.out); clear Hrn
              go_wp2_with fail
              go_ret
              exact ⟨ret_bool ((graphB_iff g).2 ⟨q1, q2, q3, hgo, hgr, Ha'.out, He'.out, Ho'.out, Hr'.out⟩).symm, hwr⟩
end Go.Proofs.YtlmjncncmgmehaaGreat
