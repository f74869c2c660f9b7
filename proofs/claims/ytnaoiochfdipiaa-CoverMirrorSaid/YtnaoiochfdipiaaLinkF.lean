/- linkage.Valid. Condition: the argument reads as a graph. -/
import Derived.Test.YtnaoiochfdipiaaLinkE
namespace Go.Proofs.Ytnaoiochfdipiaa
open Go.RowKit Go.Shelf

theorem graphB_parts (g : Graph) : graphB g = true ↔ ((numbersB g.obv = true ∧ numbersB g.rev = true ∧ g.links.length ≤ 64) ∧ ascB (g.links.map Link.id) 1 9999 = true ∧ g.links.all (linkOK g) = true) ∧
    (withs (g.links.map Link.obv)).length = g.obv.length ∧ (withs (g.links.map Link.rev)).length = g.rev.length := by
  rw [graphB_iff]
  constructor
  · rintro ⟨a, b, c, d, e, f, h, i, j⟩
    have ho : ∀ n ∈ g.links.map Link.obv, n ∈ g.obv := by
      intro n hn
      obtain ⟨x, hx, rfl⟩ := List.mem_map.1 hn
      have := List.all_eq_true.1 h x hx
      simp only [Bool.and_eq_true, hasB_iff] at this
      exact this.1
    have hr : ∀ n ∈ g.links.map Link.rev, n ∈ g.rev := by
      intro n hn
      obtain ⟨x, hx, rfl⟩ := List.mem_map.1 hn
      have := List.all_eq_true.1 h x hx
      simp only [Bool.and_eq_true, hasB_iff] at this
      exact this.2
    refine ⟨⟨⟨by simp [numbersB, d, a], by simp [numbersB, e, b], c⟩, f, h⟩, (used_iff (ascB_asc d) ho).2 fun n hn => ?_, (used_iff (ascB_asc e) hr).2 fun n hn => ?_⟩
    · exact (hasB_iff _ _).1 (List.all_eq_true.1 i n hn)
    · exact (hasB_iff _ _).1 (List.all_eq_true.1 j n hn)
  · rintro ⟨⟨⟨a, b, c⟩, f, h⟩, u1, u2⟩
    simp only [numbersB, Bool.and_eq_true, decide_eq_true_eq] at a b
    have ho : ∀ n ∈ g.links.map Link.obv, n ∈ g.obv := by
      intro n hn
      obtain ⟨x, hx, rfl⟩ := List.mem_map.1 hn
      have := List.all_eq_true.1 h x hx
      simp only [linkOK, Bool.and_eq_true, hasB_iff] at this
      exact this.1
    have hr : ∀ n ∈ g.links.map Link.rev, n ∈ g.rev := by
      intro n hn
      obtain ⟨x, hx, rfl⟩ := List.mem_map.1 hn
      have := List.all_eq_true.1 h x hx
      simp only [linkOK, Bool.and_eq_true, hasB_iff] at this
      exact this.2
    refine ⟨a.2, b.2, c, a.1, b.1, f, h, ?_, ?_⟩
    · exact List.all_eq_true.2 fun n hn => (hasB_iff _ _).2 ((used_iff (ascB_asc a.1) ho).1 u1 n hn)
    · exact List.all_eq_true.2 fun n hn => (hasB_iff _ _).2 ((used_iff (ascB_asc b.1) hr).1 u2 n hn)

set_option maxHeartbeats 4000000 in
set_option maxRecDepth 100000 in
theorem Valid_ok (v : Value) (g : Graph) (w : World) (h : GraphAt w v g) :
    Calls Try.prog 45 #[v] w fun e w' => e = .returned (.bool (graphB g)) ∧ Below w.heap.size w w' := by
  obtain ⟨v1, v2, v3, rfl, ho, hr, hl⟩ := h
  obtain ⟨A1, c1, rfl, _, _, _⟩ := ho.cells
  obtain ⟨A2, c2, rfl, _, _, _⟩ := hr.cells
  obtain ⟨A3, c3, rfl, l1, l2, hcl⟩ := hl.cells
  obtain ⟨W, hW, Hz, hwW, hbW, hc0⟩ := boxed w #[.slice A1 g.obv.length c1, .slice A2 g.rev.length c2, .slice A3 g.links.length c3] 25
  have k0 := hc0 0 _ rfl; have k1 := hc0 1 _ rfl; have k2 := hc0 2 _ rfl
  clear hc0
  have no : ∀ {b : Bool}, (¬ graphB g = true) → graphB g = false := fun h => Bool.eq_false_iff.2 h
  have No : Hid ((¬ (((numbersB g.obv = true ∧ numbersB g.rev = true ∧ g.links.length ≤ 64) ∧ ascB (g.links.map Link.id) 1 9999 = true ∧ g.links.all (linkOK g) = true) ∧
    (withs (g.links.map Link.obv)).length = g.obv.length ∧ (withs (g.links.map Link.rev)).length = g.rev.length)) → graphB g = false) := fun h => Bool.eq_false_iff.2 fun e => h ((graphB_parts g).1 e)
  clear no
  go_enter Try.func45, Try.ntmps45
  by_cases hlen : g.links.length ≤ 64
  case neg =>
    have d3 : decide ((64 : Int) < (g.links.length : Int)) = true := by simp; omega
    go_wp2_with (first
      | (go_at_call 58; (with_reducible refine (numbers_ok _ _ _ (ho.below hwW)).mono ?_); rintro e w' ⟨rfl, rfl⟩)
      | (go_at_call 58; (with_reducible refine (numbers_ok _ _ _ (hr.below hwW)).mono ?_); rintro e w' ⟨rfl, rfl⟩))
    all_goals
      go_ret
      exact ⟨ret_bool (No.out fun H => hlen H.1.1.2.2).symm, hwW⟩
  have d3 : decide ((64 : Int) < (g.links.length : Int)) = false := by simp; omega
  cases hno : numbersB g.obv
  · go_wp2_with (go_at_call 58; refine (numbers_ok _ _ _ (ho.below hwW)).mono ?_; rintro e w' ⟨rfl, rfl⟩)
    go_ret
    exact ⟨ret_bool (No.out fun H => by rw [H.1.1.1] at hno; cases hno).symm, hwW⟩
  go_wp2_with fail
  refine (numbers_ok _ _ _ (ho.below hwW)).mono ?_
  rintro e w' ⟨rfl, rfl⟩
  cases hnr : numbersB g.rev
  · go_wp2_with (go_at_call 58; refine (numbers_ok _ _ _ (hr.below hwW)).mono ?_; rintro e w' ⟨rfl, rfl⟩)
    go_ret
    exact ⟨ret_bool (No.out fun H => by rw [H.1.1.2.1] at hnr; cases hnr).symm, hwW⟩
  go_wp2_with fail
  refine (numbers_ok _ _ _ (hr.below hwW)).mono ?_
  rintro e w' ⟨rfl, rfl⟩
  have hno' := hno; have hnr' := hnr
  simp only [numbersB, Bool.and_eq_true, decide_eq_true_eq] at hno' hnr'
  have Ao := Lib.hid (ascB_asc hno'.1); have Ar := Lib.hid (ascB_asc hnr'.1)
  have hlo : g.obv.length ≤ 1048576 := by omega
  have hlr : g.rev.length ≤ 1048576 := by omega
  clear hno' hnr'
  go_wp2_with fail
  go_loopw [25] (fun i wr => ∃ k : Nat, k ≤ g.links.length ∧ i = .int .i64 k ∧ ascB ((g.links.take k).map Link.id) 1 9999 = true ∧ (g.links.take k).all (linkOK g) = true ∧ Below W.heap.size W wr) (fun i _ => g.links.length - (intOf i).toNat)
  case atStart => exact ⟨0, Nat.zero_le _, rfl, by simp [ascB_nil], by simp, Below.refl _ _⟩
  case round =>
    obtain ⟨k, hk, rfl, ha, he, hbr⟩ := hrel
    have Ha := Lib.hid ha; have He := Lib.hid he; clear ha he
    have g0 := cell_later hbr k0
    have g1 := cell_later hbr k1
    have g2 := cell_later hbr k2
    have hwr : Below w.heap.size w wr := hwW.trans (hbr.mono hwW.size)
    have hsz : w.heap.size < wr.heap.size := by have := hbr.size; omega
    by_cases hlt : k < g.links.length
    · obtain ⟨b, o, rfl, hbb, hc⟩ := hcl k hlt
      obtain ⟨x, hx⟩ := get_of_lt hlt
      obtain ⟨e0, e1, e2⟩ := hc wr hwr k x hx
      obtain ⟨W1, hW1⟩ : ∃ W1, wr.alloc (.cells #[.int .i64 x.id, .int .i64 x.obv, .int .i64 x.rev] 32) = W1 := ⟨_, rfl⟩
      have m0 := Later.cell_all (w := W1) (a := ⟨wr.heap.size, 0, none⟩) (v := .int .i64 x.id) (by rw [← hW1]; simp)
      have m1 := Later.cell_all (w := W1) (a := ⟨wr.heap.size, 1, none⟩) (v := .int .i64 x.obv) (by rw [← hW1]; simp)
      have m2 := Later.cell_all (w := W1) (a := ⟨wr.heap.size, 2, none⟩) (v := .int .i64 x.rev) (by rw [← hW1]; simp)
      have hrW1 : Below wr.heap.size wr W1 := by rw [← hW1]; exact (Below.refl _ _).alloc (Nat.le_refl _) _
      have n0 := Later.cell_all (cell_later hrW1 g0)
      have n1 := Later.cell_all (cell_later hrW1 g1)
      have n2 := Later.cell_all (cell_later hrW1 g2)
      have HB : ∀ y : Later W1, Below w.heap.size w y.to := fun y => below_trans hwr (below_trans hrW1 y.h)
      have hl1 : (k : Int) < (g.links.length : Int) := by omega
      have hl0 : (0 : Int) ≤ (k : Int) := by omega
      by_cases b1 : 1 ≤ x.id
      case neg =>
        have d1 : decide (x.id < 1) = true := by simpa using b1
        have Hx := Lib.hid hx; clear hx hc
        go_wp2
        refine wp_region_later (by kernel_rfl) (by kernel_rfl) ?_
        repeat (go_big_quiet_step (first | (go_at_call 59; with_reducible exact calls_later (has_ok _ _ _ _ (ho.below (HB _)) Ao.out hlo)) | (go_at_call 59; with_reducible exact calls_later (has_ok _ _ _ _ (hr.below (HB _)) Ar.out hlr))))
        refine wpQuiet_nil ?_
        intro _ hw'
        obtain ⟨xq, hw''⟩ := hw'
        subst hw''
        go_wp2
        go_ret
        exact ⟨ret_bool (No.out fun H => by have := H.1.2.1; rw [asc_map_stop Hx.out Ha.out (.inl (by simp [inB]; omega))] at this; cases this).symm, HB xq⟩
      have d1 : decide (x.id < 1) = false := by simpa using b1
      by_cases b2 : x.id ≤ 9999
      case neg =>
        have d2 : decide (9999 < x.id) = true := by simpa using b2
        have Hx := Lib.hid hx; clear hx hc
        go_wp2
        refine wp_region_later (by kernel_rfl) (by kernel_rfl) ?_
        repeat (go_big_quiet_step (first | (go_at_call 59; with_reducible exact calls_later (has_ok _ _ _ _ (ho.below (HB _)) Ao.out hlo)) | (go_at_call 59; with_reducible exact calls_later (has_ok _ _ _ _ (hr.below (HB _)) Ar.out hlr))))
        refine wpQuiet_nil ?_
        intro _ hw'
        obtain ⟨xq, hw''⟩ := hw'
        subst hw''
        go_wp2
        go_ret
        exact ⟨ret_bool (No.out fun H => by have := H.1.2.1; rw [asc_map_stop Hx.out Ha.out (.inl (by simp [inB, b2]))] at this; cases this).symm, HB xq⟩
      have d2 : decide (9999 < x.id) = false := by simpa using b2
      have v1 : inB x.id 1 9999 = true := by simp [inB, b1, b2]
      have alt : (∃ y, 0 < k ∧ g.links[k - 1]? = some y ∧ x.id ≤ y.id) ∨ (∃ y, 0 < k ∧ g.links[k - 1]? = some y ∧ ¬ x.id ≤ y.id) ∨ ¬ 0 < k := by
        by_cases hk0 : 0 < k
        · obtain ⟨y, hy⟩ := get_of_lt (show k - 1 < g.links.length by omega)
          by_cases hle : x.id ≤ y.id
          · exact .inl ⟨y, hk0, hy, hle⟩
          · exact .inr (.inl ⟨y, hk0, hy, hle⟩)
        · exact .inr (.inr hk0)
      rcases alt with ⟨y, hk0, hy, hle⟩ | alt
      · have d5 : decide ((0 : Int) < (k : Int)) = true := by simp; omega
        have d6 : decide (x.id ≤ y.id) = true := by simpa using hle
        have f0 := Later.cell_all (cell_later hrW1 (hc wr hwr (k - 1) y hy).1)
        have Hx := Lib.hid hx; have Hy := Lib.hid hy; clear hx hc hy
        go_wp2
        refine wp_region_later (by kernel_rfl) (by kernel_rfl) ?_
        repeat (go_big_quiet_step (first | (go_at_call 59; with_reducible exact calls_later (has_ok _ _ _ _ (ho.below (HB _)) Ao.out hlo)) | (go_at_call 59; with_reducible exact calls_later (has_ok _ _ _ _ (hr.below (HB _)) Ar.out hlr))))
        refine wpQuiet_nil ?_
        intro _ hw'
        obtain ⟨xq, hw''⟩ := hw'
        subst hw''
        go_wp2
        go_ret
        exact ⟨ret_bool (No.out fun H => by have := H.1.2.1; rw [asc_map_stop Hx.out Ha.out (.inr ⟨y, hk0, Hy.out, hle⟩)] at this; cases this).symm, HB xq⟩
      have HA' : Hid (ascB ((g.links.take (k + 1)).map Link.id) 1 9999 = true) := by
        refine asc_map_go hx Ha.out v1 fun y h0 hy => ?_
        rcases alt with ⟨z, _, hz, hle⟩ | hk0
        · rw [hz] at hy; cases hy; omega
        · omega
      clear v1
      rcases alt with ⟨y, hk0, hy, hle⟩ | hk0
      · have d5 : decide ((0 : Int) < (k : Int)) = true := by simp; omega
        have d6 : decide (x.id ≤ y.id) = false := by simpa using hle
        have f0 := Later.cell_all (cell_later hrW1 (hc wr hwr (k - 1) y hy).1)
        have Hx := Lib.hid hx; clear hx hc hy hle
        cases v2 : hasB g.obv x.obv
        · go_wp2
          refine wp_region_later (by kernel_rfl) (by kernel_rfl) ?_
          repeat (go_big_quiet_step (first | (go_at_call 59; with_reducible exact calls_later (has_ok _ _ _ _ (ho.below (HB _)) Ao.out hlo)) | (go_at_call 59; with_reducible exact calls_later (has_ok _ _ _ _ (hr.below (HB _)) Ar.out hlr))))
          refine wpQuiet_nil ?_
          intro _ hw'
          obtain ⟨xq, hw''⟩ := hw'
          subst hw''
          go_wp2
          go_ret
          exact ⟨ret_bool (No.out fun H => by have := List.all_eq_true.1 H.1.2.2 x (List.mem_of_getElem? Hx.out); rw [linkOK, v2] at this; cases this).symm, HB xq⟩
        cases v3' : hasB g.rev x.rev
        · go_wp2
          refine wp_region_later (by kernel_rfl) (by kernel_rfl) ?_
          repeat (go_big_quiet_step (first | (go_at_call 59; with_reducible exact calls_later (has_ok _ _ _ _ (ho.below (HB _)) Ao.out hlo)) | (go_at_call 59; with_reducible exact calls_later (has_ok _ _ _ _ (hr.below (HB _)) Ar.out hlr))))
          refine wpQuiet_nil ?_
          intro _ hw'
          obtain ⟨xq, hw''⟩ := hw'
          subst hw''
          go_wp2
          go_ret
          exact ⟨ret_bool (No.out fun H => by have := List.all_eq_true.1 H.1.2.2 x (List.mem_of_getElem? Hx.out); rw [linkOK, v2, v3'] at this; cases this).symm, HB xq⟩
        go_wp2
        refine wp_region_later (by kernel_rfl) (by kernel_rfl) ?_
        repeat (go_big_quiet_step (first | (go_at_call 59; with_reducible exact calls_later (has_ok _ _ _ _ (ho.below (HB _)) Ao.out hlo)) | (go_at_call 59; with_reducible exact calls_later (has_ok _ _ _ _ (hr.below (HB _)) Ar.out hlr))))
        refine wpQuiet_nil ?_
        intro _ hw'
        obtain ⟨xq, hw''⟩ := hw'
        subst hw''
        go_wp2
        refine ⟨?rel, ?measure⟩
        case rel => exact ⟨k + 1, by omega, by go_num, HA'.out, all_snoc Hx.out He.out (by simp [linkOK, v2, v3']), (hbr.trans ((below_trans hrW1 xq.h).mono hbr.size))⟩
        case measure => simp [intOf]; omega
      · have d5 : decide ((0 : Int) < (k : Int)) = false := by simp; omega
        have Hx := Lib.hid hx; clear hx hc
        cases v2 : hasB g.obv x.obv
        · go_wp2
          refine wp_region_later (by kernel_rfl) (by kernel_rfl) ?_
          repeat (go_big_quiet_step (first | (go_at_call 59; with_reducible exact calls_later (has_ok _ _ _ _ (ho.below (HB _)) Ao.out hlo)) | (go_at_call 59; with_reducible exact calls_later (has_ok _ _ _ _ (hr.below (HB _)) Ar.out hlr))))
          refine wpQuiet_nil ?_
          intro _ hw'
          obtain ⟨xq, hw''⟩ := hw'
          subst hw''
          go_wp2
          go_ret
          exact ⟨ret_bool (No.out fun H => by have := List.all_eq_true.1 H.1.2.2 x (List.mem_of_getElem? Hx.out); rw [linkOK, v2] at this; cases this).symm, HB xq⟩
        cases v3' : hasB g.rev x.rev
        · go_wp2
          refine wp_region_later (by kernel_rfl) (by kernel_rfl) ?_
          repeat (go_big_quiet_step (first | (go_at_call 59; with_reducible exact calls_later (has_ok _ _ _ _ (ho.below (HB _)) Ao.out hlo)) | (go_at_call 59; with_reducible exact calls_later (has_ok _ _ _ _ (hr.below (HB _)) Ar.out hlr))))
          refine wpQuiet_nil ?_
          intro _ hw'
          obtain ⟨xq, hw''⟩ := hw'
          subst hw''
          go_wp2
          go_ret
          exact ⟨ret_bool (No.out fun H => by have := List.all_eq_true.1 H.1.2.2 x (List.mem_of_getElem? Hx.out); rw [linkOK, v2, v3'] at this; cases this).symm, HB xq⟩
        go_wp2
        refine wp_region_later (by kernel_rfl) (by kernel_rfl) ?_
        repeat (go_big_quiet_step (first | (go_at_call 59; with_reducible exact calls_later (has_ok _ _ _ _ (ho.below (HB _)) Ao.out hlo)) | (go_at_call 59; with_reducible exact calls_later (has_ok _ _ _ _ (hr.below (HB _)) Ar.out hlr))))
        refine wpQuiet_nil ?_
        intro _ hw'
        obtain ⟨xq, hw''⟩ := hw'
        subst hw''
        go_wp2
        refine ⟨?rel, ?measure⟩
        case rel => exact ⟨k + 1, by omega, by go_num, HA'.out, all_snoc Hx.out He.out (by simp [linkOK, v2, v3']), (hbr.trans ((below_trans hrW1 xq.h).mono hbr.size))⟩
        case measure => simp [intOf]; omega
    · have E1 : g.links.take k = g.links := List.take_of_length_le (by omega)
      have Ha' : Hid (ascB (g.links.map Link.id) 1 9999 = true) := by rw [← E1]; exact Ha.out
      have He' : Hid (g.links.all (linkOK g) = true) := by rw [← E1]; exact He.out
      clear E1 Ha He hcl
      go_wp2_with fail
      refine (with_ok _ _ _ (hl.below hwr) (by omega)).mono ?_
      rintro e w2 ⟨u1, u2, rfl, hg1, hg2, _, _, hb2⟩
      obtain ⟨B1, e1, rfl, _, _, _⟩ := hg1.cells
      obtain ⟨B2, e2, rfl, _, _, _⟩ := hg2.cells
      clear hg1 hg2
      have j0 := cell_later hb2 g0
      have j1 := cell_later hb2 g1
      clear g0 g1 g2
      obtain ⟨W3, hW3, Hz3, hb23, hlt3, hc3⟩ := boxed w2 #[.slice B1 (withs (g.links.map Link.obv)).length e1, .slice B2 (withs (g.links.map Link.rev)).length e2, .slice A3 g.links.length c3] 25
      have s0 := hc3 0 _ rfl; have s1 := hc3 1 _ rfl; have s2 := hc3 2 _ rfl
      clear hc3
      have p0 := cell_later hb23 j0
      have p1 := cell_later hb23 j1
      clear j0 j1
      have hend : Below w.heap.size w W3 := below_trans (below_trans hwr hb2) hb23
      have Yes : Hid ((withs (g.links.map Link.obv)).length = g.obv.length → (withs (g.links.map Link.rev)).length = g.rev.length → graphB g = true) := fun q1 q2 => (graphB_parts g).2 ⟨⟨⟨hno, hnr, hlen⟩, Ha'.out, He'.out⟩, q1, q2⟩
      by_cases q1 : (withs (g.links.map Link.obv)).length = g.obv.length
      case neg =>
        have z1 : (((withs (g.links.map Link.obv)).length : Int) == (g.obv.length : Int)) = false := by simp; omega
        have Q1 := Lib.hid q1; clear q1
        go_wp2_with fail
        go_ret
        exact ⟨ret_bool (No.out fun H => Q1.out H.2.1).symm, hend⟩
      have z1 : (((withs (g.links.map Link.obv)).length : Int) == (g.obv.length : Int)) = true := by simp; omega
      have Q1 := Lib.hid q1; clear q1
      by_cases q2 : (withs (g.links.map Link.rev)).length = g.rev.length
      case neg =>
        have z2 : (((withs (g.links.map Link.rev)).length : Int) == (g.rev.length : Int)) = false := by simp; omega
        have Q2 := Lib.hid q2; clear q2
        go_wp2_with fail
        go_ret
        exact ⟨ret_bool (No.out fun H => Q2.out H.2.2).symm, hend⟩
      have z2 : (((withs (g.links.map Link.rev)).length : Int) == (g.rev.length : Int)) = true := by simp; omega
      have Q2 := Lib.hid q2; clear q2
      go_wp2_with fail
      go_ret
      exact ⟨ret_bool (Yes.out Q1.out Q2.out).symm, hend⟩
end Go.Proofs.Ytnaoiochfdipiaa
