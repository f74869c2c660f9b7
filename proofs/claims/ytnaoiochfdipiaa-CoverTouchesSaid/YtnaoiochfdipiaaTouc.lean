/- CoverTouches. No condition. -/
import Derived.Test.YtnaoiochfdipiaaAwk
import Derived.Test.YtnaoiochfdipiaaCovK
import Derived.Test.YtnaoiochfdipiaaOpenW
import Derived.Test.YtnaoiochfdipiaaRows
namespace Go.Proofs.Ytnaoiochfdipiaa
open Go.RowKit Go.Shelf Go.ChangeShapes Go.WideShapes Go.ChangeAt

theorem countP_snoc_yes {α : Type} {f : α → Bool} {l : List α} {k m : Nat} {x : α} (hx : l[k]? = some x) (h : f x = true) (hm : m = (l.take k).countP f) : m + 1 = (l.take (k + 1)).countP f := by
  rw [take_snoc' hx, List.countP_append, hm, List.countP_cons_of_pos h]; rfl
theorem countP_snoc_no {α : Type} {f : α → Bool} {l : List α} {k m : Nat} {x : α} (hx : l[k]? = some x) (h : f x = false) (hm : m = (l.take k).countP f) : m = (l.take (k + 1)).countP f := by
  rw [take_snoc' hx, List.countP_append, hm, List.countP_cons_of_neg (by simp [h])]; rfl
set_option maxHeartbeats 8000000 in
set_option maxRecDepth 100000 in
theorem touc_walk (v : Value) (g : Graph) (w : World) (h : GraphAt w v g) (wo : ∀ x ∈ g.obv, wfI x) (wr0 : ∀ x ∈ g.rev, wfI x) :
    Calls Try.prog 8 #[v] w fun e w' => e = .returned (.bool true) ∧ Below w.heap.size w w' := by
  have h0 := h
  obtain ⟨v1, v2, v3, rfl, ho, hr, hk⟩ := h
  obtain ⟨A1, c1, rfl, _, _, hco⟩ := ho.cells
  obtain ⟨A2, c2, rfl, _, _, hcr⟩ := hr.cells
  obtain ⟨A3, c3, rfl, _, _, hck⟩ := hk.cells
  obtain ⟨W, hW, Hz, hwW, hlt0, hc0⟩ := boxed w #[.slice A1 g.obv.length c1, .slice A2 g.rev.length c2, .slice A3 g.links.length c3] 25
  have a0 := hc0 0 _ rfl; have a1 := hc0 1 _ rfl; have a2 := hc0 2 _ rfl
  clear hc0
  go_enter Try.func8, Try.ntmps8
  go_wp2_with fail
  refine (wake_ok _).mono ?_
  rintro e w1 ⟨rfl, hb1⟩
  clear hW
  have a0' := cell_later hb1 a0; have a1' := cell_later hb1 a1; have a2' := cell_later hb1 a2
  have hw1 := below_trans hwW hb1
  clear a0 a1 a2
  have hF := few19_ok _ _ w1 (h0.below hw1)
  cases hf : few19B g
  · rw [hf] at hF
    have HF := Lib.hid hF; clear hF hf
    go_wp2_with fail
    refine HF.out.mono ?_
    rintro e w2 ⟨rfl, hb2⟩
    go_wp2_with fail
    refine (wake_ok _).mono ?_
    rintro e w3 ⟨rfl, hb3⟩
    go_wp2_with fail
    go_ret
    exact ⟨rfl, below_trans hw1 (below_trans hb2 hb3)⟩
  rw [hf] at hF
  have HF := Lib.hid hF; have Hf := Lib.hid hf; clear hF hf
  go_wp2_with fail
  refine HF.out.mono ?_
  rintro e w2 ⟨rfl, hb2⟩
  have a0 := cell_later hb2 a0'; have a1 := cell_later hb2 a1'; have a2 := cell_later hb2 a2'
  have hw2 := below_trans hw1 hb2
  clear a0' a1' a2' HF hb1 hb2 hlt0
  have hwf : WfG g := ⟨wo, wr0⟩
  obtain ⟨P, hP⟩ : ∃ P, mchG g = P := ⟨_, rfl⟩
  obtain ⟨n, hn⟩ : ∃ n, P.length = n := ⟨_, rfl⟩
  have Hn := Lib.hid hn; clear hn
  have HP := Lib.hid hP; clear hP
  go_wp2_with fail
  refine (Matching_ok g hwf _ w2 (h0.below hw2)).mono ?_
  rintro e w3 ⟨ua, rfl, hua, hb3⟩
  have hw3 := below_trans hw2 hb3
  replace a0 := cell_later hb3 a0; replace a1 := cell_later hb3 a1; replace a2 := cell_later hb3 a2
  have hua' : Pairs w3 ua P := by rw [← HP.out]; exact hua.slOf
  obtain ⟨Aa, ca, rfl, _, _, hca⟩ := hua'.cells
  rw [Hn.out]
  have HA := Lib.hid hca
  clear hua hua' hca
  go_wp2_with fail
  refine (Cover_ok g hwf _ w3 (h0.below hw3)).mono ?_
  rintro e w4 ⟨ub, ys, rfl, hub, hcov, hb4⟩
  have hw4 := below_trans hw3 hb4
  replace a0 := cell_later hb4 a0; replace a1 := cell_later hb4 a1; replace a2 := cell_later hb4 a2
  obtain ⟨Ab, cb, rfl, _, _, hcd⟩ := hub.cells
  have HB := Lib.hid hcd
  clear hub hcd
  cases hg : graphB g
  · have hv : validE g = 1 := by simp [validE, hg]
    have hy : ys = [] := hcov.1 hg
    have hn0 : n = 0 := by rw [← Hn.out, ← HP.out, mchG, if_neg (by simp [hg])]; rfl
    subst hy; subst hn0
    rw [hv]
    clear hg hv hcov
    go_wp2_with fail
    go_ret
    exact ⟨rfl, hw4⟩
  have hv : validE g = 0 := by simp [validE, hg]
  obtain ⟨f1, f2, f3⟩ := koen_facts hg hcov
  obtain ⟨t1, t2⟩ := touch_once f1 f2 f3
  rw [HP.out] at t1 t2 f3
  have hyn : ys.length = n := by rw [← f3, Hn.out]
  have T1 := Lib.hid t1; have T2 := Lib.hid t2; have Hy := Lib.hid hyn
  rw [hv, hyn]
  clear hg hv hcov f1 f2 f3 t1 t2 hyn a0 a1 a2
  have hnl : (n : Int) ≤ 9223372036854775807 := by have := Hn.out; omega
  go_wp2_with fail
  go_loopw [7] (fun i wr => ∃ k : Nat, k ≤ n ∧ i = .int .i64 k ∧ Below w4.heap.size w4 wr) (fun i _ => n - (intOf i).toNat)
  case atStart => exact ⟨0, Nat.zero_le _, rfl, Below.refl _ _⟩
  case round =>
    obtain ⟨i, hi, rfl, hbo⟩ := hrel
    obtain ⟨wp, hwp⟩ : ∃ z, z = wr := ⟨_, rfl⟩
    subst hwp
    by_cases hin : i < n
    · have di : decide (i < n) = true := decide_eq_true hin
      obtain ⟨p, hp⟩ := get_of_lt (show i < P.length by have := Hn.out; omega)
      obtain ⟨ba, oa, rfl, _, hca⟩ := HA.out i (by have := Hn.out; omega)
      have Hp := Lib.hid hp; have Hca := Lib.hid hca
      have hi1 : (i : Int) < (n : Int) := by omega
      have hi0 : (0 : Int) ≤ (i : Int) := by omega
      clear hp hca
      go_wp2_with fail
      go_loopw [8, 9] (fun c j wr => ∃ k m : Nat, k ≤ n ∧ c = .int .i64 m ∧ j = .int .i64 k ∧ m ≤ k ∧ Hid (m = (ys.take k).countP (ofPair p)) ∧ Below wp.heap.size wp wr) (fun _ j _ => n - (intOf j).toNat)
      case atStart => exact ⟨0, 0, Nat.zero_le _, rfl, rfl, Nat.le_refl _, by show _ = _; simp, Below.refl _ _⟩
      case round =>
        obtain ⟨k, m, hk, rfl, rfl, hmk, Hm, hb⟩ := hrel
        have hbw := below_trans hbo hb
        by_cases hkn : k < n
        · have dk : decide (k < n) = true := decide_eq_true hkn
          obtain ⟨d, hd⟩ := get_of_lt (show k < ys.length by have := Hy.out; omega)
          obtain ⟨bb, ob, rfl, _, hcb⟩ := HB.out k (by have := Hy.out; omega)
          obtain ⟨e0', e1'⟩ := hcb wr hbw k d hd
          obtain ⟨e2', e3'⟩ := Hca.out wr (below_trans hb4 hbw) i p Hp.out
          have e0 := Later.cell_all e0'; have e1 := Later.cell_all e1'; have e2 := Later.cell_all e2'; have e3 := Later.cell_all e3'
          have hk1 : (k : Int) < (n : Int) := by omega
          have hk0 : (0 : Int) ≤ (k : Int) := by omega
          have Hd := Lib.hid hd
          clear hd hcb e0' e1' e2' e3'
          by_cases s0 : d.side = 0
          · have s1 : ¬ d.side = 1 := by omega
            have x1 : (d.side = 0) = True := eq_true s0
            have x2 : (d.side = 1) = False := eq_false s1
            by_cases n0 : d.num = p.a
            · have x3 : (d.num = p.a) = True := eq_true n0
              have hof : ofPair p d = true := by simp [ofPair, s0, n0]
              clear s0 s1 n0
              have Hc := Lib.hid (countP_snoc_yes Hd.out hof Hm.out)
              go_wp2_with fail
              refine wp_region_later (by kernel_rfl) (by kernel_rfl) ?_
              repeat (go_big_quiet_step (first | fail))
              refine wpQuiet_nil ?_
              intro _ hw'
              obtain ⟨xq, hw''⟩ := hw'
              subst hw''
              have hba := xq.h
              generalize xq.to = wa at hba ⊢
              go_wp2_with fail
              refine ⟨?rel, ?measure⟩
              case rel => exact ⟨k + 1, m + 1, by omega, by go_num, by go_num, by omega, Hc.out, below_trans hb hba⟩
              case measure => first | (simp [intOf]; done) | (simp [intOf]; omega)
            · have x3 : (d.num = p.a) = False := eq_false n0
              have hof : ofPair p d = false := by simp [ofPair, s0, n0]
              clear s0 s1 n0
              have Hc := Lib.hid (countP_snoc_no Hd.out hof Hm.out)
              go_wp2_with fail
              refine wp_region_later (by kernel_rfl) (by kernel_rfl) ?_
              repeat (go_big_quiet_step (first | fail))
              refine wpQuiet_nil ?_
              intro _ hw'
              obtain ⟨xq, hw''⟩ := hw'
              subst hw''
              have hba := xq.h
              generalize xq.to = wa at hba ⊢
              go_wp2_with fail
              refine ⟨?rel, ?measure⟩
              case rel => exact ⟨k + 1, m, by omega, rfl, by go_num, by omega, Hc.out, below_trans hb hba⟩
              case measure => first | (simp [intOf]; done) | (simp [intOf]; omega)
          · have x1 : (d.side = 0) = False := eq_false s0
            by_cases s1 : d.side = 1
            · have x2 : (d.side = 1) = True := eq_true s1
              by_cases n0 : d.num = p.b
              · have x3 : (d.num = p.b) = True := eq_true n0
                have hof : ofPair p d = true := by simp [ofPair, s1, n0]
                clear s0 s1 n0
                have Hc := Lib.hid (countP_snoc_yes Hd.out hof Hm.out)
                go_wp2_with fail
                refine wp_region_later (by kernel_rfl) (by kernel_rfl) ?_
                repeat (go_big_quiet_step (first | fail))
                refine wpQuiet_nil ?_
                intro _ hw'
                obtain ⟨xq, hw''⟩ := hw'
                subst hw''
                have hba := xq.h
                generalize xq.to = wa at hba ⊢
                go_wp2_with fail
                refine ⟨?rel, ?measure⟩
                case rel => exact ⟨k + 1, m + 1, by omega, by go_num, by go_num, by omega, Hc.out, below_trans hb hba⟩
                case measure => first | (simp [intOf]; done) | (simp [intOf]; omega)
              · have x3 : (d.num = p.b) = False := eq_false n0
                have hof : ofPair p d = false := by simp [ofPair, s1, n0]
                clear s0 s1 n0
                have Hc := Lib.hid (countP_snoc_no Hd.out hof Hm.out)
                go_wp2_with fail
                refine wp_region_later (by kernel_rfl) (by kernel_rfl) ?_
                repeat (go_big_quiet_step (first | fail))
                refine wpQuiet_nil ?_
                intro _ hw'
                obtain ⟨xq, hw''⟩ := hw'
                subst hw''
                have hba := xq.h
                generalize xq.to = wa at hba ⊢
                go_wp2_with fail
                refine ⟨?rel, ?measure⟩
                case rel => exact ⟨k + 1, m, by omega, rfl, by go_num, by omega, Hc.out, below_trans hb hba⟩
                case measure => first | (simp [intOf]; done) | (simp [intOf]; omega)
            · have x2 : (d.side = 1) = False := eq_false s1
              have hof : ofPair p d = false := by simp [ofPair, s0, s1]
              clear s0 s1
              have Hc := Lib.hid (countP_snoc_no Hd.out hof Hm.out)
              go_wp2_with fail
              refine wp_region_later (by kernel_rfl) (by kernel_rfl) ?_
              repeat (go_big_quiet_step (first | fail))
              refine wpQuiet_nil ?_
              intro _ hw'
              obtain ⟨xq, hw''⟩ := hw'
              subst hw''
              have hba := xq.h
              generalize xq.to = wa at hba ⊢
              go_wp2_with fail
              refine ⟨?rel, ?measure⟩
              case rel => exact ⟨k + 1, m, by omega, rfl, by go_num, by omega, Hc.out, below_trans hb hba⟩
              case measure => first | (simp [intOf]; done) | (simp [intOf]; omega)
        · have dk : decide (k < n) = false := decide_eq_false hkn
          have hm1 : m = 1 := by
            have := Hm.out
            rw [List.take_of_length_le (by have := Hy.out; omega)] at this
            rw [this]; exact T1.out p (List.mem_of_getElem? Hp.out)
          subst hm1
          clear Hm
          go_wp2_with fail
          refine ⟨?rel, ?measure⟩
          case rel => exact ⟨i + 1, by omega, by go_num, hbw⟩
          case measure => first | (simp [intOf]; done) | (simp [intOf]; omega)
    · have di : decide (i < n) = false := decide_eq_false hin
      go_wp2_with fail
      go_loopw [10] (fun i wr => ∃ k : Nat, k ≤ n ∧ i = .int .i64 k ∧ Below w4.heap.size w4 wr) (fun i _ => n - (intOf i).toNat)
      case atStart => exact ⟨0, Nat.zero_le _, rfl, hbo⟩
      case round =>
        clear hbo hin di hi
        obtain ⟨i, hi, rfl, hbo⟩ := hrel
        obtain ⟨wq, hwq⟩ : ∃ z, z = wr := ⟨_, rfl⟩
        subst hwq
        by_cases hin : i < n
        · have di : decide (i < n) = true := decide_eq_true hin
          obtain ⟨d, hd⟩ := get_of_lt (show i < ys.length by have := Hy.out; omega)
          obtain ⟨bb, ob, rfl, _, hcb⟩ := HB.out i (by have := Hy.out; omega)
          have Hd := Lib.hid hd; have Hcb := Lib.hid hcb
          have hi1 : (i : Int) < (n : Int) := by omega
          have hi0 : (0 : Int) ≤ (i : Int) := by omega
          clear hd hcb
          go_wp2_with fail
          go_loopw [11, 12] (fun c j wr => ∃ k m : Nat, k ≤ n ∧ c = .int .i64 m ∧ j = .int .i64 k ∧ m ≤ k ∧ Hid (m = (P.take k).countP fun p => ofPair p d) ∧ Below wq.heap.size wq wr) (fun _ j _ => n - (intOf j).toNat)
          case atStart => exact ⟨0, 0, Nat.zero_le _, rfl, rfl, Nat.le_refl _, by show _ = _; simp, Below.refl _ _⟩
          case round =>
            obtain ⟨k, m, hk, rfl, rfl, hmk, Hm, hb⟩ := hrel
            have hbw := below_trans hbo hb
            by_cases hkn : k < n
            · have dk : decide (k < n) = true := decide_eq_true hkn
              obtain ⟨p, hp⟩ := get_of_lt (show k < P.length by have := Hn.out; omega)
              obtain ⟨ba, oa, rfl, _, hca⟩ := HA.out k (by have := Hn.out; omega)
              obtain ⟨e2', e3'⟩ := hca wr (below_trans hb4 hbw) k p hp
              obtain ⟨e0', e1'⟩ := Hcb.out wr hbw i d Hd.out
              have e0 := Later.cell_all e0'; have e1 := Later.cell_all e1'; have e2 := Later.cell_all e2'; have e3 := Later.cell_all e3'
              have hk1 : (k : Int) < (n : Int) := by omega
              have hk0 : (0 : Int) ≤ (k : Int) := by omega
              have Hp := Lib.hid hp
              clear hp hca e0' e1' e2' e3'
              by_cases s0 : d.side = 0
              · have s1 : ¬ d.side = 1 := by omega
                have x1 : (d.side == 0) = true := by simpa using s0
                have x2 : (d.side == 1) = false := by simpa using s1
                by_cases n0 : d.num = p.a
                · have x3 : (d.num == p.a) = true := by simpa using n0
                  have hof : ofPair p d = true := by simp [ofPair, s0, n0]
                  clear s0 s1 n0
                  have Hc := Lib.hid (countP_snoc_yes Hp.out hof Hm.out)
                  go_wp2_with fail
                  refine wp_region_later (by kernel_rfl) (by kernel_rfl) ?_
                  repeat (go_big_quiet_step (first | fail))
                  refine wpQuiet_nil ?_
                  intro _ hw'
                  obtain ⟨xq, hw''⟩ := hw'
                  subst hw''
                  have hba := xq.h
                  generalize xq.to = wa at hba ⊢
                  go_wp2_with fail
                  refine ⟨?rel, ?measure⟩
                  case rel => exact ⟨k + 1, m + 1, by omega, by go_num, by go_num, by omega, Hc.out, below_trans hb hba⟩
                  case measure => first | (simp [intOf]; done) | (simp [intOf]; omega)
                · have x3 : (d.num == p.a) = false := by simpa using n0
                  have hof : ofPair p d = false := by simp [ofPair, s0, n0]
                  clear s0 s1 n0
                  have Hc := Lib.hid (countP_snoc_no Hp.out hof Hm.out)
                  go_wp2_with fail
                  refine wp_region_later (by kernel_rfl) (by kernel_rfl) ?_
                  repeat (go_big_quiet_step (first | fail))
                  refine wpQuiet_nil ?_
                  intro _ hw'
                  obtain ⟨xq, hw''⟩ := hw'
                  subst hw''
                  have hba := xq.h
                  generalize xq.to = wa at hba ⊢
                  go_wp2_with fail
                  refine ⟨?rel, ?measure⟩
                  case rel => exact ⟨k + 1, m, by omega, rfl, by go_num, by omega, Hc.out, below_trans hb hba⟩
                  case measure => first | (simp [intOf]; done) | (simp [intOf]; omega)
              · have x1 : (d.side == 0) = false := by simpa using s0
                by_cases s1 : d.side = 1
                · have x2 : (d.side == 1) = true := by simpa using s1
                  by_cases n0 : d.num = p.b
                  · have x3 : (d.num == p.b) = true := by simpa using n0
                    have hof : ofPair p d = true := by simp [ofPair, s1, n0]
                    clear s0 s1 n0
                    have Hc := Lib.hid (countP_snoc_yes Hp.out hof Hm.out)
                    go_wp2_with fail
                    refine wp_region_later (by kernel_rfl) (by kernel_rfl) ?_
                    repeat (go_big_quiet_step (first | fail))
                    refine wpQuiet_nil ?_
                    intro _ hw'
                    obtain ⟨xq, hw''⟩ := hw'
                    subst hw''
                    have hba := xq.h
                    generalize xq.to = wa at hba ⊢
                    go_wp2_with fail
                    refine ⟨?rel, ?measure⟩
                    case rel => exact ⟨k + 1, m + 1, by omega, by go_num, by go_num, by omega, Hc.out, below_trans hb hba⟩
                    case measure => first | (simp [intOf]; done) | (simp [intOf]; omega)
                  · have x3 : (d.num == p.b) = false := by simpa using n0
                    have hof : ofPair p d = false := by simp [ofPair, s1, n0]
                    clear s0 s1 n0
                    have Hc := Lib.hid (countP_snoc_no Hp.out hof Hm.out)
                    go_wp2_with fail
                    refine wp_region_later (by kernel_rfl) (by kernel_rfl) ?_
                    repeat (go_big_quiet_step (first | fail))
                    refine wpQuiet_nil ?_
                    intro _ hw'
                    obtain ⟨xq, hw''⟩ := hw'
                    subst hw''
                    have hba := xq.h
                    generalize xq.to = wa at hba ⊢
                    go_wp2_with fail
                    refine ⟨?rel, ?measure⟩
                    case rel => exact ⟨k + 1, m, by omega, rfl, by go_num, by omega, Hc.out, below_trans hb hba⟩
                    case measure => first | (simp [intOf]; done) | (simp [intOf]; omega)
                · have x2 : (d.side == 1) = false := by simpa using s1
                  have hof : ofPair p d = false := by simp [ofPair, s0, s1]
                  clear s0 s1
                  have Hc := Lib.hid (countP_snoc_no Hp.out hof Hm.out)
                  go_wp2_with fail
                  refine wp_region_later (by kernel_rfl) (by kernel_rfl) ?_
                  repeat (go_big_quiet_step (first | fail))
                  refine wpQuiet_nil ?_
                  intro _ hw'
                  obtain ⟨xq, hw''⟩ := hw'
                  subst hw''
                  have hba := xq.h
                  generalize xq.to = wa at hba ⊢
                  go_wp2_with fail
                  refine ⟨?rel, ?measure⟩
                  case rel => exact ⟨k + 1, m, by omega, rfl, by go_num, by omega, Hc.out, below_trans hb hba⟩
                  case measure => first | (simp [intOf]; done) | (simp [intOf]; omega)
            · have dk : decide (k < n) = false := decide_eq_false hkn
              have hm1 : m = 1 := by
                have := Hm.out
                rw [List.take_of_length_le (by have := Hn.out; omega)] at this
                rw [this]; exact T2.out d (List.mem_of_getElem? Hd.out)
              subst hm1
              clear Hm
              go_wp2_with fail
              refine ⟨?rel, ?measure⟩
              case rel => exact ⟨i + 1, by omega, by go_num, hbw⟩
              case measure => first | (simp [intOf]; done) | (simp [intOf]; omega)
        · have di : decide (i < n) = false := decide_eq_false hin
          go_wp2_with fail
          go_ret
          exact ⟨rfl, below_trans hw4 hbo⟩

set_option maxRecDepth 100000 in
theorem touc_lifted (os : Os) (started : os.Started) (H : Type) (enc : TypeId × Value → H) :
    ReturnsInHanded {} Try.checked os 8 .any (Rows.coverTouchesSpec.pre6 enc Try.prog Try.f8 Rows.coverTouchesRow.domain false) (Rows.coverTouchesSpec.post enc Try.prog Try.f8 false true false false) := by
  refine returnsInHanded_of_change (C := Try.checked) Try.own started (by kernel_rfl) Try.func8
    (ChangeSpec.witness6 (enc := enc) (C := Try.checked) false ⟨#[], #[.agg #[.slice none 0 0, .slice none 0 0, .slice none 0 0]], []⟩ 8 (by kernel_rfl) (by kernel_rfl) (by kernel_rfl) (by kernel_rfl)) ?_
  intro W base args ds gs before hval0 hW hcnd _
  have hval : ∀ (j : Nat) t v, Try.f8.params[j]? = some t → args[j]? = some v → Value.okWide Try.prog W .any base t v := hval0
  have hW' := hW
  obtain ⟨p, q, hA0, hV, rfl, hfz, hnd⟩ := hW
  have hA : DataW.TrodAll enc Try.prog W 0 (fun _ => true) true Try.f8.params.toList args.toList ds p := hA0
  rw [Try.params8] at hA hval
  obtain ⟨v0, d0, rfl, rfl, h0⟩ := trodAll_one hA
  obtain ⟨rfl, rfl⟩ := trodVars_none hV
  have k0 := h0
  have lt0 : ∀ x ∈ p, x.block < W.heap.size := by obtain ⟨m, hm⟩ := k0; exact DataW.trod_lt m _ _ _ hm
  obtain ⟨g0, hg0, wa0, wb0⟩ := opens_graph_wf (hval 0 25 v0 rfl rfl) h0
  clear hA0 hval0
  refine (touc_walk v0 g0 W hg0 wa0 wb0).mono fun e W' ⟨he, bel⟩ => ?_
  subst he
  exact ⟨_, rfl, _, _, _, [], _, [], hW', trodAll_mk1 (shut_bool Try.underlying4 _), trodAll_mk1 (Below.trod Try.laidOut (by kernel_rfl) (of_decide_eq_true (by kernel_rfl)) k0 bel lt0), rfl, bel.frame _, fun h => by cases h⟩

theorem touc_holds : Rows.CoverTouchesSaid :=
  OpenClaim.holds_of_wide 8 Try.f8 rfl rfl rfl rfl rfl rfl rfl ⟨rfl, rfl, rfl, rfl, rfl⟩ rfl rfl rfl rfl rfl (by kernel_rfl) Try.func8 (by kernel_rfl)
    (of_decide_eq_true (by kernel_rfl)) (by unfold Func.isWrapper; first | (rw [if_pos (by decide +kernel)]; kernel_rfl) | (rw [if_neg (by decide +kernel)]; exact ⟨rfl, rfl⟩))
    (fun os started H enc _ => touc_lifted os started H enc)
end Go.Proofs.Ytnaoiochfdipiaa
