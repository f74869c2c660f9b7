/- JoiningSteps. No condition. -/
import Derived.Test.YtcpobcfncmcakaaAwkV
import Derived.Test.YtcpobcfncmcakaaStepP
import Derived.Test.YtcpobcfncmcakaaOpenW
import Derived.Test.YtcpobcfncmcakaaRows
namespace Go.Proofs.Ytcpobcfncmcakaa
open Go.RowKit Go.Shelf Go.ChangeShapes Go.WideShapes Go.ChangeAt

set_option maxHeartbeats 8000000 in
set_option maxRecDepth 100000 in
theorem steps_walk (v : Value) (l : List Spec) (w : World) (h : Specs w v l) :
    Calls Try.prog 3 #[v] w fun e w' => e = .returned (.bool true) ∧ Below w.heap.size w w' := by
  have h0 := h
  obtain ⟨A, c, rfl, _, _, hc⟩ := h.cells
  go_enter Try.func3, Try.ntmps3
  go_wp2_with fail
  refine (wake17_ok _).mono ?_
  rintro e w1 ⟨rfl, hb1⟩
  have hF := few17_ok _ l w1 (h0.below hb1)
  cases hf : few17B l.length
  · rw [hf] at hF
    have HF := Lib.hid hF; clear hF hf
    go_wp2_with fail
    refine HF.out.mono ?_
    rintro e w2 ⟨rfl, hb2⟩
    go_wp2_with fail
    refine (wake17_ok _).mono ?_
    rintro e w3 ⟨rfl, hb3⟩
    go_wp2_with fail
    go_ret
    exact ⟨rfl, below_trans hb1 (below_trans hb2 hb3)⟩
  rw [hf] at hF
  have HF := Lib.hid hF; have Hf := Lib.hid hf; clear hF hf
  go_wp2_with fail
  refine HF.out.mono ?_
  rintro e w2 ⟨rfl, hb2⟩
  have hw2 := below_trans hb1 hb2
  clear HF
  go_wp2_with fail
  refine (History_ok _ l _ (h0.below hw2)).mono ?_
  rintro e w3 ⟨uh, rfl, hh, hb3⟩
  obtain ⟨Ah, ch, rfl, _, _, hhc⟩ := hh.cells
  have hw3 := below_trans hw2 hb3
  go_wp2_with fail
  refine (Joiners_ok _ l _ (h0.below hw3)).mono ?_
  rintro e w4 ⟨uj, rfl, hj, hb4⟩
  obtain ⟨Aj, cj, rfl, _, _, hjc⟩ := hj.cells
  have hw4 := below_trans hw3 hb4
  by_cases hE : ofE l = 0
  case neg =>
    have hd : (ofE l != 0) = true := by simpa using hE
    have e1 : (histR l).length = 0 := by rw [histR, if_neg hE]; rfl
    have e2 : (choR pickJ l).length = 0 := by rw [choR, if_neg hE]; rfl
    rw [e1, e2]
    clear hE e1 e2 hc hhc hjc
    go_wp2_with fail
    go_ret
    exact ⟨rfl, hw4⟩
  have hd : (ofE l != 0) = false := by simp [hE]
  have hl64 : l.length ≤ 64 := (checkE_zero (ofE_zero hE).1).1
  have e1 : histR l = histT l l.length := by rw [histR, if_pos hE]
  have e2 : choR pickJ l = choT pickJ l l.length := by rw [choR, if_pos hE]
  rw [e1, histT_len] at hhc
  rw [e1, histT_len]
  rw [e2] at hjc ⊢
  have HE := Lib.hid hE
  clear hE e1 e2 hh hj
  obtain ⟨m, hm⟩ : ∃ m, (choT pickJ l l.length).length = m := ⟨_, rfl⟩
  have hml : m ≤ l.length := by rw [← hm]; exact choT_len _ _ _
  rw [hm] at hjc ⊢
  have Hm := Lib.hid hm
  clear hm
  go_wp2_with fail
  go_loopw [7, 8, 9] (fun a b i wr => ∃ k q : Nat, k ≤ l.length ∧ q ≤ m ∧ (choT pickJ l k).length = q ∧ i = .int .i64 k ∧ b = .int .i64 q ∧ a = .int .i64 (cntL l k) ∧ Below w4.heap.size w4 wr) (fun _ _ i _ => l.length - (intOf i).toNat)
  case atStart => exact ⟨0, 0, Nat.zero_le _, Nat.zero_le _, rfl, rfl, rfl, rfl, Below.refl _ _⟩
  case round =>
    obtain ⟨k, q, hk, hq, hql, rfl, rfl, rfl, hb⟩ := hrel
    have hwr := below_trans hw4 hb
    have hw3r := below_trans hb4 hb
    have Hql := Lib.hid hql; clear hql
    by_cases hlt : k < l.length
    · obtain ⟨bo, o, rfl, _, hcl⟩ := hc k hlt
      obtain ⟨x, hx⟩ := get_of_lt hlt
      obtain ⟨y0', _⟩ := hcl wr hwr k x hx
      obtain ⟨bh, oh, rfl, _, hch⟩ := hhc k (by omega)
      have z0 := hch wr hw3r k (cntL l (k + 1)) (histT_get l hlt)
      obtain ⟨d1, d2, d3, d4⟩ := step_list hx
      have hcs := choT_snoc pickJ hx
      have hget := fun hp => choT_get pickJ hx hlt hp
      have hb0 : 0 ≤ cntL l k := by unfold cntL; omega
      have hb9 : cntL l k ≤ 200 := by unfold cntL; have := (growL_more (l.take k)).2.1; rw [List.length_take] at this; omega
      generalize hC1 : cntL l (k + 1) = C1 at d1 d2 d3 d4 z0 ⊢
      generalize cntL l k = C0 at d1 d2 d3 hb0 hb9 ⊢
      have HC1 := Lib.hid hC1; clear hC1
      generalize hpk : pickJ (apartG x (growL (l.take k))) (thereG x (growL (l.take k))) = P at d3 hcs hget
      have hk1 : (k : Int) ≤ 64 := by omega
      clear hc hhc hcl hch
      have e1 : decide (C1 < 1) = false := decide_eq_false (by omega)
      have hC9 : C1 ≤ 201 := by omega
      cases P
      · rw [if_neg (by simp), List.append_nil] at hcs
        have Hq' : Hid ((choT pickJ l (k + 1)).length = q) := Lib.hid (by rw [hcs]; exact Hql.out)
        have e2 : decide (C1 - C0 < -1) = false := decide_eq_false (by omega)
        have e3 : decide (1 < C1 - C0) = false := decide_eq_false (by omega)
        have e4 : (C1 - C0 == -1) = false := by simp only [beq_eq_false_iff_ne]; intro h; have := d3.1 h; cases this
        clear hpk hcs hget d3 hx
        go_wp2_with fail
        refine ⟨?rel, ?measure⟩
        case rel => exact ⟨k + 1, q, by omega, hq, Hq'.out, by go_num, rfl, by rw [HC1.out], hb⟩
        case measure => first | (simp [intOf]; done) | (simp [intOf]; omega)
      · rw [if_pos rfl] at hcs
        have hget := hget rfl
        rw [Hql.out] at hget
        have hqm : q < m := by have := lt_of_get hget; rw [Hm.out] at this; exact this
        have Hq' : Hid ((choT pickJ l (k + 1)).length = q + 1) := Lib.hid (by rw [hcs, List.length_append, Hql.out]; rfl)
        have hD : C1 - C0 = -1 := d3.2 rfl
        obtain ⟨bj, oj, rfl, _, hcj⟩ := hjc q hqm
        have j0 := hcj wr hb q x.id hget
        have e5 : decide (m ≤ q) = false := decide_eq_false (by omega)
        have e6 : decide ((m : Int) ≤ (q : Int)) = false := decide_eq_false (by omega)
        have J0 := Later.cell_all j0; have Y0 := Later.cell_all y0'
        have hq0 : (q : Int) ≤ 64 := by omega
        clear hpk hcs hget d3 hx hcj hjc
        go_wp2_with fail
        have g1 : (q : Int) < (m : Int) := by omega
        have g2 : (k : Int) < (l.length : Int) := by omega
        refine wp_region_later (by kernel_rfl) (by kernel_rfl) ?_
        repeat (go_big_quiet_step (first | fail))
        refine wpQuiet_nil ?_
        intro _ hw'
        obtain ⟨xq, hw''⟩ := hw'
        subst hw''
        have hba := xq.h
        generalize xq.to = wa at hba ⊢
        have hb' := below_trans hb hba
        clear J0 Y0 j0 y0' z0 e5 e6 hD
        go_wp2_with fail
        refine ⟨?rel, ?measure⟩
        case rel => exact ⟨k + 1, q + 1, by omega, by omega, Hq'.out, by go_num, by go_num, by rw [HC1.out], hb'⟩
        case measure => first | (simp [intOf]; done) | (simp [intOf]; omega)
    · have e9 : k = l.length := by omega
      subst e9
      have e8 : m = q := by have h1 := Hm.out; rw [Hql.out] at h1; exact h1.symm
      subst e8
      clear hc hhc hjc
      go_wp2_with fail
      go_ret
      exact ⟨rfl, hwr⟩

set_option maxRecDepth 100000 in
theorem steps_lifted (os : Os) (started : os.Started) (H : Type) (enc : TypeId × Value → H) :
    ReturnsInHanded {} Try.checked os 3 .any (Rows.joiningStepsSpec.pre6 enc Try.prog Try.f3 Rows.joiningStepsRow.domain false) (Rows.joiningStepsSpec.post enc Try.prog Try.f3 false true false false) := by
  refine returnsInHanded_of_change (C := Try.checked) Try.own started (by kernel_rfl) Try.func3
    (ChangeSpec.witness6 (enc := enc) (C := Try.checked) false ⟨#[], #[.slice none 0 0], []⟩ 8 (by kernel_rfl) (by kernel_rfl) (by kernel_rfl) (by kernel_rfl)) ?_
  intro W base args ds gs before hval0 hW hcnd _
  have hval : ∀ (j : Nat) t v, Try.f3.params[j]? = some t → args[j]? = some v → Value.okWide Try.prog W .any base t v := hval0
  have hW' := hW
  obtain ⟨p, q, hA0, hV, rfl, hfz, hnd⟩ := hW
  have hA : DataW.TrodAll enc Try.prog W 0 (fun _ => true) true Try.f3.params.toList args.toList ds p := hA0
  rw [Try.params3] at hA hval
  obtain ⟨v0, d0, rfl, rfl, h0⟩ := trodAll_one hA
  obtain ⟨rfl, rfl⟩ := trodVars_none hV
  have k0 := h0
  have lt0 : ∀ x ∈ p, x.block < W.heap.size := by obtain ⟨m, hm⟩ := k0; exact DataW.trod_lt m _ _ _ hm
  obtain ⟨x0, hx0⟩ := opens_specs (hval 0 22 v0 rfl rfl) h0
  clear hA0 hval0
  refine (steps_walk v0 x0 W hx0).mono fun e W' ⟨he, bel⟩ => ?_
  subst he
  exact ⟨_, rfl, _, _, _, [], _, [], hW', trodAll_mk1 (shut_bool Try.underlying4 _), trodAll_mk1 (Below.trod Try.laidOut (by kernel_rfl) (of_decide_eq_true (by kernel_rfl)) k0 bel lt0), rfl, bel.frame _, fun h => by cases h⟩

theorem steps_holds : Rows.JoiningStepsSaid :=
  OpenClaim.holds_of_wide 3 Try.f3 rfl rfl rfl rfl rfl rfl rfl ⟨rfl, rfl, rfl, rfl, rfl⟩ rfl rfl rfl rfl rfl (by kernel_rfl) Try.func3 (by kernel_rfl)
    (of_decide_eq_true (by kernel_rfl)) (by unfold Func.isWrapper; first | (rw [if_pos (by decide +kernel)]; kernel_rfl) | (rw [if_neg (by decide +kernel)]; exact ⟨rfl, rfl⟩))
    (fun os started H enc _ => steps_lifted os started H enc)
end Go.Proofs.Ytcpobcfncmcakaa
