/- The law ExplanationLeast. No condition. -/
import Derived.Test.YtlmjncncmgmehaaGreatAwkX
import Derived.Test.YtlmjncncmgmehaaGreatRows
namespace Go.Proofs.YtlmjncncmgmehaaGreat
open Go.RowKit Go.Shelf Go.ChangeShapes Go.WideShapes Go.ChangeAt Go.Maps

theorem leaL_no {l : List Spec} {a b : Die} {L : List Int} (h : LeastS l a b L) (hE : leastE l a b ≠ 0) : L = [] := by
  unfold LeastS at h
  rwa [if_neg hE] at h
theorem isS_len {l : List Spec} {a b : Die} {L : List Int} (h : isS l a b L = true) : L.length ≤ l.length := by
  simp only [isS, Bool.and_eq_true, decide_eq_true_eq, List.all_eq_true] at h
  obtain ⟨⟨⟨_, h2⟩, h3⟩, _⟩ := h
  have := nodup_len (asc_nodup h2) (c := l.map Spec.id) h3
  simpa using this
set_option maxHeartbeats 8000000 in
set_option maxRecDepth 100000 in
theorem leastL_walk (v : Value) (l : List Spec) (da db : Die) (iv : Value) (set : List Int) (w : World) (h : Specs w v l) (hda : wfD da) (hdb : wfD db) (hi : Ints w iv set) :
    Calls Tryz.prog 5 #[v, .agg #[.int .i64 da.side, .int .i64 da.num, .int .i64 db.side, .int .i64 db.num], iv] w fun e w' => e = .returned (.bool true) ∧ Below w.heap.size w w' := by
  obtain ⟨X0, hX0, HzX0, hX, hltX0, hcX0⟩ := boxed w #[.int .i64 da.side, .int .i64 da.num, .int .i64 db.side, .int .i64 db.num] 25
  have a0 := hcX0 0 _ rfl; have a1 := hcX0 1 _ rfl; have b0 := hcX0 2 _ rfl; have b1 := hcX0 3 _ rfl
  obtain ⟨A, c, rfl, _⟩ := id h
  obtain ⟨Ai, ci, rfl, _⟩ := id hi
  have Hh := Lib.hid h; have Hi := Lib.hid hi
  clear hcX0 h hi
  go_enter Tryz.func5, Tryz.ntmps5
  go_wp2_with fail
  refine (wake51_ok _).mono ?_
  rintro e w1 ⟨rfl, hb1⟩
  have hw1 := below_trans hX hb1
  have a0 := cell_later hb1 a0; have a1 := cell_later hb1 a1; have b0 := cell_later hb1 b0; have b1 := cell_later hb1 b1
  have hF := Few51_ok _ l w1 (Hh.out.below hw1)
  cases hf : fewB51 l
  · rw [hf] at hF
    have HF := Lib.hid hF; clear hF hf a0 a1 b0 b1
    go_wp2_with fail
    refine HF.out.mono ?_
    rintro e w2 ⟨rfl, rfl⟩
    go_wp2_with fail
    refine (wake51_ok _).mono ?_
    rintro e w3 ⟨rfl, hb3⟩
    go_wp2_with fail
    go_ret
    exact ⟨rfl, below_trans hw1 hb3⟩
  rw [hf] at hF
  have hl : l.length < 200 := by
    simp only [fewB51, Bool.or_eq_true, Bool.and_eq_true, decide_eq_true_eq] at hf
    omega
  have HF := Lib.hid hF; have Hf := Lib.hid hf; clear hF hf hX0
  by_cases hs : set.length ≤ 64
  case neg =>
    have t : (64 : Int) < (set.length : Int) := by omega
    clear a0 a1 b0 b1
    go_wp2_with fail
    refine HF.out.mono ?_
    rintro e w2 ⟨rfl, rfl⟩
    go_wp2_with fail
    refine (wake51_ok _).mono ?_
    rintro e w3 ⟨rfl, hb3⟩
    go_wp2_with fail
    go_ret
    exact ⟨rfl, below_trans hw1 hb3⟩
  have t : (set.length : Int) ≤ 64 := by omega
  have H1 := Lib.hid (LeastX_ok _ l da db w1 (Hh.out.below hw1) hda hdb)
  obtain ⟨E, hE⟩ : ∃ E, leastE l da db = E := ⟨_, rfl⟩
  rw [hE] at H1
  have HE := Lib.hid hE
  clear hE
  go_wp2_with fail
  refine HF.out.mono ?_
  rintro e w2 ⟨rfl, rfl⟩
  go_wp2_with fail
  refine H1.out.mono ?_
  rintro e w3 ⟨u3, L, rfl, hi3, hL, hb3⟩
  have a0 := cell_later hb3 a0; have a1 := cell_later hb3 a1; have b0 := cell_later hb3 b0; have b1 := cell_later hb3 b1
  have hw3 := below_trans hw1 hb3
  have H2 := LeastX_ok _ l db da w3 (Hh.out.below hw3) hdb hda
  rw [leastE_symm, HE.out] at H2
  have H2' := Lib.hid H2
  have HL := Lib.hid hL
  clear H1 HF H2 hL
  go_wp2_with fail
  refine H2'.out.mono ?_
  rintro e w4 ⟨u4, L4, rfl, hi4, hL4, hb4⟩
  obtain rfl := (leastS_symm hL4).uniq HL.out
  have a0 := cell_later hb4 a0; have a1 := cell_later hb4 a1; have b0 := cell_later hb4 b0; have b1 := cell_later hb4 b1
  have hw4 := below_trans hw3 hb4
  have hi3 := hi3.below hb4
  have HB := Lib.hid (baseInts_ok _ _ _ _ w4 hi3 hi4)
  clear hL4 H2'
  go_wp2_with fail
  refine HB.out.mono ?_
  rintro e w5 ⟨rfl, hb5⟩
  have hi3 := hi3.below hb5
  have a0 := cell_later hb5 a0; have a1 := cell_later hb5 a1; have b0 := cell_later hb5 b0; have b1 := cell_later hb5 b1
  have hw5 := below_trans hw4 hb5
  clear hi4 HB
  have hEE : (E != E) = false := by simp
  by_cases hE0 : E = 0
  case neg =>
    have t2 : (E != 0) = true := by simpa using hE0
    have hno := leastE_no (show leastE l da db ≠ 0 by rw [HE.out]; exact hE0) set
    have hL0 : L4 = [] := leaL_no HL.out (by rw [HE.out]; exact hE0)
    subst hL0
    obtain ⟨As, cs, rfl, _⟩ := id hi3
    have HI := Lib.hid (IsR_ok _ _ l da db set w5 (Hh.out.below hw5) (Hi.out.below hw5) (by omega))
    rw [hno] at HI
    clear hno hE0 hi3
    go_wp2_with fail
    refine HI.out.mono ?_
    rintro e w6 ⟨rfl, hb6⟩
    go_wp2_with fail
    go_ret
    exact ⟨rfl, below_trans hw5 hb6⟩
  have t2 : (E != 0) = false := by simp [hE0]
  obtain ⟨f1, f2, f3, f4⟩ := least_facts (HE.out.trans hE0) HL.out
  have HN := Lib.hid (NeedX_ok _ l da db w5 (Hh.out.below hw5) hda hdb)
  rw [HE.out] at HN
  have hLl := isS_len f1
  have F2 := Lib.hid f2; have F3 := Lib.hid f3; have F4 := Lib.hid f4
  subst hE0
  clear f1 f2 f3 f4
  go_wp2_with fail
  refine HN.out.mono ?_
  rintro e w6 ⟨un, rfl, hn, hb6⟩
  have hi3 := hi3.below hb6
  have a0 := cell_later hb6 a0; have a1 := cell_later hb6 a1; have b0 := cell_later hb6 b0; have b1 := cell_later hb6 b1
  have hw6 := below_trans hw5 hb6
  obtain ⟨As, cs, rfl, _⟩ := id hi3
  obtain ⟨An, cn, rfl, _⟩ := id hn
  obtain ⟨N, hN⟩ : ∃ N, needL l da db = N := ⟨_, rfl⟩
  rw [hN] at hn F4 ⊢
  have Hn := Lib.hid hn; have Hs := Lib.hid hi3
  clear hN hn hi3 HN
  go_wp2_with fail
  go_loopw [13] (fun i wr => ∃ k : Nat, k ≤ N.length ∧ i = .int .i64 k ∧ Below w6.heap.size w6 wr) (fun i _ => N.length - (intOf i).toNat)
  case atStart => exact ⟨0, Nat.zero_le _, rfl, Below.refl _ _⟩
  case round =>
    obtain ⟨k, hk, rfl, hbr⟩ := hrel
    have hwr := below_trans hw6 hbr
    by_cases hlt : k < N.length
    case pos =>
      obtain ⟨x, hx⟩ := get_of_lt hlt
      obtain ⟨_, _, ex, _, _, hc⟩ := Hn.out.cells
      cases ex
      obtain ⟨bo, o, rfl, _, hcb⟩ := hc k hlt
      have y0 := hcb wr hbr k x hx
      have HH := Has_ok _ L4 x wr (Hs.out.below hbr)
      rw [(hasB_iff _ _).2 (F4.out x (List.mem_of_getElem? hx))] at HH
      have HH' := Lib.hid HH
      have hk1 : (k : Int) < (N.length : Int) := by omega
      have hk0 : (0 : Int) ≤ (k : Int) := by omega
      clear hc hcb hx HH
      go_wp2_with fail
      refine HH'.out.mono ?_
      rintro e w7 ⟨rfl, rfl⟩
      go_wp2_with fail
      refine ⟨?rel, ?measure⟩
      case rel => exact ⟨k + 1, by omega, by go_num, hbr⟩
      case measure => first | (simp [intOf]; done) | (simp [intOf]; omega)
    have a0 := cell_later hbr a0; have a1 := cell_later hbr a1; have b0 := cell_later hbr b0; have b1 := cell_later hbr b1
    have HM := MinR_ok _ _ l da db L4 wr (Hh.out.below hwr) (Hs.out.below hbr) (by omega) (by omega)
    rw [F2.out] at HM
    have HM' := Lib.hid HM
    clear HM
    go_wp2_with fail
    refine HM'.out.mono ?_
    rintro e w7 ⟨rfl, hb7⟩
    have a0 := cell_later hb7 a0; have a1 := cell_later hb7 a1; have b0 := cell_later hb7 b0; have b1 := cell_later hb7 b1
    have hw7 := below_trans hwr hb7
    have HI := Lib.hid (IsR_ok _ _ l da db set w7 (Hh.out.below hw7) (Hi.out.below hw7) (by omega))
    obtain ⟨T, hT⟩ : ∃ T, isS l da db set = T := ⟨_, rfl⟩
    rw [hT] at HI
    cases T
    · clear hT
      go_wp2_with fail
      refine HI.out.mono ?_
      rintro e w8 ⟨rfl, hb8⟩
      go_wp2_with fail
      go_ret
      exact ⟨rfl, below_trans hw7 hb8⟩
    · have hle := F3.out set hT
      have t3 : decide ((L4.length : Int) ≤ (set.length : Int)) = true := by simp; omega
      have t4 : (L4.length : Int) ≤ (set.length : Int) := by omega
      clear hT
      go_wp2_with fail
      refine HI.out.mono ?_
      rintro e w8 ⟨rfl, hb8⟩
      go_wp2_with fail
      go_ret
      exact ⟨rfl, below_trans hw7 hb8⟩

set_option maxRecDepth 100000 in
theorem leastL_lifted (os : Os) (started : os.Started) (H : Type) (enc : TypeId × Value → H) :
    ReturnsInHanded {} Tryz.checked os 5 .any (Rows.explanationLeastSpec.pre6 enc Tryz.prog Tryz.f5 Rows.explanationLeastRow.domain false) (Rows.explanationLeastSpec.post enc Tryz.prog Tryz.f5 false true false false) := by
  refine returnsInHanded_of_change (C := Tryz.checked) Try.own started (by kernel_rfl) Tryz.func5
    (ChangeSpec.witness6 (enc := enc) (C := Tryz.checked) false ⟨#[], #[.slice none 0 0, .agg #[.int .i64 0, .int .i64 0, .int .i64 0, .int .i64 0], .slice none 0 0], []⟩ 8 (by kernel_rfl) (by kernel_rfl) (by kernel_rfl) (by kernel_rfl)) ?_
  intro W base args ds gs before hval0 hW hcnd _
  have hval : ∀ (j : Nat) t v, Tryz.f5.params[j]? = some t → args[j]? = some v → Value.okWide Tryz.prog W .any base t v := hval0
  have hW' := hW
  obtain ⟨p, q, hA0, hV, rfl, hfz, hnd⟩ := hW
  have hA : DataW.TrodAll enc Tryz.prog W 0 (fun _ => true) true Tryz.f5.params.toList args.toList ds p := hA0
  rw [Tryz.params5] at hA hval
  obtain ⟨v0, v1, v2, d0, d1, d2, p0, p1, p2, rfl, rfl, rfl, h0, h1, h2⟩ := trodAll_three hA
  obtain ⟨rfl, rfl⟩ := trodVars_none hV
  have k0 := h0
  have lt0 : ∀ x ∈ p0, x.block < W.heap.size := by obtain ⟨m, hm⟩ := k0; exact DataW.trod_lt m _ _ _ hm
  obtain ⟨x0, hx0⟩ := opens_specs (hval 0 22 v0 rfl rfl) h0
  have k1 := h1
  have lt1 : ∀ x ∈ p1, x.block < W.heap.size := by obtain ⟨m, hm⟩ := k1; exact DataW.trod_lt m _ _ _ hm
  obtain ⟨x1, y1, rfl, wa1, wb1⟩ := opens_dd (hval 1 25 v1 rfl rfl) h1
  have k2 := h2
  have lt2 : ∀ x ∈ p2, x.block < W.heap.size := by obtain ⟨m, hm⟩ := k2; exact DataW.trod_lt m _ _ _ hm
  obtain ⟨x2, hx2⟩ := opens_ints (hval 2 26 v2 rfl rfl) h2
  clear hA0 hval0
  refine (leastL_walk v0 x0 x1 y1 v2 x2 W hx0 wa1 wb1 hx2).mono fun e W' ⟨he, bel⟩ => ?_
  subst he
  exact ⟨_, rfl, _, _, _, [], _, [], hW', trodAll_mk1 (shut_bool Tryz.underlying4 _), trodAll_mk3 (Below.trod Try.laidOut (by kernel_rfl) (of_decide_eq_true (by kernel_rfl)) k0 bel lt0) (Below.trod Try.laidOut (by kernel_rfl) (of_decide_eq_true (by kernel_rfl)) k1 bel lt1) (Below.trod Try.laidOut (by kernel_rfl) (of_decide_eq_true (by kernel_rfl)) k2 bel lt2), rfl, bel.frame _, fun h => by cases h⟩

theorem leastL_holds : Rows.ExplanationLeastSaid :=
  OpenClaim.holds_of_wide 5 Tryz.f5 rfl rfl rfl rfl rfl rfl rfl ⟨rfl, rfl, rfl, rfl, rfl⟩ rfl rfl rfl rfl rfl (by kernel_rfl) Tryz.func5 (by kernel_rfl)
    (of_decide_eq_true (by kernel_rfl)) (by unfold Func.isWrapper; first | (rw [if_pos (by decide +kernel)]; kernel_rfl) | (rw [if_neg (by decide +kernel)]; exact ⟨rfl, rfl⟩))
    (fun os started H enc _ => leastL_lifted os started H enc)
end Go.Proofs.YtlmjncncmgmehaaGreat
