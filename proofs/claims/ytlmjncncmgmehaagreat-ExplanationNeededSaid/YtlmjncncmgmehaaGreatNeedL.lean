/- The law ExplanationNeeded. No condition. -/
import Derived.Test.YtlmjncncmgmehaaGreatAwkX
import Derived.Test.YtlmjncncmgmehaaGreatRows
namespace Go.Proofs.YtlmjncncmgmehaaGreat
open Go.RowKit Go.Shelf Go.ChangeShapes Go.WideShapes Go.ChangeAt Go.Maps

theorem lea_no {l : List Spec} {a b : Die} {L : List Int} (h : LeastS l a b L) (hE : leastE l a b ≠ 0) : L = [] := by
  unfold LeastS at h
  rwa [if_neg hE] at h
set_option maxHeartbeats 8000000 in
set_option maxRecDepth 100000 in
theorem needed_walk (v : Value) (l : List Spec) (da db : Die) (i : Int) (w : World) (h : Specs w v l) (hda : wfD da) (hdb : wfD db) (hi : (Lit.int .u8 i).wf = true) :
    Calls Tryz.prog 6 #[v, .agg #[.int .i64 da.side, .int .i64 da.num, .int .i64 db.side, .int .i64 db.num], .int .u8 i] w fun e w' => e = .returned (.bool true) ∧ Below w.heap.size w w' := by
  obtain ⟨X0, hX0, HzX0, hX, hltX0, hcX0⟩ := boxed w #[.int .i64 da.side, .int .i64 da.num, .int .i64 db.side, .int .i64 db.num] 25
  have a0 := hcX0 0 _ rfl; have a1 := hcX0 1 _ rfl; have b0 := hcX0 2 _ rfl; have b1 := hcX0 3 _ rfl
  have hi' : 0 ≤ i ∧ i ≤ 255 := by
    simp [Lit.wf, IntKind.min, IntKind.max, IntKind.signed, IntKind.bits] at hi
    omega
  obtain ⟨m, rfl⟩ : ∃ m : Nat, i = m := ⟨i.toNat, by omega⟩
  obtain ⟨A, c, rfl, _⟩ := id h
  have Hh := Lib.hid h
  clear hcX0 h hi
  go_enter Tryz.func6, Tryz.ntmps6
  go_wp2_with fail
  refine (wake51_ok _).mono ?_
  rintro e w1 ⟨rfl, hb1⟩
  have hw1 := below_trans hX hb1
  have a0 := cell_later hb1 a0; have a1 := cell_later hb1 a1; have b0 := cell_later hb1 b0; have b1 := cell_later hb1 b1
  have hF := Few51_ok _ l w1 (Hh.out.below hw1)
  cases hf : fewB51 l
  · rw [hf] at hF
    have HF := Lib.hid hF; clear hF hf a0 a1 b0 b1
    go_wp2_with fail
    refine HF.out.mono ?_
    rintro e w2 ⟨rfl, rfl⟩
    go_wp2_with fail
    refine (wake51_ok _).mono ?_
    rintro e w3 ⟨rfl, hb3⟩
    go_wp2_with fail
    go_ret
    exact ⟨rfl, below_trans hw1 hb3⟩
  rw [hf] at hF
  have hl : l.length < 200 := by
    simp only [fewB51, Bool.or_eq_true, Bool.and_eq_true, decide_eq_true_eq] at hf
    omega
  have HF := Lib.hid hF; have Hf := Lib.hid hf; clear hF hf hX0
  by_cases hz : l.length = 0
  case pos =>
    obtain rfl : l = [] := List.eq_nil_of_length_eq_zero hz
    clear a0 a1 b0 b1 hz hl
    go_wp2_with fail
    refine HF.out.mono ?_
    rintro e w2 ⟨rfl, rfl⟩
    go_wp2_with fail
    refine (wake51_ok _).mono ?_
    rintro e w3 ⟨rfl, hb3⟩
    go_wp2_with fail
    go_ret
    exact ⟨rfl, below_trans hw1 hb3⟩
  have hl1 : 0 < l.length := Nat.pos_of_ne_zero hz
  have t : ((l.length : Int) == 0) = false := beq_false_of_ne (by omega)
  have Hl1 := Lib.hid hl1
  clear hz hl1
  have HN := Lib.hid (NeedX_ok _ l da db w1 (Hh.out.below hw1) hda hdb)
  obtain ⟨E, hE⟩ : ∃ E, leastE l da db = E := ⟨_, rfl⟩
  rw [hE] at HN
  by_cases hE0 : E = 0
  case neg =>
    have t2 : (E != 0) = true := by simpa using hE0
    have hne : needL l da db = [] := by rw [needL, if_neg (by rw [hE]; exact hE0)]
    rw [hne] at HN
    clear hE hE0 hne
    go_wp2_with fail
    refine HF.out.mono ?_
    rintro e w2 ⟨rfl, rfl⟩
    go_wp2_with fail
    refine HN.out.mono ?_
    rintro e w3 ⟨un, rfl, hn, hb3⟩
    obtain ⟨An, cn, rfl, _⟩ := id hn
    go_wp2_with fail
    go_ret
    exact ⟨rfl, below_trans hw1 hb3⟩
  have t2 : (E != 0) = false := by simp [hE0]
  have hEl := leastE_0 (hE.trans hE0)
  have HE0 := Lib.hid (hE.trans hE0)
  have HEl := Lib.hid hEl.1
  have hk : m % l.length < l.length := Nat.mod_lt _ Hl1.out
  obtain ⟨k, hkk⟩ : ∃ k, m % l.length = k := ⟨_, rfl⟩
  rw [hkk] at hk
  have hmod : (m : Int).tmod (l.length : Int) = (k : Int) := by rw [← hkk]; rfl
  obtain ⟨x, hx⟩ := get_of_lt hk
  obtain ⟨_, _, ex, _, _, hc⟩ := Hh.out.cells
  cases ex
  obtain ⟨bo, o, rfl, _, hcb⟩ := hc k hk
  have Hcb := Lib.hid hcb
  have hxm : x.id ∈ l.map Spec.id := List.mem_map_of_mem (f := Spec.id) (List.mem_of_getElem? hx)
  have hneed := need_has (hE.trans hE0) hxm
  have hE7 : someE l da db [x.id] = if jnL (onlyL l [x.id] false) da db = true then 0 else 7 := by rw [someE, if_pos hEl.1, leastE, if_pos (only_of hEl.1 _ _)]
  obtain ⟨J, hJ⟩ : ∃ J, jnL (onlyL l [x.id] false) da db = J := ⟨_, rfl⟩
  rw [hJ] at hneed hE7
  have HJ : Hid (leastE (onlyL l [x.id] false) da db = if J = true then 0 else 7) := Lib.hid (by rw [leastE, if_pos (only_of hEl.1 _ _), hJ])
  have Hneed := Lib.hid hneed; have HE7 := Lib.hid hE7
  have hk1 : (k : Int) < (l.length : Int) := by omega
  have hk0 : (0 : Int) ≤ (k : Int) := by omega
  have hlz : ¬ (l.length : Int) = 0 := by have := Hl1.out; omega
  clear hE hE0 hEl hc hcb hneed hE7 hJ hxm hkk
  go_wp2_with fail
  refine HF.out.mono ?_
  rintro e w2 ⟨rfl, rfl⟩
  go_wp2_with fail
  refine HN.out.mono ?_
  rintro e w3 ⟨un, rfl, hn, hb3⟩
  have a0 := cell_later hb3 a0; have a1 := cell_later hb3 a1; have b0 := cell_later hb3 b0; have b1 := cell_later hb3 b1
  have hw3 := below_trans hw1 hb3
  obtain ⟨y0, _, _, _, _, _, _⟩ := Hcb.out w3 hw3 k x hx
  clear hx HF HN
  go_wp2_with fail
  obtain ⟨M1, hM1⟩ : ∃ z, World.alloc w3 (.cells (#[.int .i64 x.id]) 3) = z := ⟨_, rfl⟩
  rw [hM1]
  have hkM1 : M1.heap[w3.heap.size]? = some (.cells (([x.id] : List Int).flatMap encI).toArray 3 (0, 0)) := by rw [← hM1]; exact heap_alloc_new _ _
  have hbM1 : Below w3.heap.size w3 M1 := by rw [← hM1]; exact (Below.refl _ _).alloc (Nat.le_refl _) _
  have hiM1 : Ints M1 (.slice (some ⟨w3.heap.size, 0, none⟩) (1) (1)) [x.id] := slOf_blk lenI hkM1 rfl (by decide) (by decide)
  clear hkM1 hM1
  have a0 := cell_later hbM1 a0; have a1 := cell_later hbM1 a1; have b0 := cell_later hbM1 b0; have b1 := cell_later hbM1 b1
  have hw4 := below_trans hw3 hbM1
  have hn := hn.below hbM1
  refine (SomeX_ok _ _ l [x.id] da db M1 (Hh.out.below hw4) hiM1 hda hdb).mono ?_
  rintro e w5 ⟨us, L, rfl, his, hLs, hb5⟩
  rw [HE7.out]
  rw [SomeS, if_pos HEl.out] at hLs
  have HLs := Lib.hid hLs
  have a0 := cell_later hb5 a0; have a1 := cell_later hb5 a1; have b0 := cell_later hb5 b0; have b1 := cell_later hb5 b1
  have hw5 := below_trans hw4 hb5
  have hn := hn.below hb5
  have HH := Lib.hid (Has_ok _ (needL l da db) x.id w5 hn)
  rw [Hneed.out] at HH
  clear hiM1 hLs hn
  cases J
  · have hL0 : L = [] := lea_no HLs.out (by rw [HJ.out]; decide)
    subst hL0
    obtain ⟨As, cs, rfl, _⟩ := id his
    clear his a0 a1 b0 b1 y0
    go_wp2_with fail
    refine HH.out.mono ?_
    rintro e w6 ⟨rfl, rfl⟩
    go_wp2_with fail
    go_ret
    exact ⟨rfl, hw5⟩
  · obtain ⟨f1, f2⟩ := some_facts HEl.out (by rw [HJ.out]; rfl) HLs.out
    have HI := Lib.hid (IsR_ok _ _ l da db L w5 (Hh.out.below hw5) his (by omega))
    rw [f1] at HI
    have HS := Lib.hid his
    have HF2 := Lib.hid f2
    clear f1 f2 his y0
    go_wp2_with fail
    refine HH.out.mono ?_
    rintro e w6 ⟨rfl, rfl⟩
    go_wp2_with fail
    refine HI.out.mono ?_
    rintro e w7 ⟨rfl, hb7⟩
    have H2 := Lib.hid (Has_ok _ L x.id w7 (HS.out.below hb7))
    rw [HF2.out] at H2
    go_wp2_with fail
    refine H2.out.mono ?_
    rintro e w8 ⟨rfl, rfl⟩
    go_wp2_with fail
    go_ret
    exact ⟨rfl, below_trans hw5 hb7⟩

set_option maxRecDepth 100000 in
theorem needed_lifted (os : Os) (started : os.Started) (H : Type) (enc : TypeId × Value → H) :
    ReturnsInHanded {} Tryz.checked os 6 .any (Rows.explanationNeededSpec.pre6 enc Tryz.prog Tryz.f6 Rows.explanationNeededRow.domain false) (Rows.explanationNeededSpec.post enc Tryz.prog Tryz.f6 false true false false) := by
  refine returnsInHanded_of_change (C := Tryz.checked) Try.own started (by kernel_rfl) Tryz.func6
    (ChangeSpec.witness6 (enc := enc) (C := Tryz.checked) false ⟨#[], #[.slice none 0 0, .agg #[.int .i64 0, .int .i64 0, .int .i64 0, .int .i64 0], .int .u8 0], []⟩ 8 (by kernel_rfl) (by kernel_rfl) (by kernel_rfl) (by kernel_rfl)) ?_
  intro W base args ds gs before hval0 hW hcnd _
  have hval : ∀ (j : Nat) t v, Tryz.f6.params[j]? = some t → args[j]? = some v → Value.okWide Tryz.prog W .any base t v := hval0
  have hW' := hW
  obtain ⟨p, q, hA0, hV, rfl, hfz, hnd⟩ := hW
  have hA : DataW.TrodAll enc Tryz.prog W 0 (fun _ => true) true Tryz.f6.params.toList args.toList ds p := hA0
  rw [Tryz.params6] at hA hval
  obtain ⟨v0, v1, v2, d0, d1, d2, p0, p1, p2, rfl, rfl, rfl, h0, h1, h2⟩ := trodAll_three hA
  obtain ⟨rfl, rfl⟩ := trodVars_none hV
  have k0 := h0
  have lt0 : ∀ x ∈ p0, x.block < W.heap.size := by obtain ⟨m, hm⟩ := k0; exact DataW.trod_lt m _ _ _ hm
  obtain ⟨x0, hx0⟩ := opens_specs (hval 0 22 v0 rfl rfl) h0
  have k1 := h1
  have lt1 : ∀ x ∈ p1, x.block < W.heap.size := by obtain ⟨m, hm⟩ := k1; exact DataW.trod_lt m _ _ _ hm
  obtain ⟨x1, y1, rfl, wa1, wb1⟩ := opens_dd (hval 1 25 v1 rfl rfl) h1
  obtain ⟨n2, rfl, rfl, rfl, wn2⟩ := open_int Tryz.underlying5 (hval 2 5 v2 rfl rfl) h2
  clear hA0 hval0
  refine (needed_walk v0 x0 x1 y1 n2 W hx0 wa1 wb1 wn2).mono fun e W' ⟨he, bel⟩ => ?_
  subst he
  exact ⟨_, rfl, _, _, _, [], _, [], hW', trodAll_mk1 (shut_bool Tryz.underlying4 _), trodAll_mk3 (Below.trod Try.laidOut (by kernel_rfl) (of_decide_eq_true (by kernel_rfl)) k0 bel lt0) (Below.trod Try.laidOut (by kernel_rfl) (of_decide_eq_true (by kernel_rfl)) k1 bel lt1) (shut_int Tryz.underlying5 wn2), rfl, bel.frame _, fun h => by cases h⟩

theorem needed_holds : Rows.ExplanationNeededSaid :=
  OpenClaim.holds_of_wide 6 Tryz.f6 rfl rfl rfl rfl rfl rfl rfl ⟨rfl, rfl, rfl, rfl, rfl⟩ rfl rfl rfl rfl rfl (by kernel_rfl) Tryz.func6 (by kernel_rfl)
    (of_decide_eq_true (by kernel_rfl)) (by unfold Func.isWrapper; first | (rw [if_pos (by decide +kernel)]; kernel_rfl) | (rw [if_neg (by decide +kernel)]; exact ⟨rfl, rfl⟩))
    (fun os started H enc _ => needed_lifted os started H enc)
end Go.Proofs.YtlmjncncmgmehaaGreat
