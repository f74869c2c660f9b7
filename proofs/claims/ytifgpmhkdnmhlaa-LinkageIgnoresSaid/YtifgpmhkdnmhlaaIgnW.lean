/- For every list of specimens and every state and axis, LinkageIgnores returns true, and the list reads as it did. No condition. -/
import Derived.Test.YtifgpmhkdnmhlaaRows
import Derived.Test.YtifgpmhkdnmhlaaIgn
import Derived.Test.YtifgpmhkdnmhlaaAwake
import Derived.Test.YtifgpmhkdnmhlaaOpen
namespace Go.Proofs.Ytifgpmhkdnmhlaa
open Go.RowKit Go.Shelf Go.ChangeShapes Go.WideShapes Go.ChangeAt

theorem wf_u8 {x : Int} (h : (Lit.int .u8 x).wf = true) : 0 ≤ x ∧ x ≤ 255 := by
  have e1 : IntKind.u8.min = 0 := by decide
  have e2 : IntKind.u8.max = 255 := by decide
  simpa only [Lit.wf, Bool.and_eq_true, decide_eq_true_eq, e1, e2] using h

set_option maxHeartbeats 4000000 in
set_option maxRecDepth 100000 in
theorem ignores_walk (v : Value) (l : List Spec) (s a : Int) (w : World) (h : Specs w v l) (hs0 : 0 ≤ s) (hs1 : s ≤ 255) (ha0 : 0 ≤ a) (ha1 : a ≤ 255) :
    Calls Try.prog 4 #[v, .int .u8 s, .int .u8 a] w fun e w' => e = .returned (.bool true) ∧ Below w.heap.size w w' := by
  have h0 := h
  obtain ⟨A, c, rfl, h1, h2, hc⟩ := h.cells
  by_cases hlen : l.length ≤ 100
  case neg =>
    have hd : decide ((100 : Int) < (l.length : Int)) = true := by simp; omega
    clear hc
    go_enter Try.func4, Try.ntmps4
    go_wp2_with fail
    refine (awake_ok _).mono ?_
    rintro e w1 ⟨rfl, hb1⟩
    go_wp2_with fail
    refine (awake_ok _).mono ?_
    rintro e w2 ⟨rfl, hb2⟩
    go_wp2_with fail
    go_ret
    exact ⟨rfl, below_trans hb1 hb2⟩
  have hd : decide ((100 : Int) < (l.length : Int)) = false := by simp; omega
  obtain ⟨iS, hiS, hzS, hkS, hbS⟩ := info_parts infoS
  go_enter Try.func4, Try.ntmps4
  go_wp2_with fail
  refine (awake_ok _).mono ?_
  rintro e w1 ⟨rfl, hb1⟩
  go_wp2_with fail
  refine (Of_ok _ l _ (h0.below hb1)).mono ?_
  rintro e w2 ⟨u1, rfl, hg1, hb2⟩
  have hg1' := hg1
  obtain ⟨x1, x2, x3, rfl, ho1, hr1, hl1⟩ := hg1
  obtain ⟨A1, c1, rfl, _, _, _⟩ := ho1.cells
  obtain ⟨A2, c2, rfl, _, _, _⟩ := hr1.cells
  obtain ⟨A3, c3, rfl, _, _, _⟩ := hl1.cells
  clear ho1 hr1 hl1
  obtain ⟨W3, hW3, Hz3, hb3, hlt3, hc3⟩ := boxed w2 #[.slice A1 (ofG l).obv.length c1, .slice A2 (ofG l).rev.length c2, .slice A3 (ofG l).links.length c3] 27
  have s0 := hc3 0 _ rfl; have s1 := hc3 1 _ rfl; have s2 := hc3 2 _ rfl
  clear hc3
  have hbw3 := below_trans (below_trans hb1 hb2) hb3
  by_cases hE : ofE l = 0
  case neg =>
    have he : (ofE l != 0) = true := by simp [hE]
    have hz : (ofG l).links.length = 0 := by rw [of_none hE]; rfl
    have hz' : (((ofG l).links.length : Int) == 0) = true := by rw [hz]; rfl
    have Hz := Lib.hid hz; clear hz hE
    go_wp2_with fail
    go_ret
    exact ⟨rfl, hbw3⟩
  have he : (ofE l != 0) = false := by simp [hE]
  have HE := Lib.hid hE; clear hE
  go_wp2_with fail
  go_loopw [9, 10] (fun u i wr => ∃ k : Nat, k ≤ l.length ∧ i = .int .i64 ((k : Int) - 1) ∧ OwnS W3.heap.size wr u (backS (1 + s % 9) (a % 12) (l.drop k)) ∧ Below W3.heap.size W3 wr) (fun _ i _ => (intOf i + 1).toNat)
  case atStart => exact ⟨l.length, Nat.le_refl _, by simp, by simpa [backS] using own_nil _ _ _ _ _, Below.refl _ _⟩
  case round =>
    obtain ⟨k, hk, rfl, hown, hb⟩ := hrel
    rcases Nat.eq_zero_or_pos k with h0k | h0k
    · subst h0k
      rw [List.drop_zero] at hown
      clear hc
      have t0 := cell_later hb s0; have t1 := cell_later hb s1; have t2 := cell_later hb s2
      have hbwr := hbw3.trans (hb.mono hbw3.size)
      have hbk := back_of (st := 1 + s % 9) (ax := a % 12) (by omega) (by omega) (by omega) (by omega) HE.out
      have hO := Of_ok u9 _ wr hown.slOf
      rw [hbk.1, hbk.2] at hO
      have HO := Lib.hid hO; clear hO hbk
      have hlen2 : (((ofG l).links.length : Int) == (l.length : Int)) = true := by rw [of_len HE.out]; simp
      have hval := of_valid HE.out
      have he0 : ofE l = 0 := HE.out
      have HE0 := Lib.hid he0; clear he0
      go_wp2_with fail
      refine HO.out.mono ?_
      rintro e w4 ⟨u2, rfl, hg2, hb4⟩
      have hg2' := hg2
      obtain ⟨x1, x2, x3, rfl, ho2, hr2, hl2⟩ := hg2
      obtain ⟨B1, e1, rfl, _, _, _⟩ := ho2.cells
      obtain ⟨B2, e2, rfl, _, _, _⟩ := hr2.cells
      obtain ⟨B3, e3, rfl, _, _, _⟩ := hl2.cells
      clear ho2 hr2 hl2
      have p0 := cell_later hb4 t0; have p1 := cell_later hb4 t1; have p2 := cell_later hb4 t2
      clear t0 t1 t2 s0 s1 s2
      obtain ⟨W5, hW5, Hz5, hb5, hlt5, hc5⟩ := boxed w4 #[.slice B1 (ofG l).obv.length e1, .slice B2 (ofG l).rev.length e2, .slice B3 (ofG l).links.length e3] 27
      have q0 := hc5 0 _ rfl; have q1 := hc5 1 _ rfl; have q2 := hc5 2 _ rfl
      have r0 := cell_later hb5 p0; have r1 := cell_later hb5 p1; have r2 := cell_later hb5 p2
      clear hc5 p0 p1 p2
      have h45 := below_trans hb4 hb5
      have hg1W := hg1'.below (below_trans hb3 (below_trans hb h45))
      have hG := Graphs_ok _ _ _ _ W5 hg1W (hg2'.below hb5)
      rw [show decide (ofG l = ofG l) = true by simp] at hG
      have HG := Lib.hid hG; clear hG
      go_wp2_with fail
      refine HG.out.mono ?_
      rintro e w6 ⟨rfl, hb6⟩
      have hV := Valid_ok _ _ w6 (hg1W.below hb6)
      rw [hval] at hV
      have HV := Lib.hid hV; clear hV hval
      have y0 := cell_later hb6 r0; have y1 := cell_later hb6 r1; have y2 := cell_later hb6 r2
      clear r0 r1 r2 q0 q1 q2
      go_wp2_with fail
      refine HV.out.mono ?_
      rintro e w7 ⟨rfl, hb7⟩
      have z2 := cell_later hb7 y2
      go_wp2_with fail
      go_ret
      exact ⟨rfl, hbwr.trans ((below_trans h45 (below_trans hb6 hb7)).mono hbwr.size)⟩
    · have hk1 : k - 1 < l.length := by omega
      obtain ⟨b, o, rfl, _, hc⟩ := hc (k - 1) hk1
      obtain ⟨x, hx⟩ := get_of_lt hk1
      obtain ⟨d0, d1, d2, d3, d4, d5, d6⟩ := hc wr (hbw3.trans (hb.mono hbw3.size)) (k - 1) x hx
      obtain ⟨j, rfl⟩ : ∃ j, k = j + 1 := ⟨k - 1, by omega⟩
      simp only [Nat.add_sub_cancel] at *
      have Hx := Lib.hid hx; clear hx hc
      have q1 : ((j + 1 : Nat) : Int) - 1 = (j : Int) := by omega
      rw [q1]
      have q2 : (0 : Int) ≤ (j : Int) := by omega
      have q3 : (j : Int) < (l.length : Int) := by omega
      obtain ⟨W4, hW4, Hz4, hb4, hlt4, hc4⟩ := boxed wr #[.int .i64 x.id, .int .i64 x.obv, .int .i64 x.rev, .int .i64 (1 + s % 9), .int .i64 x.rs, .int .i64 (a % 12), .int .i64 1] 35
      have m0 := hc4 0 _ rfl; have m1 := hc4 1 _ rfl; have m2 := hc4 2 _ rfl; have m3 := hc4 3 _ rfl; have m4 := hc4 4 _ rfl; have m5 := hc4 5 _ rfl; have m6 := hc4 6 _ rfl
      clear hc4
      have hq := hown.below hb4
      have hbl : (backS (1 + s % 9) (a % 12) (l.drop (j + 1))).length ≤ 100 := by simp [backS]; omega
      have hBs : W3.heap.size ≤ W4.heap.size := by have := hb.size; have := hb4.size; omega
      have hbW4 := below_trans hb hb4
      go_wp2_with (at_builtin; refine wpList_append1 (enc := encS) (size := 7) (B := W3.heap.size) rfl (.tmp 54) (.tmp 56) _ rfl 35 iS _ 56 Try.underlying22 hiS hzS hkS hbS rfl (by decide) rfl hq (modS (1 + s % 9) (a % 12) x) _ rfl lenS oneS _ rfl rfl (by omega) (by omega) hBs ?_; intro v' w5 hown' hgrow hat)
      refine ⟨⟨j, by omega, rfl, by rw [back_take Hx.out]; exact hown', hbW4.trans (below_append hq hgrow hBs)⟩, by simp [intOf]⟩

set_option maxRecDepth 100000 in
theorem ignores_lifted (os : Os) (started : os.Started) (H : Type) (enc : TypeId × Value → H) :
    ReturnsInHanded {} Try.checked os 4 .any (Rows.linkageIgnoresSpec.pre6 enc Try.prog Try.f4 Rows.linkageIgnoresRow.domain false) (Rows.linkageIgnoresSpec.post enc Try.prog Try.f4 false true false false) := by
  refine returnsInHanded_of_change (C := Try.checked) Try.own started (by kernel_rfl) Try.func4
    (ChangeSpec.witness6 (enc := enc) (C := Try.checked) false ⟨#[], #[.slice none 0 0, .int .u8 0, .int .u8 0], []⟩ 8 (by kernel_rfl) (by kernel_rfl) (by kernel_rfl) (by kernel_rfl)) ?_
  intro W base args ds gs before hval0 hW hcnd _
  have hval : ∀ (j : Nat) t v, Try.f4.params[j]? = some t → args[j]? = some v → Value.okWide Try.prog W .any base t v := hval0
  have hW' := hW
  obtain ⟨p, q, hA0, hV, rfl, hfz, hnd⟩ := hW
  have hA : DataW.TrodAll enc Try.prog W 0 (fun _ => true) true Try.f4.params.toList args.toList ds p := hA0
  rw [Try.params4] at hA hval
  obtain ⟨v0, v1, v2, d0, d1, d2, p0, p1, p2, rfl, rfl, rfl, h0, h1, h2⟩ := trodAll_three hA
  obtain ⟨rfl, rfl⟩ := trodVars_none hV
  have k0 := h0
  have lt0 : ∀ x ∈ p0, x.block < W.heap.size := by obtain ⟨m, hm⟩ := k0; exact DataW.trod_lt m _ _ _ hm
  obtain ⟨l, hl⟩ := opens_specs (hval 0 22 v0 rfl rfl) h0
  obtain ⟨a, rfl, rfl, rfl, wa⟩ := open_int Try.underlying5 (hval 1 5 v1 rfl rfl) h1
  obtain ⟨b, rfl, rfl, rfl, wb⟩ := open_int Try.underlying5 (hval 2 5 v2 rfl rfl) h2
  clear hA0 hval0
  have ba := wf_u8 wa
  have bb := wf_u8 wb
  refine (ignores_walk v0 l a b W hl ba.1 ba.2 bb.1 bb.2).mono fun e W' ⟨he, bel⟩ => ?_
  subst he
  exact ⟨_, rfl, _, _, _, [], _, [], hW', trodAll_mk1 (shut_bool Try.underlying4 _), trodAll_mk3 (Below.trod Try.laidOut (by kernel_rfl) (of_decide_eq_true (by kernel_rfl)) k0 bel lt0) (shut_int Try.underlying5 wa) (shut_int Try.underlying5 wb), rfl, bel.frame _, fun h => by cases h⟩

theorem ignores_holds : Rows.LinkageIgnoresSaid :=
  OpenClaim.holds_of_wide 4 Try.f4 rfl rfl rfl rfl rfl rfl rfl ⟨rfl, rfl, rfl, rfl, rfl⟩ rfl rfl rfl rfl rfl (by kernel_rfl) Try.func4 (by kernel_rfl)
    (of_decide_eq_true (by kernel_rfl)) (by unfold Func.isWrapper; first | (rw [if_pos (by decide +kernel)]; kernel_rfl) | (rw [if_neg (by decide +kernel)]; exact ⟨rfl, rfl⟩))
    (fun os started H enc _ => ignores_lifted os started H enc)
end Go.Proofs.Ytifgpmhkdnmhlaa
