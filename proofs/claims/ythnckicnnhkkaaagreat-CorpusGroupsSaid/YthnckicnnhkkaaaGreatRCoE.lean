/- The reference of layer 52: record, Effective. Condition: the corpus reads as such. -/
import Derived.Test.YthnckicnnhkkaaaGreatRCoA
import Derived.Test.YthnckicnnhkkaaaGreatCorO
namespace Go.Proofs.YthnckicnnhkkaaaGreat
open Go.RowKit Go.Maps Go.Shelf

theorem find_miss {c : Int → Int} {l : List Spec} {x : Int} (h : ∀ s ∈ l, c s.id ≠ c x) : recI c l x = 0 := by
  unfold recI
  rw [List.find?_eq_none.2 fun s hs => by simpa using h s hs]
theorem find_hit {c : Int → Int} {l : List Spec} {k : Nat} {s : Spec} {x : Int} (hk : l[k]? = some s) (h : ∀ s ∈ l.take k, c s.id ≠ c x) (hs : c s.id = c x) : recI c l x = s.id := by
  unfold recI
  have e : l = l.take k ++ s :: l.drop (k + 1) := by
    have hl := (List.getElem?_eq_some_iff.1 hk)
    have := List.drop_eq_getElem_cons hl.1
    rw [hl.2] at this
    rw [← this, List.take_append_drop]
  rw [e, List.find?_append, List.find?_eq_none.2 fun s hs => by simpa using h s hs]
  simp [hs]
theorem class_has {L : List Dec} {ki n y : Int} {out : List Int} (h : ClassOf (edgK L ki) n out) : hasB out y = decide (nameK L ki y = nameK L ki n) := by
  rw [Bool.eq_iff_iff, hasB_iff, decide_eq_true_eq]
  exact h.mem y
set_option maxHeartbeats 8000000 in
set_option maxRecDepth 100000 in
theorem record_ok (T : List Nat) (p : Nat) (l : List Spec) (D : List Dec) (W : List Mrk) (x : Int) (w : World) (h : RCorAt w T p l D W) :
    Calls Tryz.prog 107 #[.pointer (some ⟨p, 0, none⟩), .int .i64 x] w fun e w' => e = .returned (.int .i64 (recI (nameK (standL D W) 4) l x)) ∧ Below w.heap.size w w' := by
  have HS := Lib.hid (Rstanding_ok T p l D W w h)
  have hLl : (standL D W).length ≤ 200 := Nat.le_trans (List.length_filter_le _ _) h.ok.lenD
  obtain ⟨L, hL⟩ : ∃ z, standL D W = z := ⟨_, rfl⟩
  rw [hL] at hLl HS ⊢
  obtain ⟨U, q, vl, hR⟩ := h
  obtain ⟨⟨r0, r1⟩, _⟩ := cellsM hR.row
  obtain ⟨A, c, rfl, hlc, hcm, hcl⟩ := (hR.spc).cells
  have HCl := Lib.hid hcl; have R0 := Lib.hid r0
  have hll := hR.ok.lis.len
  obtain ⟨R, hRr⟩ : ∃ z, recI (nameK L 4) l x = z := ⟨_, rfl⟩
  rw [hRr]
  have HRr := Lib.hid hRr
  clear hL hR hcl r0 r1 hRr
  go_enter Tryz.func107, Tryz.ntmps107
  go_wp2_with fail
  refine HS.out.mono ?_
  rintro e w1 ⟨v, rfl, ho, hb1⟩
  have HO := Lib.hid ho
  clear ho
  go_wp2_with fail
  refine (Class_ok v L 4 x w1 HO.out.slOf hLl).mono ?_
  rintro e w2 ⟨u, out, rfl, hou, hco, _, hol, hb2⟩
  obtain ⟨Au, cu, eu, _⟩ := id hou.slOf
  subst eu
  have HOu := Lib.hid hou; have Hco := Lib.hid hco
  have hw2 := below_trans hb1 hb2
  clear hou hco
  go_wp2_with fail
  go_loopw [6] (fun t wr => ∃ k : Nat, k ≤ l.length ∧ t = .int .i64 k ∧ Hid (∀ s ∈ l.take k, nameK L 4 s.id ≠ nameK L 4 x) ∧ Below w2.heap.size w2 wr) (fun t _ => l.length - (intOf t).toNat)
  case atStart => exact ⟨0, Nat.zero_le _, rfl, (fun s hs => by simp at hs), Below.refl _ _⟩
  case round =>
    obtain ⟨k, hk, rfl, Hn, hb⟩ := hrel
    have hbw := below_trans hw2 hb
    have q0 := cell_later hbw R0.out
    by_cases hlt : k < l.length
    · obtain ⟨s, hs⟩ := get_of_lt hlt
      obtain ⟨b, o, rfl, _, hcc⟩ := HCl.out _ (lt_of_get hs)
      obtain ⟨c0, c1, c2, c3, c4, c5, c6⟩ := hcc wr hbw k s hs
      have hl1 : (k : Int) < (l.length : Int) := by omega
      have hH := Has_ok _ out s.id wr ((HOu.out.below hb).slOf)
      rw [class_has Hco.out] at hH
      have Hs := Lib.hid hs
      clear hcc hs
      by_cases he : nameK L 4 s.id = nameK L 4 x
      · have t1 : decide (nameK L 4 s.id = nameK L 4 x) = true := by simp [he]
        rw [t1] at hH
        have HF : Hid (R = s.id) := by show _ = _; rw [← HRr.out]; exact find_hit Hs.out Hn.out he
        have HH := Lib.hid hH
        clear t1 he hH
        go_wp2_with fail
        refine HH.out.mono ?_
        rintro e w' ⟨rfl, rfl⟩
        go_wp2_with fail
        go_ret
        exact ⟨ret_i64 HF.out.symm, hbw⟩
      · have t1 : decide (nameK L 4 s.id = nameK L 4 x) = false := by simp [he]
        rw [t1] at hH
        have HN2 : Hid (∀ s ∈ l.take (k + 1), nameK L 4 s.id ≠ nameK L 4 x) := by
          intro s' hs'
          rw [take_snoc' Hs.out] at hs'
          rcases List.mem_append.1 hs' with hs' | hs'
          · exact Hn.out s' hs'
          · simp at hs'; rw [hs']; exact he
        have HH := Lib.hid hH
        clear t1 he hH
        go_wp2_with fail
        refine HH.out.mono ?_
        rintro e w' ⟨rfl, rfl⟩
        go_wp2_with fail
        refine ⟨?rel, ?measure⟩
        case rel => exact ⟨k + 1, by omega, by go_num, HN2, hb⟩
        case measure => simp [intOf]; omega
    · have HF : Hid (R = 0) := by show _ = _; rw [← HRr.out]; exact find_miss (by have := Hn.out; rwa [List.take_of_length_le (by omega)] at this)
      go_wp2_with fail
      go_ret
      exact ⟨ret_i64 HF.out.symm, hbw⟩
set_option maxHeartbeats 16000000 in
set_option maxRecDepth 100000 in
theorem REff_ok (T : List Nat) (p : Nat) (l : List Spec) (D : List Dec) (W : List Mrk) (w : World) (h : RCorAt w T p l D W) :
    Calls Tryz.prog 57 #[.pointer (some ⟨p, 0, none⟩)] w fun e w' => ∃ u, e = .returned u ∧ OwnS w.heap.size w' u (effL (standL D W) l) ∧ Below w.heap.size w w' := by
  have H := Lib.hid h
  have hll := h.ok.lis.len
  have hLl : (standL D W).length ≤ 200 := Nat.le_trans (List.length_filter_le _ _) h.ok.lenD
  obtain ⟨L, hL⟩ : ∃ z, standL D W = z := ⟨_, rfl⟩
  have HRec := Lib.hid fun (w9 : World) (hb : Below w.heap.size w w9) (x : Int) => record_ok T p l D W x w9 (h.below hb)
  have HSt := Lib.hid fun (w9 : World) (hb : Below w.heap.size w w9) => Rstanding_ok T p l D W w9 (h.below hb)
  rw [hL] at hLl HRec HSt ⊢
  obtain ⟨iS, hiS, hzS, hkS, hbS⟩ := info_parts infoS
  clear h hL
  go_enter Tryz.func57, Tryz.ntmps57
  go_wp2_with fail
  refine (RSpecs_ok T p l D W w H.out).mono ?_
  rintro e w1 ⟨v1, rfl, ho1, hb1⟩
  obtain ⟨A, c, rfl, hlc, hcm, hcl⟩ := (show Specs w1 v1 l from ho1.slOf).cells
  have HCl := Lib.hid hcl
  clear ho1 hcl
  go_wp2_with fail
  refine (HSt.out w1 hb1).mono ?_
  rintro e w2 ⟨v2, rfl, ho2, hb2⟩
  have HD := Lib.hid ho2.slOf
  have hw2 := below_trans hb1 hb2
  clear ho2
  go_wp2_with fail
  go_loopw [3, 6] (fun t3 t6 wr => ∃ (k : Nat) (v : Value), k ≤ l.length ∧ t3 = v ∧ t6 = .int .i64 k ∧ OwnS w2.heap.size wr v (recT L l k) ∧ Below w2.heap.size w2 wr) (fun _ t _ => l.length - (intOf t).toNat)
  case atStart => exact ⟨0, _, Nat.zero_le _, rfl, rfl, by unfold recT; simp; exact own_nil _ _ _ _ _, Below.refl _ _⟩
  case round =>
    obtain ⟨k, v, hk, rfl, rfl, hown, hb⟩ := hrel
    have hbw := below_trans hw2 hb
    obtain ⟨A8, c8, e8, _⟩ := id hown.slOf
    subst e8
    by_cases hlt : k < l.length
    · obtain ⟨s, hs⟩ := get_of_lt hlt
      obtain ⟨b, o, rfl, _, hcc⟩ := HCl.out _ (lt_of_get hs)
      have Hcc := Lib.hid fun (w9 : World) (hb9 : Below w1.heap.size w1 w9) => hcc w9 hb9 k s hs
      have h1r := below_trans hb2 hb
      obtain ⟨c0, c1, c2, c3, c4, c5, c6⟩ := hcc wr h1r k s hs
      have hl1 : (k : Int) < (l.length : Int) := by omega
      have Hs := Lib.hid hs; have HO := Lib.hid hown
      obtain ⟨R, hR⟩ : ∃ z, recI (nameK L 4) l s.id = z := ⟨_, rfl⟩
      have HR := Lib.hid fun (y : Later wr) => (show Calls Tryz.prog 107 #[.pointer (some ⟨p, 0, none⟩), .int .i64 s.id] y.to fun e w' => e = .returned (.int .i64 R) ∧ Below y.to.heap.size y.to w' by rw [← hR]; exact HRec.out y.to (below_trans hbw y.h) s.id)
      have HRv := Lib.hid hR
      have C0 := Later.cell_all c0
      clear hcc hs hown hR c1 c2 c3 c4 c5 c6
      by_cases he : R = s.id
      case neg =>
        have t1 : (R == s.id) = false := by simp [he]
        have t1' : decide (R = s.id) = false := by simp [he]
        have HT := Lib.hid (recT_skip Hs.out (by rw [HRv.out]; exact he))
        clear he
        go_wp2_with fail
        refine wp_region_later (by kernel_rfl) (by kernel_rfl) ?_
        repeat (go_big_quiet_step (first | (go_at_call 107; with_reducible exact calls_later (HR.out _))))
        refine wpQuiet_nil ?_
        intro _ hw'
        obtain ⟨xq, hw''⟩ := hw'
        subst hw''
        have hbc := xq.h
        generalize xq.to = wc at hbc ⊢
        clear C0
        go_wp2_with fail
        refine ⟨?rel, ?measure⟩
        case rel => exact ⟨k + 1, _, by omega, rfl, by go_num, by rw [HT.out]; exact HO.out.below hbc, below_trans hb hbc⟩
        case measure => simp [intOf]; omega
      have t1 : (R == s.id) = true := by simp [he]
      have t1' : decide (R = s.id) = true := by simp [he]
      have HT := Lib.hid (recT_take Hs.out (by rw [HRv.out]; exact he))
      clear he
      go_wp2_with fail
      refine wp_region_later (by kernel_rfl) (by kernel_rfl) ?_
      repeat (go_big_quiet_step (first | (go_at_call 107; with_reducible exact calls_later (HR.out _))))
      refine wpQuiet_nil ?_
      intro _ hw'
      obtain ⟨xq, hw''⟩ := hw'
      subst hw''
      have hbc := xq.h
      generalize xq.to = wc at hbc ⊢
      clear C0 c0
      have hbwc := below_trans hbw hbc
      obtain ⟨c0, c1, c2, c3, c4, c5, c6⟩ := Hcc.out wc (below_trans h1r hbc)
      obtain ⟨V1, V2, hV1, hV2, HzV2, hkV1, hkV2, hbV2, hltV2⟩ := fresh wc [.int .i64 0, .int .i64 0, .int .i64 0, .int .i64 0, .int .i64 0, .int .i64 0, .int .i64 0] [.int .i64 (s).id, .int .i64 (s).obv, .int .i64 (s).rev, .int .i64 (s).os, .int .i64 (s).rs, .int .i64 (s).ax, .int .i64 (s).wt] 31 rfl
      have hsV2 : ((((((V1.setCell ⟨wc.heap.size, 0, none⟩ (.int .i64 (s).id)).setCell ⟨wc.heap.size, 1, none⟩ (.int .i64 (s).obv)).setCell ⟨wc.heap.size, 2, none⟩ (.int .i64 (s).rev)).setCell ⟨wc.heap.size, 3, none⟩ (.int .i64 (s).os)).setCell ⟨wc.heap.size, 4, none⟩ (.int .i64 (s).rs)).setCell ⟨wc.heap.size, 5, none⟩ (.int .i64 (s).ax)).setCell ⟨wc.heap.size, 6, none⟩ (.int .i64 (s).wt) = V2 := hV2
      clear hV2
      obtain ⟨⟨z0, z1, z2, z3, z4, z5, z6⟩, f0, f1, f2, f3, f4, f5, f6⟩ := cellsS hkV1
      clear hkV1
      obtain ⟨⟨s0, s1, s2, s3, s4, s5, s6⟩, _⟩ := cellsS hkV2
      have HkV := Lib.hid hkV2
      have hbV := below_trans hbc hbV2
      have hwV := below_trans hbw hbV
      clear hkV2
      go_wp2_with fail
      refine (Class_ok v2 L 1 s.obv V2 (HD.out.below (below_trans hb hbV)) hLl).mono ?_
      rintro e w5 ⟨u5, out5, rfl, hou5, hco5, hne5, hol5, hb5⟩
      have Ho5 := Lib.hid hou5; have Hc5 := Lib.hid hco5
      clear hou5 hco5
      go_wp2_with fail
      refine (least_ok u5 out5 w5 Ho5.out.slOf hne5 hol5).mono ?_
      rintro e w6 ⟨m6, rfl, hm6, hl6, hb6⟩
      obtain rfl := least_name Hc5.out hm6 hl6
      have hb56 := below_trans hb5 hb6
      have hk6 := heap_below HkV.out hb56 (heap_lt HkV.out)
      obtain ⟨o', ho'⟩ : ∃ z, nameF (edgK L 1) s.obv = z := ⟨_, rfl⟩
      rw [ho']
      have Ho' := Lib.hid ho'
      have g6 : w6.cell? ⟨wc.heap.size, 1, none⟩ = some (.int .i64 s.obv) := heap_cell hk6
      have f6 : w6.frozen? ⟨wc.heap.size, 1, none⟩ = false := heap_free hk6
      have hk7 := heap_setCell_same w6 wc.heap.size 1 _ 31 (.int .i64 o') hk6
      obtain ⟨w7, hw7⟩ : ∃ z, w6.setCell ⟨wc.heap.size, 1, none⟩ (.int .i64 o') = z := ⟨_, rfl⟩
      rw [hw7] at hk7
      have hb7 : Below wc.heap.size wc w7 := by
        rw [← hw7]
        exact (hbV2.trans (hb56.mono hbV2.size)).grown (setCells_grown wc.heap.size [.int .i64 o'] w6 1) (Nat.le_trans hbV2.size hb56.size) (fun j e => by cases e; exact Nat.le_refl _)
      have y2 : w7.cell? ⟨wc.heap.size, 2, none⟩ = some (.int .i64 s.rev) := heap_cell hk7
      have Hk7 := Lib.hid hk7
      clear hk6 hk7 hm6 hl6 ho' s0 s1 s2 s3 s4 s5 s6
      go_wp2_with fail
      refine (Class_ok v2 L 2 s.rev w7 (HD.out.below (below_trans hb (below_trans hbc hb7))) hLl).mono ?_
      rintro e w8 ⟨u8, out8, rfl, hou8, hco8, hne8, hol8, hb8⟩
      have Ho8 := Lib.hid hou8; have Hc8 := Lib.hid hco8
      clear hou8 hco8
      go_wp2_with fail
      refine (least_ok u8 out8 w8 Ho8.out.slOf hne8 hol8).mono ?_
      rintro e w9 ⟨m9, rfl, hm9, hl9, hb9⟩
      obtain rfl := least_name Hc8.out hm9 hl9
      have hb89 := below_trans hb8 hb9
      have hk9 := heap_below Hk7.out hb89 (heap_lt Hk7.out)
      obtain ⟨r', hr'⟩ : ∃ z, nameF (edgK L 2) s.rev = z := ⟨_, rfl⟩
      rw [hr']
      have Hr' := Lib.hid hr'
      have g9 : w9.cell? ⟨wc.heap.size, 2, none⟩ = some (.int .i64 s.rev) := heap_cell hk9
      have f9 : w9.frozen? ⟨wc.heap.size, 2, none⟩ = false := heap_free hk9
      have hk10 := heap_setCell_same w9 wc.heap.size 2 _ 31 (.int .i64 r') hk9
      obtain ⟨wz, hwz⟩ : ∃ z, w9.setCell ⟨wc.heap.size, 2, none⟩ (.int .i64 r') = z := ⟨_, rfl⟩
      rw [hwz] at hk10
      have hbz : Below wc.heap.size wc wz := by
        rw [← hwz]
        exact (hb7.trans (hb89.mono hb7.size)).grown (setCells_grown wc.heap.size [.int .i64 r'] w9 2) (Nat.le_trans hb7.size hb89.size) (fun j e => by cases e; exact Nat.le_refl _)
      obtain ⟨⟨z0', z1', z2', z3', z4', z5', z6'⟩, _⟩ := cellsS (show wz.heap[wc.heap.size]? = some (.cells [.int .i64 s.id, .int .i64 o', .int .i64 r', .int .i64 s.os, .int .i64 s.rs, .int .i64 s.ax, .int .i64 s.wt].toArray 31 (0, 0)) from hk10)
      have hbzz := below_trans hbwc hbz
      have HOz := Lib.hid (HO.out.below (below_trans hbc hbz))
      have h9 := below_trans hb (below_trans hbc hbz)
      have hzz : w2.heap.size ≤ wz.heap.size := h9.size
      have hrl := recT_len L l k
      have HE9 : Hid (recT L l k ++ [(⟨s.id, o', r', s.os, s.rs, s.ax, s.wt⟩ : Spec)] = recT L l (k + 1)) := by
        show _ = _
        rw [HT.out, renS, show nameK L 1 s.obv = o' from Ho'.out, show nameK L 2 s.rev = r' from Hr'.out]
      clear hk9 hk10 hm9 hl9 hr'
      go_wp2_with (at_builtin; refine wpList_append1 (enc := encS) (size := 7) (B := w2.heap.size) rfl (.tmp 47) (.tmp 49) _ rfl 31 iS _ 56 Tryz.underlying51 hiS hzS hkS hbS rfl (by decide) rfl HOz.out (⟨s.id, o', r', s.os, s.rs, s.ax, s.wt⟩ : Spec) _ rfl lenS oneS _ rfl rfl (by omega) (by omega) hzz ?_; intro v' wq hown' hgrow hat)
      obtain ⟨Av, cv9, rfl, _⟩ := id hown'.slOf
      rw [HE9.out] at hown'
      have HOq := Lib.hid hown'; have HGq := Lib.hid hgrow
      have e9 := congrArg List.length HE9.out
      rw [e9]
      clear hown' hgrow hat e9
      go_wp2_with fail
      refine ⟨?rel, ?measure⟩
      case rel => exact ⟨k + 1, _, by omega, rfl, by go_num, HOq.out, h9.grown HGq.out hzz (fun j e => (HOz.out.lt j e).1)⟩
      case measure => simp [intOf]; omega
    · have he : k = l.length := by omega
      subst he
      have HO := Lib.hid hown
      clear hown
      go_wp2_with fail
      go_ret
      exact ⟨_, rfl, by rw [← recT_end]; exact HO.out.base hw2.size, hbw⟩
end Go.Proofs.YthnckicnnhkkaaaGreat
/- The reference of layer 52: Claims. Condition: the corpus reads as such. -/
namespace Go.Proofs.YthnckicnnhkkaaaGreat
open Go.RowKit Go.Maps Go.Shelf

/-- A pair as a mark: the same order. -/
def prM (p : Pair) : Mrk := ⟨p.a, p.b⟩
theorem prM_inj {p q : Pair} (h : prM p = prM q) : p = q := by cases p; cases q; simp [prM] at h; simp [h]
theorem srtP_M {out : List Pair} (h : out.Pairwise ltP) : out.Pairwise fun x y => mkLt (prM x) (prM y) := h
theorem claL_skip {raw out : List Pair} {p : Pair} (h : ClaL raw out) (hp : p ∈ out) : ClaL (raw ++ [p]) out :=
  ⟨h.1, fun q => by
    rw [h.2 q, List.mem_append, List.mem_singleton]
    exact ⟨.inl, fun hq => hq.elim id fun e => by rw [e]; exact (h.2 p).1 hp⟩⟩
theorem claL_ins {raw out : List Pair} {p : Pair} {j : Nat} (h : ClaL raw out) (hj : j = ahd prM out (prM p)) (hp : p ∉ out) : ClaL (raw ++ [p]) (out.take j ++ [p] ++ out.drop j) := by
  have hn : ∀ x ∈ out, prM x ≠ prM p := fun x hx e => hp (by rw [← prM_inj e]; exact hx)
  have e : out.take j ++ [p] ++ out.drop j = insF prM out p := by
    rw [hj, List.append_assoc]
    exact at_other (f := prM) hn (srtP_M h.1) p rfl
  rw [e]
  refine ⟨insF_srt prM (srtP_M h.1), fun q => ?_⟩
  rw [insF_mem prM hn q, h.2 q, List.mem_append, List.mem_singleton]
theorem claL_at {raw out : List Pair} {p : Pair} (h : ClaL raw out) (hn : ∀ o, out[ahd prM out (prM p)]? = some o → o ≠ p) : p ∉ out := fun hx => by
  have hs := srtP_M h.1
  obtain ⟨k, hk⟩ := List.getElem?_of_mem hx
  have hk1 : ¬ k < ahd prM out (prM p) := fun h' => mkLt_irrefl _ ((ahd_step (f := prM) hs hk).2 h')
  have hlk := List.getElem?_eq_some_iff.1 hk
  have hlk1 := hlk.1
  rcases Nat.lt_or_ge (ahd prM out (prM p)) k with h' | h'
  · have h3 := List.pairwise_iff_getElem.1 hs _ _ (by omega) hlk.1 h'
    rw [hlk.2] at h3
    have := (ahd_step (f := prM) hs (List.getElem?_eq_getElem (show ahd prM out (prM p) < out.length by omega))).1 h3
    omega
  · exact hn p (by rw [show ahd prM out (prM p) = k by omega]; exact hk) rfl
set_option maxHeartbeats 16000000 in
set_option maxRecDepth 100000 in
theorem RClaims_ok (T : List Nat) (p : Nat) (l : List Spec) (D : List Dec) (W : List Mrk) (w : World) (h : RCorAt w T p l D W) :
    Calls Tryz.prog 58 #[.pointer (some ⟨p, 0, none⟩)] w fun e w' => ∃ u out, e = .returned u ∧ OwnP w.heap.size w' u out ∧ ClaL (rawC (standL D W) l) out ∧ out.length ≤ 200 ∧ Below w.heap.size w w' := by
  have H := Lib.hid h
  have hLl : (standL D W).length ≤ 200 := Nat.le_trans (List.length_filter_le _ _) h.ok.lenD
  rw [rawC_T]
  obtain ⟨L, hL⟩ : ∃ z, standL D W = z := ⟨_, rfl⟩
  have HRec := Lib.hid fun (w9 : World) (hb : Below w.heap.size w w9) (x : Int) => record_ok T p l D W x w9 (h.below hb)
  have HSd := Lib.hid (Rstanding_ok T p l D W w h)
  rw [hL] at hLl HRec HSd ⊢
  have HId : Hid (∀ x, 0 ≤ recI (nameK L 4) l x ∧ recI (nameK L 4) l x ≤ 9999) := Lib.hid fun x => recI_rng (fun s hs => (specB_rng (h.ok.lis.ok s hs)).1) x
  obtain ⟨iP, hiP, hzP, hkP, hbP⟩ := info_parts infoP
  have qe := eqlPair_
  clear h hL
  go_enter Tryz.func58, Tryz.ntmps58
  go_wp2_with fail
  refine HSd.out.mono ?_
  rintro e w2 ⟨v2, rfl, ho2, hw2⟩
  obtain ⟨A, c, rfl, hlc, hcm, hcl⟩ := (show Decs w2 v2 L from ho2.slOf).cells
  have HCl := Lib.hid hcl
  clear ho2 hcl HSd
  go_wp2_with fail
  go_loopw [3, 5] (fun t3 t5 wr => ∃ (k : Nat) (v : Value) (out : List Pair), k ≤ L.length ∧ t3 = v ∧ t5 = .int .i64 k ∧ OwnP w2.heap.size wr v out ∧ Hid (ClaL (rawT (nameK L 4) l (L.take k)) out) ∧ out.length ≤ k ∧ Below w2.heap.size w2 wr) (fun _ t _ => L.length - (intOf t).toNat)
  case atStart => exact ⟨0, _, [], Nat.zero_le _, rfl, rfl, own_nil _ _ _ _ _, ⟨List.Pairwise.nil, fun q => by simp [rawT]⟩, by simp, Below.refl _ _⟩
  case round =>
    obtain ⟨k, v, out, hk, rfl, rfl, hown, HC, hol, hb⟩ := hrel
    have hbw := below_trans hw2 hb
    obtain ⟨A8, c8, e8, _⟩ := id hown.slOf
    subst e8
    by_cases hlt : k < L.length
    · obtain ⟨d, hd⟩ := get_of_lt hlt
      obtain ⟨b, o, rfl, _, hcc⟩ := HCl.out _ (lt_of_get hd)
      obtain ⟨c0, c1, c2, c3, c4⟩ := hcc wr hb k d hd
      have hl1 : (k : Int) < (L.length : Int) := by omega
      have HO := Lib.hid hown
      have Hst := Lib.hid (rawT_step (c := nameK L 4) (l := l) hd)
      clear hcc hown hd
      by_cases e3 : d.ki = 3
      case neg =>
        have t1 : (d.ki != 3) = true := by simp [e3]
        have t1' : decide (d.ki = 3) = false := by simp [e3]
        have HT : Hid (ClaL (rawT (nameK L 4) l (L.take (k + 1))) out) := by have := Hst.out; rw [if_neg fun h => e3 h.1, List.append_nil] at this; show ClaL _ _; rw [this]; exact HC.out
        clear e3
        go_wp2_with fail
        refine ⟨?rel, ?measure⟩
        case rel => exact ⟨k + 1, _, out, by omega, rfl, by go_num, HO.out, HT, by omega, hb⟩
        case measure => simp [intOf]; omega
      have t1 : (d.ki != 3) = false := by simp [e3]
      have t1' : decide (d.ki = 3) = true := by simp [e3]
      have E3 := Lib.hid e3
      clear e3
      obtain ⟨ra, hra⟩ : ∃ z, recI (nameK L 4) l d.a = z := ⟨_, rfl⟩
      obtain ⟨rc, hrc⟩ : ∃ z, recI (nameK L 4) l d.b = z := ⟨_, rfl⟩
      have HA := Lib.hid fun (w9 : World) (hb : Below w.heap.size w w9) => (show Calls Tryz.prog 107 #[.pointer (some ⟨p, 0, none⟩), .int .i64 d.a] w9 fun e w' => e = .returned (.int .i64 ra) ∧ Below w9.heap.size w9 w' by rw [← hra]; exact HRec.out w9 hb d.a)
      have HB := Lib.hid fun (w9 : World) (hb : Below w.heap.size w w9) => (show Calls Tryz.prog 107 #[.pointer (some ⟨p, 0, none⟩), .int .i64 d.b] w9 fun e w' => e = .returned (.int .i64 rc) ∧ Below w9.heap.size w9 w' by rw [← hrc]; exact HRec.out w9 hb d.b)
      have Hst2 : Hid (rawT (nameK L 4) l (L.take (k + 1)) = rawT (nameK L 4) l (L.take k) ++ (if ra ≠ 0 ∧ rc ≠ 0 ∧ ra ≠ rc then [⟨ra, rc⟩] else [])) := by
        have := Hst.out
        rw [hra, hrc] at this
        show _ = _
        rw [this]
        congr 1
        have := E3.out
        by_cases hc : ra ≠ 0 ∧ rc ≠ 0 ∧ ra ≠ rc
        · rw [if_pos hc, if_pos ⟨this, hc⟩]
        · rw [if_neg hc, if_neg fun h => hc h.2]
      clear hra hrc Hst
      go_upto_region 7 with fail
      go_cut [6] (fun pv wc => ∃ g, pv = .pointer (some ⟨g, 0, none⟩) ∧ wc.heap[g]? = some (.cells [.int .i64 ra, .int .i64 rc].toArray 87 (0, 0)) ∧ Below wr.heap.size wr wc)
      case first =>
        have hba : Below (wr).heap.size (wr) (wr).drew := (Below.refl _ _).drew
        obtain ⟨wa, hwa⟩ : ∃ W, (wr).drew = W := ⟨_, rfl⟩
        rw [hwa] at hba
        have HSt := Lib.hid fun (w9 : World) (hb : Below wa.heap.size wa w9) => (show (fun w' : World => Below wa.heap.size wa w' ∧ w'.cell? ⟨b, o + k * 5 + 3, none⟩ = some (.int .i64 d.a) ∧ w'.cell? ⟨b, o + k * 5 + 4, none⟩ = some (.int .i64 d.b)) w9 from ⟨hb, cell_later hb (cell_later hba c3), cell_later hb (cell_later hba c4)⟩)
        have hHeld := HSt.out wa (Below.refl _ _)
        refine wp_region_S 16 (fun w' : World => Below wa.heap.size wa w' ∧ w'.cell? ⟨b, o + k * 5 + 3, none⟩ = some (.int .i64 d.a) ∧ w'.cell? ⟨b, o + k * 5 + 4, none⟩ = some (.int .i64 d.b)) (by kernel_rfl) (by decide) ?_
        rw [hwa]
        clear hwa
        have hwa := below_trans hbw hba
        refine wpAnyS_takeD 0 (some 23) (.pointer (some ⟨p, 0, none⟩)) (by rfl) (by rfl) (by kernel_rfl) (by exact fun _ _ _ h => h) (by rfl) (fun w' hS => by go_simp) hHeld ?_
        simp only [Act.put, List.setIfInBounds_toArray, List.set_cons_succ, List.set_cons_zero]
        refine wpAnyS_takeD 1 (some 24) (.slice (some ⟨b, o, none⟩) L.length c) (by rfl) (by rfl) (by kernel_rfl) (by exact fun _ _ _ h => h) (by rfl) (fun w' hS => by go_simp) hHeld ?_
        simp only [Act.put, List.setIfInBounds_toArray, List.set_cons_succ, List.set_cons_zero]
        refine wpAnyS_takeD 2 (some 25) (.int .i64 k) (by rfl) (by rfl) (by kernel_rfl) (by exact fun _ _ _ h => h) (by rfl) (fun w' hS => by go_simp) hHeld ?_
        simp only [Act.put, List.setIfInBounds_toArray, List.set_cons_succ, List.set_cons_zero]
        refine wpAnyS_takeD 3 (some 26) (.pointer (some ⟨b, o + k * 5, none⟩)) (by rfl) (by rfl) (by kernel_rfl) (by exact fun _ _ _ h => h) (by rfl) (fun w' hS => by go_simp) hHeld ?_
        simp only [Act.put, List.setIfInBounds_toArray, List.set_cons_succ, List.set_cons_zero]
        refine wpAnyS_takeD 4 (some 27) (.pointer (some ⟨b, o + k * 5 + 3, none⟩)) (by rfl) (by rfl) (by kernel_rfl) (by exact fun _ _ _ h => h) (by rfl) (fun w' hS => by go_simp) hHeld ?_
        simp only [Act.put, List.setIfInBounds_toArray, List.set_cons_succ, List.set_cons_zero]
        refine wpAnyS_takeD 5 (some 28) (.int .i64 d.a) (by rfl) (by rfl) (by kernel_rfl) (by exact fun _ _ _ h => h) (by rfl) (fun w' hS => by (obtain ⟨_, x0, x1⟩ := hS; go_simp)) hHeld ?_
        simp only [Act.put, List.setIfInBounds_toArray, List.set_cons_succ, List.set_cons_zero]
        refine wpAnyS_takeD 7 (some 30) (.pointer (some ⟨p, 0, none⟩)) (by rfl) (by rfl) (by kernel_rfl) (by exact fun _ _ _ h => h) (by rfl) (fun w' hS => by go_simp) hHeld ?_
        simp only [Act.put, List.setIfInBounds_toArray, List.set_cons_succ, List.set_cons_zero]
        refine wpAnyS_takeD 8 (some 31) (.slice (some ⟨b, o, none⟩) L.length c) (by rfl) (by rfl) (by kernel_rfl) (by exact fun _ _ _ h => h) (by rfl) (fun w' hS => by go_simp) hHeld ?_
        simp only [Act.put, List.setIfInBounds_toArray, List.set_cons_succ, List.set_cons_zero]
        refine wpAnyS_takeD 9 (some 32) (.int .i64 k) (by rfl) (by rfl) (by kernel_rfl) (by exact fun _ _ _ h => h) (by rfl) (fun w' hS => by go_simp) hHeld ?_
        simp only [Act.put, List.setIfInBounds_toArray, List.set_cons_succ, List.set_cons_zero]
        refine wpAnyS_takeD 10 (some 33) (.pointer (some ⟨b, o + k * 5, none⟩)) (by rfl) (by rfl) (by kernel_rfl) (by exact fun _ _ _ h => h) (by rfl) (fun w' hS => by go_simp) hHeld ?_
        simp only [Act.put, List.setIfInBounds_toArray, List.set_cons_succ, List.set_cons_zero]
        refine wpAnyS_takeD 11 (some 34) (.pointer (some ⟨b, o + k * 5 + 4, none⟩)) (by rfl) (by rfl) (by kernel_rfl) (by exact fun _ _ _ h => h) (by rfl) (fun w' hS => by go_simp) hHeld ?_
        simp only [Act.put, List.setIfInBounds_toArray, List.set_cons_succ, List.set_cons_zero]
        refine wpAnyS_takeD 12 (some 35) (.int .i64 d.b) (by rfl) (by rfl) (by kernel_rfl) (by exact fun _ _ _ h => h) (by rfl) (fun w' hS => by (obtain ⟨_, x0, x1⟩ := hS; go_simp)) hHeld ?_
        simp only [Act.put, List.setIfInBounds_toArray, List.set_cons_succ, List.set_cons_zero]
        clear hHeld
        have b0 := Below.refl wa.heap.size wa
        refine wpAnyS_two 6 15 (by kernel_rfl) (by rfl) (by rfl) (by decide) (by decide) (fun K hK => ?_) (fun K hK => ?_)
        · have HK := Lib.hid hK; clear hK
          rw [if_pos (by rfl)]
          go_simp
          refine (HA.out wa hwa).mono ?_
          rintro e w5 ⟨rfl, hb5⟩
          refine HK.out _ _ (HSt.out _ hb5) ?_
          clear HK
          refine wpAnyS_two 13 15 (by kernel_rfl) (by rfl) (by rfl) (by decide) (by decide) (fun K hK => ?_) (fun K hK => ?_)
          · have HK := Lib.hid hK; clear hK
            rw [if_pos (by rfl)]
            go_simp
            refine (HB.out w5 (below_trans hwa hb5)).mono ?_
            rintro e w6 ⟨rfl, hb6⟩
            have b6 := below_trans hb5 hb6
            have hHeld := HSt.out _ b6
            refine HK.out _ _ (HSt.out _ b6) ?_
            clear HK
            refine wpAnyS_takeD 14 (some 37) (.agg #[.int .i64 ra, .int .i64 rc]) (by rfl) (by rfl) (by kernel_rfl) (by exact fun _ _ _ h => h) (by rfl) (fun w' hS => by go_simp) hHeld ?_
            simp only [Act.put, List.setIfInBounds_toArray, List.set_cons_succ, List.set_cons_zero]
            clear hHeld
            refine wpAnyS_one 15 (by kernel_rfl) (by rfl) (by decide) (fun K hK => ?_)
            have HK := Lib.hid hK; clear hK
            rw [if_pos (by rfl)]
            go_simp
            obtain ⟨w7, hw7⟩ : ∃ z, World.alloc w6 (.cells #[.int .i64 0, .int .i64 0] 87) = z := ⟨_, rfl⟩
            have sw7 : Below (w6).heap.size w6 w7 := by rw [← hw7]; exact (Below.refl _ _).alloc (Nat.le_refl _) _
            have b7 : Below wa.heap.size wa w7 := below_trans b6 sw7
            have k0 : (w7).heap[(w6).heap.size]? = some (.cells [.int .i64 0, .int .i64 0].toArray 87 (0, 0)) := by rw [← hw7]; exact heap_alloc_new _ _
            rw [hw7]
            refine HK.out _ _ (HSt.out _ b7) ?_
            clear HK hw7
            obtain ⟨⟨z0, z1⟩, f0, f1⟩ := cellsM k0
            have hk9 := heap_set2 k0 (x := .int .i64 ra) (y := .int .i64 rc)
            have hb9 := (b7).grown (setCells_grown ((w6).heap.size) [.int .i64 ra, .int .i64 rc] w7 0) (b7).size (fun j e => by cases e; exact b6.size)
            have Hk9 := Lib.hid hk9; have Hb9 := Lib.hid hb9
            clear hk9 hb9
            refine (show tailOf _ _ _ _ _ _ _ _ from ⟨by kernel_rfl, ?_⟩)
            simp only [List.drop_succ_cons, List.drop_zero]
            go_wp2_with fail
            go_meet
            exact ⟨_, rfl, Hk9.out, below_trans hba Hb9.out⟩
          · have HK := Lib.hid hK; clear hK
            rw [if_pos (by rfl)]
            go_simp
            obtain ⟨w6, hw6⟩ : ∃ z, World.alloc w5 (.cells #[.int .i64 0, .int .i64 0] 87) = z := ⟨_, rfl⟩
            have sw6 : Below (w5).heap.size w5 w6 := by rw [← hw6]; exact (Below.refl _ _).alloc (Nat.le_refl _) _
            have b6 : Below wa.heap.size wa w6 := below_trans hb5 sw6
            have k0 : (w6).heap[(w5).heap.size]? = some (.cells [.int .i64 0, .int .i64 0].toArray 87 (0, 0)) := by rw [← hw6]; exact heap_alloc_new _ _
            rw [hw6]
            refine HK.out _ _ (HSt.out _ b6) ?_
            clear HK hw6
            refine wpAnyS_one 13 (by kernel_rfl) (by rfl) (by decide) (fun K hK => ?_)
            have HK := Lib.hid hK; clear hK
            rw [if_pos (by rfl)]
            go_simp
            refine (HB.out w6 (below_trans hwa b6)).mono ?_
            rintro e w7 ⟨rfl, hb7⟩
            have b7 := below_trans b6 hb7
            have hHeld := HSt.out _ b7
            refine HK.out _ _ (HSt.out _ b7) ?_
            clear HK
            refine wpAnyS_takeD 14 (some 37) (.agg #[.int .i64 ra, .int .i64 rc]) (by rfl) (by rfl) (by kernel_rfl) (by exact fun _ _ _ h => h) (by rfl) (fun w' hS => by go_simp) hHeld ?_
            simp only [Act.put, List.setIfInBounds_toArray, List.set_cons_succ, List.set_cons_zero]
            clear hHeld
            have k1 := heap_below k0 hb7 (heap_lt k0)
            obtain ⟨⟨z0, z1⟩, f0, f1⟩ := cellsM k1
            have hk9 := heap_set2 k1 (x := .int .i64 ra) (y := .int .i64 rc)
            have hb9 := (b7).grown (setCells_grown ((w5).heap.size) [.int .i64 ra, .int .i64 rc] w7 0) (b7).size (fun j e => by cases e; exact hb5.size)
            have Hk9 := Lib.hid hk9; have Hb9 := Lib.hid hb9
            clear hk9 hb9
            refine (show tailOf _ _ _ _ _ _ _ _ from ⟨by kernel_rfl, ?_⟩)
            simp only [List.drop_succ_cons, List.drop_zero]
            go_wp2_with fail
            go_meet
            exact ⟨_, rfl, Hk9.out, below_trans hba Hb9.out⟩
        · have HK := Lib.hid hK; clear hK
          rw [if_pos (by rfl)]
          go_simp
          obtain ⟨w5, hw5⟩ : ∃ z, World.alloc wa (.cells #[.int .i64 0, .int .i64 0] 87) = z := ⟨_, rfl⟩
          have sw5 : Below (wa).heap.size wa w5 := by rw [← hw5]; exact (Below.refl _ _).alloc (Nat.le_refl _) _
          have b5 : Below wa.heap.size wa w5 := below_trans b0 sw5
          have k0 : (w5).heap[(wa).heap.size]? = some (.cells [.int .i64 0, .int .i64 0].toArray 87 (0, 0)) := by rw [← hw5]; exact heap_alloc_new _ _
          rw [hw5]
          refine HK.out _ _ (HSt.out _ b5) ?_
          clear HK hw5
          refine wpAnyS_one 6 (by kernel_rfl) (by rfl) (by decide) (fun K hK => ?_)
          have HK := Lib.hid hK; clear hK
          rw [if_pos (by rfl)]
          go_simp
          refine (HA.out w5 (below_trans hwa b5)).mono ?_
          rintro e w6 ⟨rfl, hb6⟩
          have b6 := below_trans b5 hb6
          refine HK.out _ _ (HSt.out _ b6) ?_
          clear HK
          refine wpAnyS_one 13 (by kernel_rfl) (by rfl) (by decide) (fun K hK => ?_)
          have HK := Lib.hid hK; clear hK
          rw [if_pos (by rfl)]
          go_simp
          refine (HB.out w6 (below_trans hwa b6)).mono ?_
          rintro e w7 ⟨rfl, hb7⟩
          have b7 := below_trans b6 hb7
          have hHeld := HSt.out _ b7
          refine HK.out _ _ (HSt.out _ b7) ?_
          clear HK
          refine wpAnyS_takeD 14 (some 37) (.agg #[.int .i64 ra, .int .i64 rc]) (by rfl) (by rfl) (by kernel_rfl) (by exact fun _ _ _ h => h) (by rfl) (fun w' hS => by go_simp) hHeld ?_
          simp only [Act.put, List.setIfInBounds_toArray, List.set_cons_succ, List.set_cons_zero]
          clear hHeld
          have k1 := heap_below (heap_below k0 hb6 (heap_lt k0)) hb7 (Nat.lt_of_lt_of_le (heap_lt k0) hb6.size)
          obtain ⟨⟨z0, z1⟩, f0, f1⟩ := cellsM k1
          have hk9 := heap_set2 k1 (x := .int .i64 ra) (y := .int .i64 rc)
          have hb9 := (b7).grown (setCells_grown ((wa).heap.size) [.int .i64 ra, .int .i64 rc] w7 0) (b7).size (fun j e => by cases e; exact (Nat.le_refl _))
          have Hk9 := Lib.hid hk9; have Hb9 := Lib.hid hb9
          clear hk9 hb9
          refine (show tailOf _ _ _ _ _ _ _ _ from ⟨by kernel_rfl, ?_⟩)
          simp only [List.drop_succ_cons, List.drop_zero]
          go_wp2_with fail
          go_meet
          exact ⟨_, rfl, Hk9.out, below_trans hba Hb9.out⟩
      case rest =>
        obtain ⟨g, rfl, hkg, hbc⟩ := hcut
        have Hkg := Lib.hid hkg
        obtain ⟨⟨p0, p1⟩, _⟩ := cellsM hkg
        clear hkg c0 c1 c2 c3 c4 HA HB
        by_cases h0a : ra = 0
        · have t2 : (ra == 0) = true := by simp [h0a]
          have HT : Hid (ClaL (rawT (nameK L 4) l (L.take (k + 1))) out) := by have := Hst2.out; rw [if_neg (fun h => h.1 h0a), List.append_nil] at this; show ClaL _ _; rw [this]; exact HC.out
          clear h0a
          go_wp2_with fail
          refine ⟨?rel, ?measure⟩
          case rel => exact ⟨k + 1, _, out, by omega, rfl, by go_num, HO.out.below hbc, HT, by omega, below_trans hb hbc⟩
          case measure => simp [intOf]; omega
        have t2 : (ra == 0) = false := by simp [h0a]
        by_cases h0c : rc = 0
        · have t3 : (rc == 0) = true := by simp [h0c]
          have HT : Hid (ClaL (rawT (nameK L 4) l (L.take (k + 1))) out) := by have := Hst2.out; rw [if_neg (fun h => h.2.1 h0c), List.append_nil] at this; show ClaL _ _; rw [this]; exact HC.out
          clear h0c
          go_wp2_with fail
          refine ⟨?rel, ?measure⟩
          case rel => exact ⟨k + 1, _, out, by omega, rfl, by go_num, HO.out.below hbc, HT, by omega, below_trans hb hbc⟩
          case measure => simp [intOf]; omega
        have t3 : (rc == 0) = false := by simp [h0c]
        by_cases hac : ra = rc
        · have t4 : (ra == rc) = true := by simp [hac]
          have HT : Hid (ClaL (rawT (nameK L 4) l (L.take (k + 1))) out) := by have := Hst2.out; rw [if_neg (fun h => h.2.2 hac), List.append_nil] at this; show ClaL _ _; rw [this]; exact HC.out
          clear hac
          go_wp2_with fail
          refine ⟨?rel, ?measure⟩
          case rel => exact ⟨k + 1, _, out, by omega, rfl, by go_num, HO.out.below hbc, HT, by omega, below_trans hb hbc⟩
          case measure => simp [intOf]; omega
        have t4 : (ra == rc) = false := by simp [hac]
        have HR : Hid (rawT (nameK L 4) l (L.take (k + 1)) = rawT (nameK L 4) l (L.take k) ++ [⟨ra, rc⟩]) := by have := Hst2.out; rw [if_pos ⟨h0a, h0c, hac⟩] at this; exact this
        have HOc := Lib.hid (HO.out.below hbc)
        clear h0a h0c hac
        have hahd := ahd_le (f := prM) (out := out) (m := prM ⟨ra, rc⟩)
        have HSo := Lib.hid (srtP_M HC.out.1)
        generalize hwo : wr = wo at *
        clear hwo wr
        rcases HO.out.cases with ⟨e8, h0⟩ | ⟨g8, cap8, e8, _, _, hcap8, hmx8⟩
        · subst h0
          obtain ⟨rfl, rfl⟩ : A8 = none ∧ c8 = 0 := by simpa using e8
          clear e8
          go_wp2_with fail
          go_loopw [7] (fun t wr => t = .int .i64 0 ∧ Below wc.heap.size wc wr) (fun t _ => 0)
          case atStart => exact ⟨rfl, Below.refl _ _⟩
          case round =>
            obtain ⟨rfl, hbj⟩ := hrel
            go_wp2_with fail
            refine wp_region_later (by kernel_rfl) (by kernel_rfl) ?_
            repeat (go_big_quiet_step (first | fail))
            refine wpQuiet_nil ?_
            intro _ hw'
            obtain ⟨xq, hw''⟩ := hw'
            subst hw''
            have hbd := xq.h
            generalize xq.to = wd at hbd ⊢
            go_wp2_with fail
            refine wp_region_later (by kernel_rfl) (by kernel_rfl) ?_
            repeat (go_big_quiet_step (first | fail))
            refine wpQuiet_nil ?_
            intro _ hw'
            obtain ⟨xq, hw''⟩ := hw'
            subst hw''
            have hbe := xq.h
            generalize xq.to = we at hbe ⊢
            have hce := below_trans hbj (below_trans hbd hbe)
            have u0 := cell_later hce p0; have u1 := cell_later hce p1
            have HOe := Lib.hid (HOc.out.below hce)
            have HTi : Hid (ClaL (rawT (nameK L 4) l (L.take (k + 1))) (([] : List Pair).take 0 ++ [⟨ra, rc⟩] ++ ([] : List Pair).drop 0)) := by
              show ClaL _ _
              rw [HR.out]
              exact claL_ins (j := 0) HC.out rfl (by simp)
            have hslT : ∀ ob, Sl (World.alloc we ob) 2 none (([] : List Pair).take 0).length ((([] : List Pair).take 0).flatMap encP) := fun ob => by
              exact Sl.nil _ _ _
            have HslT := Lib.hid hslT
            have hslD : Sl we 2 none (([] : List Pair).drop 0).length ((([] : List Pair).drop 0).flatMap encP) := by
              exact Sl.nil _ _ _
            have HslD := Lib.hid hslD
            clear hslT hslD
            have hjl := Lib.hid (show 0 = (([] : List Pair).take 0).length by simp)
            have hjd := Lib.hid (show 0 = (([] : List Pair).drop 0).length by simp)
            have hlt5 := Lib.hid (show (([] : List Pair).take 0).length ≤ 200 by simp)
            have hlt6 := Lib.hid (show (([] : List Pair).take 0 ++ [(⟨ra, rc⟩ : Pair)]).length + (([] : List Pair).drop 0).length ≤ 402 by simp)
            go_wp2_with (first
              | (at_builtin; refine wpList_append_sl rfl (.tmp 101) (.tmp 104) _ rfl iP _ 16 Tryz.underlying60 hiP hzP hkP hbP rfl (by decide) oneP rfl (own_empty (B := (we).heap.size) (heap_alloc_new _ _) (Nat.le_refl _)) _ _ _ (([] : List Pair).take 0) rfl hjl.out (HslT.out _) (by have := hlt5.out; simp only [List.length_nil]; omega) (by have := hlt5.out; simp only [List.length_nil]; omega) (by simp) ?_; intro v5 w5 ho5 hg5 _; rw [List.nil_append] at ho5; have hb5 : Below (we).heap.size we w5 := (((Below.refl (we).heap.size we).alloc (Nat.le_refl _) _).grown hg5 (by simp) (fun q e => by have e' : some (we).heap.size = some q := e; cases e'; exact Nat.le_refl _)); obtain ⟨A5, c5, e5, _⟩ := id ho5.slOf; obtain ⟨n5, hn5⟩ : ∃ z, (([] : List Pair).take 0).length = z := ⟨_, rfl⟩; rw [hn5] at e5; have Ho5 := Lib.hid ho5; clear ho5 hg5 hn5; subst e5; replace u0 := cell_later hb5 u0; replace u1 := cell_later hb5 u1; have hz5 := hb5.size)
              | (at_builtin; refine wpList_append1 (enc := encP) (size := 2) (B := (we).heap.size) rfl (.tmp 106) (.tmp 108) _ rfl 87 iP _ 16 Tryz.underlying60 hiP hzP hkP hbP rfl (by decide) rfl Ho5.out (⟨ra, rc⟩ : Pair) _ rfl lenP oneP _ rfl rfl (by have := hlt5.out; omega) (by have := hlt5.out; omega) hz5 ?_; intro v6 w6 ho6 hg6 _; have hb6 := hb5.grown hg6 hz5 (fun q e => (Ho5.out.lt q e).1); obtain ⟨A6, c6, e6, _⟩ := id ho6.slOf; obtain ⟨n6, hn6⟩ : ∃ z, (([] : List Pair).take 0 ++ [(⟨ra, rc⟩ : Pair)]).length = z := ⟨_, rfl⟩; rw [hn6] at e6; have Ho6 := Lib.hid ho6; clear ho6 hg6 hn6; subst e6; have HslD6 := Lib.hid (HslD.out.below hb6); have hz6 := hb6.size)
              | (at_builtin; refine wpList_append_sl rfl (.tmp 110) (.tmp 113) _ rfl iP _ 16 Tryz.underlying60 hiP hzP hkP hbP rfl (by decide) oneP rfl Ho6.out _ _ _ (([] : List Pair).drop 0) rfl hjd.out HslD6.out (by have := hlt6.out; omega) (by have := hlt6.out; omega) hz6 ?_; intro v7 w7 ho7 hg7 _; have hb7 := hb6.grown hg7 hz6 (fun q e => (Ho6.out.lt q e).1); obtain ⟨A7, c7, e7, _⟩ := id ho7.slOf; obtain ⟨n7, hn7⟩ : ∃ z, (([] : List Pair).take 0 ++ [(⟨ra, rc⟩ : Pair)] ++ ([] : List Pair).drop 0).length = z := ⟨_, rfl⟩; rw [hn7] at e7; have Ho7 := Lib.hid ho7; have Hn7 := Lib.hid hn7; clear ho7 hg7 hn7; subst e7))
            refine ⟨?rel, ?measure⟩
            case rel =>
              refine ⟨k + 1, _, ([] : List Pair).take 0 ++ [⟨ra, rc⟩] ++ ([] : List Pair).drop 0, by omega, rfl, by go_num, Ho7.out.base ?_, HTi, by simp, below_trans (below_trans hb hbc) (below_trans hce hb7)⟩
              have h1 := hb.size; have h2 := hbc.size; have h3 := (hce).size
              omega
            case measure => simp [intOf]; omega
        · obtain ⟨rfl, rfl⟩ : A8 = some ⟨g8, 0, none⟩ ∧ c8 = cap8 := by simpa using e8
          clear e8
          have hmx8' : (c8 : Int) ≤ 9223372036854775807 := by simp only [maxLen] at hmx8; omega
          obtain ⟨_, _, e0, _, _, hclo⟩ := (show Pairs wc _ out from HOc.out.slOf).cells
          cases e0
          have HClo := Lib.hid hclo
          clear hclo
          go_wp2_with fail
          go_loopw [7] (fun t wr => ∃ j : Nat, t = .int .i64 j ∧ j ≤ ahd prM out (prM ⟨ra, rc⟩) ∧ Below wc.heap.size wc wr) (fun t _ => out.length - (intOf t).toNat)
          case atStart => exact ⟨0, rfl, Nat.zero_le _, Below.refl _ _⟩
          case round =>
            obtain ⟨j, rfl, hj, hbj⟩ := hrel
            have q0 := cell_later hbj p0; have q1 := cell_later hbj p1
            by_cases hjl : j < out.length
            · obtain ⟨o', ho⟩ := get_of_lt hjl
              have hst := ahd_step (f := prM) (m := prM ⟨ra, rc⟩) HSo.out ho
              obtain ⟨_, _, e0, _, hcx⟩ := HClo.out _ hjl
              cases e0
              have Hcx := Lib.hid hcx
              obtain ⟨x0, x1⟩ := hcx wr hbj j o' ho
              simp only [Nat.zero_add] at x0 x1
              have X0 := Later.cell_all x0; have X1 := Later.cell_all x1; have Q0 := Later.cell_all q0; have Q1 := Later.cell_all q1
              have Ho := Lib.hid ho; have Hst := Lib.hid (show (o'.a < ra ∨ (o'.a = ra ∧ o'.b < rc)) ↔ j < ahd prM out (prM ⟨ra, rc⟩) from hst)
              have d0 : decide ((j : Int) < (out.length : Int)) = true := by simp; omega
              have hj1 : (j : Int) < (out.length : Int) := by omega
              clear hcx hst ho x0 x1 q0 q1
              by_cases l1 : o'.a < ra
              · have v1 : decide (o'.a < ra) = true := by simpa using l1
                have HJ := Lib.hid (Hst.out.1 (.inl l1))
                clear l1
                go_wp2_with fail
                refine wp_region_later (by kernel_rfl) (by kernel_rfl) ?_
                repeat (go_big_quiet_step (first | fail))
                refine wpQuiet_nil ?_
                intro _ hw'
                obtain ⟨xq, hw''⟩ := hw'
                subst hw''
                have hbd := xq.h
                generalize xq.to = wd at hbd ⊢
                clear X0 X1 Q0 Q1
                go_wp2_with fail
                refine ⟨?rel, ?measure⟩
                case rel => exact ⟨j + 1, by go_num, (by have := HJ.out; omega), below_trans hbj hbd⟩
                case measure => simp [intOf]; omega
              have v1 : decide (o'.a < ra) = false := by simpa using l1
              by_cases l2 : o'.a = ra
              · have v2 : (o'.a == ra) = true := by simp [l2]
                by_cases l3 : o'.b < rc
                · have v3 : decide (o'.b < rc) = true := by simpa using l3
                  have HJ := Lib.hid (Hst.out.1 (.inr ⟨l2, l3⟩))
                  clear l1 l2 l3
                  go_wp2_with fail
                  refine wp_region_later (by kernel_rfl) (by kernel_rfl) ?_
                  repeat (go_big_quiet_step (first | fail))
                  refine wpQuiet_nil ?_
                  intro _ hw'
                  obtain ⟨xq, hw''⟩ := hw'
                  subst hw''
                  have hbd := xq.h
                  generalize xq.to = wd at hbd ⊢
                  clear X0 X1 Q0 Q1
                  go_wp2_with fail
                  refine ⟨?rel, ?measure⟩
                  case rel => exact ⟨j + 1, by go_num, (by have := HJ.out; omega), below_trans hbj hbd⟩
                  case measure => simp [intOf]; omega
                · have v3 : decide (o'.b < rc) = false := by simpa using l3
                  have hnj : ¬ j < ahd prM out (prM ⟨ra, rc⟩) := fun h => by have := Hst.out.2 h; omega
                  clear l1 l2 l3
                  go_wp2_with fail
                  refine wp_region_later (by kernel_rfl) (by kernel_rfl) ?_
                  repeat (go_big_quiet_step (first | fail))
                  refine wpQuiet_nil ?_
                  intro _ hw'
                  obtain ⟨xq, hw''⟩ := hw'
                  subst hw''
                  have hbd := xq.h
                  generalize xq.to = wd at hbd ⊢
                  clear X0 X1 Q0 Q1
                  have hcd := below_trans hbj hbd
                  obtain ⟨x0, x1⟩ := Hcx.out wd hcd j o' Ho.out
                  simp only [Nat.zero_add] at x0 x1
                  have q0 := cell_later hcd p0; have q1 := cell_later hcd p1
                  have X0 := Later.cell_all x0; have X1 := Later.cell_all x1; have Q0 := Later.cell_all q0; have Q1 := Later.cell_all q1
                  have qeo := qe o' ⟨ra, rc⟩
                  clear x0 x1 q0 q1
                  have hje : j = ahd prM out (prM ⟨ra, rc⟩) := by omega
                  by_cases hop : o' = ⟨ra, rc⟩
                  · have te : eqB o' (⟨ra, rc⟩ : Pair) = true := eqB_yes hop
                    have HT : Hid (ClaL (rawT (nameK L 4) l (L.take (k + 1))) out) := by
                      show ClaL _ _
                      rw [HR.out]
                      exact claL_skip HC.out (by rw [← hop]; exact List.mem_of_getElem? Ho.out)
                    clear hop hje
                    go_wp2_with fail
                    refine wp_region_later (by kernel_rfl) (by kernel_rfl) ?_
                    repeat (go_big_quiet_step (first | fail))
                    refine wpQuiet_nil ?_
                    intro _ hw'
                    obtain ⟨xq, hw''⟩ := hw'
                    subst hw''
                    have hbe := xq.h
                    generalize xq.to = we at hbe ⊢
                    clear X0 X1 Q0 Q1
                    go_wp2_with fail
                    refine ⟨?rel, ?measure⟩
                    case rel => exact ⟨k + 1, _, out, by omega, rfl, by go_num, HOc.out.below (below_trans hcd hbe), HT, by omega, below_trans (below_trans hb hbc) (below_trans hcd hbe)⟩
                    case measure => simp [intOf]; omega
                  · have te : eqB o' (⟨ra, rc⟩ : Pair) = false := eqB_no hop
                    have HTi : Hid (ClaL (rawT (nameK L 4) l (L.take (k + 1))) (out.take j ++ [⟨ra, rc⟩] ++ out.drop j)) := by
                      show ClaL _ _
                      rw [HR.out]
                      exact claL_ins HC.out hje (claL_at HC.out fun o hh => by rw [← hje, Ho.out] at hh; cases hh; exact hop)
                    clear hop hje
                    go_wp2_with fail
                    refine wp_region_later (by kernel_rfl) (by kernel_rfl) ?_
                    repeat (go_big_quiet_step (first | fail))
                    refine wpQuiet_nil ?_
                    intro _ hw'
                    obtain ⟨xq, hw''⟩ := hw'
                    subst hw''
                    have hbe := xq.h
                    generalize xq.to = we at hbe ⊢
                    clear X0 X1 Q0 Q1
                    have hce := below_trans hcd hbe
                    have u0 := cell_later hce p0; have u1 := cell_later hce p1
                    have HOe := Lib.hid (HOc.out.below hce)
                    have hcj : ¬ c8 = j := by omega
                    have hslT : ∀ ob, Sl (World.alloc we ob) 2 (some ⟨g8, 0, none⟩) (out.take j).length ((out.take j).flatMap encP) := fun ob => by
                      rw [flat_take encP 2 lenP, List.length_take, Nat.min_eq_left (by omega)]
                      exact Sl.below ((SlOf.sl' HOe.out.slOf).take (by omega)) ((Below.refl _ _).alloc (Nat.le_refl _) _)
                    have HslT := Lib.hid hslT
                    have hslD : Sl we 2 (some ⟨g8, j * 2, none⟩) (out.drop j).length ((out.drop j).flatMap encP) := by
                      (rw [flat_drop encP 2 lenP, List.length_drop]; have := (SlOf.sl' HOe.out.slOf).drop (m := j) (by omega); simpa using this)
                    have HslD := Lib.hid hslD
                    clear hslT hslD
                    have hj3 : (j : Int) ≤ (out.length : Int) := by omega
                    have hj5 : (j : Int) ≤ (c8 : Int) := by omega
                    have hjl := Lib.hid (show j = (out.take j).length by simp; omega)
                    have hjd := Lib.hid (show out.length - j = (out.drop j).length by simp)
                    have hlt5 := Lib.hid (show (out.take j).length ≤ 200 by simp; omega)
                    have hlt6 := Lib.hid (show (out.take j ++ [(⟨ra, rc⟩ : Pair)]).length + (out.drop j).length ≤ 402 by simp; omega)
                    go_wp2_with (first
                      | (at_builtin; refine wpList_append_sl rfl (.tmp 101) (.tmp 104) _ rfl iP _ 16 Tryz.underlying60 hiP hzP hkP hbP rfl (by decide) oneP rfl (own_empty (B := (we).heap.size) (heap_alloc_new _ _) (Nat.le_refl _)) _ _ _ (out.take j) rfl hjl.out (HslT.out _) (by have := hlt5.out; simp only [List.length_nil]; omega) (by have := hlt5.out; simp only [List.length_nil]; omega) (by simp) ?_; intro v5 w5 ho5 hg5 _; rw [List.nil_append] at ho5; have hb5 : Below (we).heap.size we w5 := (((Below.refl (we).heap.size we).alloc (Nat.le_refl _) _).grown hg5 (by simp) (fun q e => by have e' : some (we).heap.size = some q := e; cases e'; exact Nat.le_refl _)); obtain ⟨A5, c5, e5, _⟩ := id ho5.slOf; obtain ⟨n5, hn5⟩ : ∃ z, (out.take j).length = z := ⟨_, rfl⟩; rw [hn5] at e5; have Ho5 := Lib.hid ho5; clear ho5 hg5 hn5; subst e5; replace u0 := cell_later hb5 u0; replace u1 := cell_later hb5 u1; have hz5 := hb5.size)
                      | (at_builtin; refine wpList_append1 (enc := encP) (size := 2) (B := (we).heap.size) rfl (.tmp 106) (.tmp 108) _ rfl 87 iP _ 16 Tryz.underlying60 hiP hzP hkP hbP rfl (by decide) rfl Ho5.out (⟨ra, rc⟩ : Pair) _ rfl lenP oneP _ rfl rfl (by have := hlt5.out; omega) (by have := hlt5.out; omega) hz5 ?_; intro v6 w6 ho6 hg6 _; have hb6 := hb5.grown hg6 hz5 (fun q e => (Ho5.out.lt q e).1); obtain ⟨A6, c6, e6, _⟩ := id ho6.slOf; obtain ⟨n6, hn6⟩ : ∃ z, (out.take j ++ [(⟨ra, rc⟩ : Pair)]).length = z := ⟨_, rfl⟩; rw [hn6] at e6; have Ho6 := Lib.hid ho6; clear ho6 hg6 hn6; subst e6; have HslD6 := Lib.hid (HslD.out.below hb6); have hz6 := hb6.size)
                      | (at_builtin; refine wpList_append_sl rfl (.tmp 110) (.tmp 113) _ rfl iP _ 16 Tryz.underlying60 hiP hzP hkP hbP rfl (by decide) oneP rfl Ho6.out _ _ _ (out.drop j) rfl hjd.out HslD6.out (by have := hlt6.out; omega) (by have := hlt6.out; omega) hz6 ?_; intro v7 w7 ho7 hg7 _; have hb7 := hb6.grown hg7 hz6 (fun q e => (Ho6.out.lt q e).1); obtain ⟨A7, c7, e7, _⟩ := id ho7.slOf; obtain ⟨n7, hn7⟩ : ∃ z, (out.take j ++ [(⟨ra, rc⟩ : Pair)] ++ out.drop j).length = z := ⟨_, rfl⟩; rw [hn7] at e7; have Ho7 := Lib.hid ho7; have Hn7 := Lib.hid hn7; clear ho7 hg7 hn7; subst e7))
                    refine ⟨?rel, ?measure⟩
                    case rel =>
                      refine ⟨k + 1, _, out.take j ++ [⟨ra, rc⟩] ++ out.drop j, by omega, rfl, by go_num, Ho7.out.base ?_, HTi, by first | (simp; omega) | (simp; done), below_trans (below_trans hb hbc) (below_trans hce hb7)⟩
                      have h1 := hb.size; have h2 := hbc.size; have h3 := (hce).size
                      omega
                    case measure => simp [intOf]; omega
              · have v2 : (o'.a == ra) = false := by simp [l2]
                have hnj : ¬ j < ahd prM out (prM ⟨ra, rc⟩) := fun h => by have := Hst.out.2 h; omega
                clear l1 l2
                go_wp2_with fail
                refine wp_region_later (by kernel_rfl) (by kernel_rfl) ?_
                repeat (go_big_quiet_step (first | fail))
                refine wpQuiet_nil ?_
                intro _ hw'
                obtain ⟨xq, hw''⟩ := hw'
                subst hw''
                have hbd := xq.h
                generalize xq.to = wd at hbd ⊢
                clear X0 X1 Q0 Q1
                have hcd := below_trans hbj hbd
                obtain ⟨x0, x1⟩ := Hcx.out wd hcd j o' Ho.out
                simp only [Nat.zero_add] at x0 x1
                have q0 := cell_later hcd p0; have q1 := cell_later hcd p1
                have X0 := Later.cell_all x0; have X1 := Later.cell_all x1; have Q0 := Later.cell_all q0; have Q1 := Later.cell_all q1
                have qeo := qe o' ⟨ra, rc⟩
                clear x0 x1 q0 q1
                have hje : j = ahd prM out (prM ⟨ra, rc⟩) := by omega
                by_cases hop : o' = ⟨ra, rc⟩
                · have te : eqB o' (⟨ra, rc⟩ : Pair) = true := eqB_yes hop
                  have HT : Hid (ClaL (rawT (nameK L 4) l (L.take (k + 1))) out) := by
                    show ClaL _ _
                    rw [HR.out]
                    exact claL_skip HC.out (by rw [← hop]; exact List.mem_of_getElem? Ho.out)
                  clear hop hje
                  go_wp2_with fail
                  refine wp_region_later (by kernel_rfl) (by kernel_rfl) ?_
                  repeat (go_big_quiet_step (first | fail))
                  refine wpQuiet_nil ?_
                  intro _ hw'
                  obtain ⟨xq, hw''⟩ := hw'
                  subst hw''
                  have hbe := xq.h
                  generalize xq.to = we at hbe ⊢
                  clear X0 X1 Q0 Q1
                  go_wp2_with fail
                  refine ⟨?rel, ?measure⟩
                  case rel => exact ⟨k + 1, _, out, by omega, rfl, by go_num, HOc.out.below (below_trans hcd hbe), HT, by omega, below_trans (below_trans hb hbc) (below_trans hcd hbe)⟩
                  case measure => simp [intOf]; omega
                · have te : eqB o' (⟨ra, rc⟩ : Pair) = false := eqB_no hop
                  have HTi : Hid (ClaL (rawT (nameK L 4) l (L.take (k + 1))) (out.take j ++ [⟨ra, rc⟩] ++ out.drop j)) := by
                    show ClaL _ _
                    rw [HR.out]
                    exact claL_ins HC.out hje (claL_at HC.out fun o hh => by rw [← hje, Ho.out] at hh; cases hh; exact hop)
                  clear hop hje
                  go_wp2_with fail
                  refine wp_region_later (by kernel_rfl) (by kernel_rfl) ?_
                  repeat (go_big_quiet_step (first | fail))
                  refine wpQuiet_nil ?_
                  intro _ hw'
                  obtain ⟨xq, hw''⟩ := hw'
                  subst hw''
                  have hbe := xq.h
                  generalize xq.to = we at hbe ⊢
                  clear X0 X1 Q0 Q1
                  have hce := below_trans hcd hbe
                  have u0 := cell_later hce p0; have u1 := cell_later hce p1
                  have HOe := Lib.hid (HOc.out.below hce)
                  have hcj : ¬ c8 = j := by omega
                  have hslT : ∀ ob, Sl (World.alloc we ob) 2 (some ⟨g8, 0, none⟩) (out.take j).length ((out.take j).flatMap encP) := fun ob => by
                    rw [flat_take encP 2 lenP, List.length_take, Nat.min_eq_left (by omega)]
                    exact Sl.below ((SlOf.sl' HOe.out.slOf).take (by omega)) ((Below.refl _ _).alloc (Nat.le_refl _) _)
                  have HslT := Lib.hid hslT
                  have hslD : Sl we 2 (some ⟨g8, j * 2, none⟩) (out.drop j).length ((out.drop j).flatMap encP) := by
                    (rw [flat_drop encP 2 lenP, List.length_drop]; have := (SlOf.sl' HOe.out.slOf).drop (m := j) (by omega); simpa using this)
                  have HslD := Lib.hid hslD
                  clear hslT hslD
                  have hj3 : (j : Int) ≤ (out.length : Int) := by omega
                  have hj5 : (j : Int) ≤ (c8 : Int) := by omega
                  have hjl := Lib.hid (show j = (out.take j).length by simp; omega)
                  have hjd := Lib.hid (show out.length - j = (out.drop j).length by simp)
                  have hlt5 := Lib.hid (show (out.take j).length ≤ 200 by simp; omega)
                  have hlt6 := Lib.hid (show (out.take j ++ [(⟨ra, rc⟩ : Pair)]).length + (out.drop j).length ≤ 402 by simp; omega)
                  go_wp2_with (first
                    | (at_builtin; refine wpList_append_sl rfl (.tmp 101) (.tmp 104) _ rfl iP _ 16 Tryz.underlying60 hiP hzP hkP hbP rfl (by decide) oneP rfl (own_empty (B := (we).heap.size) (heap_alloc_new _ _) (Nat.le_refl _)) _ _ _ (out.take j) rfl hjl.out (HslT.out _) (by have := hlt5.out; simp only [List.length_nil]; omega) (by have := hlt5.out; simp only [List.length_nil]; omega) (by simp) ?_; intro v5 w5 ho5 hg5 _; rw [List.nil_append] at ho5; have hb5 : Below (we).heap.size we w5 := (((Below.refl (we).heap.size we).alloc (Nat.le_refl _) _).grown hg5 (by simp) (fun q e => by have e' : some (we).heap.size = some q := e; cases e'; exact Nat.le_refl _)); obtain ⟨A5, c5, e5, _⟩ := id ho5.slOf; obtain ⟨n5, hn5⟩ : ∃ z, (out.take j).length = z := ⟨_, rfl⟩; rw [hn5] at e5; have Ho5 := Lib.hid ho5; clear ho5 hg5 hn5; subst e5; replace u0 := cell_later hb5 u0; replace u1 := cell_later hb5 u1; have hz5 := hb5.size)
                    | (at_builtin; refine wpList_append1 (enc := encP) (size := 2) (B := (we).heap.size) rfl (.tmp 106) (.tmp 108) _ rfl 87 iP _ 16 Tryz.underlying60 hiP hzP hkP hbP rfl (by decide) rfl Ho5.out (⟨ra, rc⟩ : Pair) _ rfl lenP oneP _ rfl rfl (by have := hlt5.out; omega) (by have := hlt5.out; omega) hz5 ?_; intro v6 w6 ho6 hg6 _; have hb6 := hb5.grown hg6 hz5 (fun q e => (Ho5.out.lt q e).1); obtain ⟨A6, c6, e6, _⟩ := id ho6.slOf; obtain ⟨n6, hn6⟩ : ∃ z, (out.take j ++ [(⟨ra, rc⟩ : Pair)]).length = z := ⟨_, rfl⟩; rw [hn6] at e6; have Ho6 := Lib.hid ho6; clear ho6 hg6 hn6; subst e6; have HslD6 := Lib.hid (HslD.out.below hb6); have hz6 := hb6.size)
                    | (at_builtin; refine wpList_append_sl rfl (.tmp 110) (.tmp 113) _ rfl iP _ 16 Tryz.underlying60 hiP hzP hkP hbP rfl (by decide) oneP rfl Ho6.out _ _ _ (out.drop j) rfl hjd.out HslD6.out (by have := hlt6.out; omega) (by have := hlt6.out; omega) hz6 ?_; intro v7 w7 ho7 hg7 _; have hb7 := hb6.grown hg7 hz6 (fun q e => (Ho6.out.lt q e).1); obtain ⟨A7, c7, e7, _⟩ := id ho7.slOf; obtain ⟨n7, hn7⟩ : ∃ z, (out.take j ++ [(⟨ra, rc⟩ : Pair)] ++ out.drop j).length = z := ⟨_, rfl⟩; rw [hn7] at e7; have Ho7 := Lib.hid ho7; have Hn7 := Lib.hid hn7; clear ho7 hg7 hn7; subst e7))
                  refine ⟨?rel, ?measure⟩
                  case rel =>
                    refine ⟨k + 1, _, out.take j ++ [⟨ra, rc⟩] ++ out.drop j, by omega, rfl, by go_num, Ho7.out.base ?_, HTi, by first | (simp; omega) | (simp; done), below_trans (below_trans hb hbc) (below_trans hce hb7)⟩
                    have h1 := hb.size; have h2 := hbc.size; have h3 := (hce).size
                    omega
                  case measure => simp [intOf]; omega
            · have hje : j = ahd prM out (prM ⟨ra, rc⟩) := by omega
              have d0 : decide ((j : Int) < (out.length : Int)) = false := by simp; omega
              have HTi : Hid (ClaL (rawT (nameK L 4) l (L.take (k + 1))) (out.take j ++ [⟨ra, rc⟩] ++ out.drop j)) := by
                show ClaL _ _
                rw [HR.out]
                exact claL_ins HC.out hje (claL_at HC.out fun o hh => by rw [← hje] at hh; have := lt_of_get hh; omega)
              have hjx := Lib.hid (show j = out.length by omega)
              clear hje
              go_wp2_with fail
              refine wp_region_later (by kernel_rfl) (by kernel_rfl) ?_
              repeat (go_big_quiet_step (first | fail))
              refine wpQuiet_nil ?_
              intro _ hw'
              obtain ⟨xq, hw''⟩ := hw'
              subst hw''
              have hbd := xq.h
              generalize xq.to = wd at hbd ⊢
              go_wp2_with fail
              refine wp_region_later (by kernel_rfl) (by kernel_rfl) ?_
              repeat (go_big_quiet_step (first | fail))
              refine wpQuiet_nil ?_
              intro _ hw'
              obtain ⟨xq, hw''⟩ := hw'
              subst hw''
              have hbe := xq.h
              generalize xq.to = we at hbe ⊢
              have hce := below_trans hbj (below_trans hbd hbe)
              have u0 := cell_later hce p0; have u1 := cell_later hce p1
              have HOe := Lib.hid (HOc.out.below hce)
              by_cases hcj : c8 = j
              · have Hcj := Lib.hid hcj
                have hslT : ∀ ob, Sl (World.alloc we ob) 2 (some ⟨g8, 0, none⟩) (out.take j).length ((out.take j).flatMap encP) := fun ob => by
                  rw [flat_take encP 2 lenP, List.length_take, Nat.min_eq_left (by omega)]
                  exact Sl.below ((SlOf.sl' HOe.out.slOf).take (by omega)) ((Below.refl _ _).alloc (Nat.le_refl _) _)
                have HslT := Lib.hid hslT
                have hslD : Sl we 2 (some ⟨g8, 0, none⟩) (out.drop j).length ((out.drop j).flatMap encP) := by
                  (rw [List.drop_eq_nil_of_le (by have := hjx.out; omega)]; exact Sl.nil _ _ _)
                have HslD := Lib.hid hslD
                clear hslT hslD
                have hj3 : (j : Int) ≤ (out.length : Int) := by omega
                have hj5 : (j : Int) ≤ (c8 : Int) := by omega
                have hjl := Lib.hid (show j = (out.take j).length by simp; omega)
                have hjd := Lib.hid (show out.length - j = (out.drop j).length by simp)
                have hlt5 := Lib.hid (show (out.take j).length ≤ 200 by simp; omega)
                have hlt6 := Lib.hid (show (out.take j ++ [(⟨ra, rc⟩ : Pair)]).length + (out.drop j).length ≤ 402 by simp; omega)
                go_wp2_with (first
                  | (at_builtin; refine wpList_append_sl rfl (.tmp 101) (.tmp 104) _ rfl iP _ 16 Tryz.underlying60 hiP hzP hkP hbP rfl (by decide) oneP rfl (own_empty (B := (we).heap.size) (heap_alloc_new _ _) (Nat.le_refl _)) _ _ _ (out.take j) rfl hjl.out (HslT.out _) (by have := hlt5.out; simp only [List.length_nil]; omega) (by have := hlt5.out; simp only [List.length_nil]; omega) (by simp) ?_; intro v5 w5 ho5 hg5 _; rw [List.nil_append] at ho5; have hb5 : Below (we).heap.size we w5 := (((Below.refl (we).heap.size we).alloc (Nat.le_refl _) _).grown hg5 (by simp) (fun q e => by have e' : some (we).heap.size = some q := e; cases e'; exact Nat.le_refl _)); obtain ⟨A5, c5, e5, _⟩ := id ho5.slOf; obtain ⟨n5, hn5⟩ : ∃ z, (out.take j).length = z := ⟨_, rfl⟩; rw [hn5] at e5; have Ho5 := Lib.hid ho5; clear ho5 hg5 hn5; subst e5; replace u0 := cell_later hb5 u0; replace u1 := cell_later hb5 u1; have hz5 := hb5.size)
                  | (at_builtin; refine wpList_append1 (enc := encP) (size := 2) (B := (we).heap.size) rfl (.tmp 106) (.tmp 108) _ rfl 87 iP _ 16 Tryz.underlying60 hiP hzP hkP hbP rfl (by decide) rfl Ho5.out (⟨ra, rc⟩ : Pair) _ rfl lenP oneP _ rfl rfl (by have := hlt5.out; omega) (by have := hlt5.out; omega) hz5 ?_; intro v6 w6 ho6 hg6 _; have hb6 := hb5.grown hg6 hz5 (fun q e => (Ho5.out.lt q e).1); obtain ⟨A6, c6, e6, _⟩ := id ho6.slOf; obtain ⟨n6, hn6⟩ : ∃ z, (out.take j ++ [(⟨ra, rc⟩ : Pair)]).length = z := ⟨_, rfl⟩; rw [hn6] at e6; have Ho6 := Lib.hid ho6; clear ho6 hg6 hn6; subst e6; have HslD6 := Lib.hid (HslD.out.below hb6); have hz6 := hb6.size)
                  | (at_builtin; refine wpList_append_sl rfl (.tmp 110) (.tmp 113) _ rfl iP _ 16 Tryz.underlying60 hiP hzP hkP hbP rfl (by decide) oneP rfl Ho6.out _ _ _ (out.drop j) rfl hjd.out HslD6.out (by have := hlt6.out; omega) (by have := hlt6.out; omega) hz6 ?_; intro v7 w7 ho7 hg7 _; have hb7 := hb6.grown hg7 hz6 (fun q e => (Ho6.out.lt q e).1); obtain ⟨A7, c7, e7, _⟩ := id ho7.slOf; obtain ⟨n7, hn7⟩ : ∃ z, (out.take j ++ [(⟨ra, rc⟩ : Pair)] ++ out.drop j).length = z := ⟨_, rfl⟩; rw [hn7] at e7; have Ho7 := Lib.hid ho7; have Hn7 := Lib.hid hn7; clear ho7 hg7 hn7; subst e7))
                refine ⟨?rel, ?measure⟩
                case rel =>
                  refine ⟨k + 1, _, out.take j ++ [⟨ra, rc⟩] ++ out.drop j, by omega, rfl, by go_num, Ho7.out.base ?_, HTi, by first | (simp; omega) | (simp; done), below_trans (below_trans hb hbc) (below_trans hce hb7)⟩
                  have h1 := hb.size; have h2 := hbc.size; have h3 := (hce).size
                  omega
                case measure => simp [intOf]; omega
              · have hslT : ∀ ob, Sl (World.alloc we ob) 2 (some ⟨g8, 0, none⟩) (out.take j).length ((out.take j).flatMap encP) := fun ob => by
                  rw [flat_take encP 2 lenP, List.length_take, Nat.min_eq_left (by omega)]
                  exact Sl.below ((SlOf.sl' HOe.out.slOf).take (by omega)) ((Below.refl _ _).alloc (Nat.le_refl _) _)
                have HslT := Lib.hid hslT
                have hslD : Sl we 2 (some ⟨g8, j * 2, none⟩) (out.drop j).length ((out.drop j).flatMap encP) := by
                  (rw [List.drop_eq_nil_of_le (by have := hjx.out; omega)]; exact Sl.nil _ _ _)
                have HslD := Lib.hid hslD
                clear hslT hslD
                have hj3 : (j : Int) ≤ (out.length : Int) := by omega
                have hj5 : (j : Int) ≤ (c8 : Int) := by omega
                have hjl := Lib.hid (show j = (out.take j).length by simp; omega)
                have hjd := Lib.hid (show out.length - j = (out.drop j).length by simp)
                have hlt5 := Lib.hid (show (out.take j).length ≤ 200 by simp; omega)
                have hlt6 := Lib.hid (show (out.take j ++ [(⟨ra, rc⟩ : Pair)]).length + (out.drop j).length ≤ 402 by simp; omega)
                go_wp2_with (first
                  | (at_builtin; refine wpList_append_sl rfl (.tmp 101) (.tmp 104) _ rfl iP _ 16 Tryz.underlying60 hiP hzP hkP hbP rfl (by decide) oneP rfl (own_empty (B := (we).heap.size) (heap_alloc_new _ _) (Nat.le_refl _)) _ _ _ (out.take j) rfl hjl.out (HslT.out _) (by have := hlt5.out; simp only [List.length_nil]; omega) (by have := hlt5.out; simp only [List.length_nil]; omega) (by simp) ?_; intro v5 w5 ho5 hg5 _; rw [List.nil_append] at ho5; have hb5 : Below (we).heap.size we w5 := (((Below.refl (we).heap.size we).alloc (Nat.le_refl _) _).grown hg5 (by simp) (fun q e => by have e' : some (we).heap.size = some q := e; cases e'; exact Nat.le_refl _)); obtain ⟨A5, c5, e5, _⟩ := id ho5.slOf; obtain ⟨n5, hn5⟩ : ∃ z, (out.take j).length = z := ⟨_, rfl⟩; rw [hn5] at e5; have Ho5 := Lib.hid ho5; clear ho5 hg5 hn5; subst e5; replace u0 := cell_later hb5 u0; replace u1 := cell_later hb5 u1; have hz5 := hb5.size)
                  | (at_builtin; refine wpList_append1 (enc := encP) (size := 2) (B := (we).heap.size) rfl (.tmp 106) (.tmp 108) _ rfl 87 iP _ 16 Tryz.underlying60 hiP hzP hkP hbP rfl (by decide) rfl Ho5.out (⟨ra, rc⟩ : Pair) _ rfl lenP oneP _ rfl rfl (by have := hlt5.out; omega) (by have := hlt5.out; omega) hz5 ?_; intro v6 w6 ho6 hg6 _; have hb6 := hb5.grown hg6 hz5 (fun q e => (Ho5.out.lt q e).1); obtain ⟨A6, c6, e6, _⟩ := id ho6.slOf; obtain ⟨n6, hn6⟩ : ∃ z, (out.take j ++ [(⟨ra, rc⟩ : Pair)]).length = z := ⟨_, rfl⟩; rw [hn6] at e6; have Ho6 := Lib.hid ho6; clear ho6 hg6 hn6; subst e6; have HslD6 := Lib.hid (HslD.out.below hb6); have hz6 := hb6.size)
                  | (at_builtin; refine wpList_append_sl rfl (.tmp 110) (.tmp 113) _ rfl iP _ 16 Tryz.underlying60 hiP hzP hkP hbP rfl (by decide) oneP rfl Ho6.out _ _ _ (out.drop j) rfl hjd.out HslD6.out (by have := hlt6.out; omega) (by have := hlt6.out; omega) hz6 ?_; intro v7 w7 ho7 hg7 _; have hb7 := hb6.grown hg7 hz6 (fun q e => (Ho6.out.lt q e).1); obtain ⟨A7, c7, e7, _⟩ := id ho7.slOf; obtain ⟨n7, hn7⟩ : ∃ z, (out.take j ++ [(⟨ra, rc⟩ : Pair)] ++ out.drop j).length = z := ⟨_, rfl⟩; rw [hn7] at e7; have Ho7 := Lib.hid ho7; have Hn7 := Lib.hid hn7; clear ho7 hg7 hn7; subst e7))
                refine ⟨?rel, ?measure⟩
                case rel =>
                  refine ⟨k + 1, _, out.take j ++ [⟨ra, rc⟩] ++ out.drop j, by omega, rfl, by go_num, Ho7.out.base ?_, HTi, by first | (simp; omega) | (simp; done), below_trans (below_trans hb hbc) (below_trans hce hb7)⟩
                  have h1 := hb.size; have h2 := hbc.size; have h3 := (hce).size
                  omega
                case measure => simp [intOf]; omega
    · have he : L.take k = L := List.take_of_length_le (by omega)
      have HC2 : Hid (ClaL (rawT (nameK L 4) l L) out) := by have := HC.out; rw [he] at this; exact this
      have HO := Lib.hid hown
      clear he hown
      go_wp2_with fail
      go_ret
      exact ⟨_, out, rfl, HO.out.base hw2.size, HC2.out, by omega, hbw⟩
end Go.Proofs.YthnckicnnhkkaaaGreat
