/- JoiningTracks. No condition. -/
import Derived.Test.YtcpobcfncmcakaaGreatAwkT
import Derived.Test.YtcpobcfncmcakaaGreatRTra
import Derived.Test.YtcpobcfncmcakaaGreatOpenW
import Derived.Test.YtcpobcfncmcakaaGreatRows
namespace Go.Proofs.YtcpobcfncmcakaaGreat
open Go.RowKit Go.Shelf Go.ChangeShapes Go.WideShapes Go.ChangeAt Go.Maps Go.Deep

/-- A call of Add, or of Undo. -/
structure OpB where
  back : Bool
  s : Spec
  deriving Inhabited
def encO (o : OpB) : List Value := .bool o.back :: encS o.s
theorem lenO (x : OpB) : (encO x).length = 8 := rfl
def OpsAt (w : World) (v : Value) (xs : List OpB) : Prop := SlOf encO 8 w v xs
theorem OpsAt.cells {w : World} {v : Value} {xs : List OpB} (h : OpsAt w v xs) : ∃ A c, v = .slice A xs.length c ∧ xs.length ≤ c ∧ (c : Int) ≤ 9223372036854775807 ∧
    ∀ k, k < xs.length → ∃ b o, A = some ⟨b, o, none⟩ ∧ b < w.heap.size ∧ ∀ w', Below w.heap.size w w' → ∀ i x, xs[i]? = some x → w'.cell? ⟨b, o + i * 8, none⟩ = some (.bool x.back) ∧ w'.cell? ⟨b, o + i * 8 + 1, none⟩ = some (.int .i64 x.s.id) ∧ w'.cell? ⟨b, o + i * 8 + 1 + 1, none⟩ = some (.int .i64 x.s.obv) ∧ w'.cell? ⟨b, o + i * 8 + 1 + 2, none⟩ = some (.int .i64 x.s.rev) ∧ w'.cell? ⟨b, o + i * 8 + 1 + 3, none⟩ = some (.int .i64 x.s.os) ∧ w'.cell? ⟨b, o + i * 8 + 1 + 4, none⟩ = some (.int .i64 x.s.rs) ∧ w'.cell? ⟨b, o + i * 8 + 1 + 5, none⟩ = some (.int .i64 x.s.ax) ∧ w'.cell? ⟨b, o + i * 8 + 1 + 6, none⟩ = some (.int .i64 x.s.wt) := by
  obtain ⟨A, c, e, h1, h2, h3⟩ := h
  refine ⟨A, c, e, h1, by simp only [maxLen] at h2; omega, fun k hk => ?_⟩
  obtain ⟨b, o, e, hb, hc⟩ := SlOf.opens lenO h3 (by omega)
  exact ⟨b, o, e, hb, fun w' hw' i x hx => ⟨by have := cell_later hw' (hc i x hx 0 _ rfl); simpa [Nat.add_assoc] using this, by have := cell_later hw' (hc i x hx 1 _ rfl); simpa [Nat.add_assoc] using this, by have := cell_later hw' (hc i x hx 2 _ rfl); simpa [Nat.add_assoc] using this, by have := cell_later hw' (hc i x hx 3 _ rfl); simpa [Nat.add_assoc] using this, by have := cell_later hw' (hc i x hx 4 _ rfl); simpa [Nat.add_assoc] using this, by have := cell_later hw' (hc i x hx 5 _ rfl); simpa [Nat.add_assoc] using this, by have := cell_later hw' (hc i x hx 6 _ rfl); simpa [Nat.add_assoc] using this, by have := cell_later hw' (hc i x hx 7 _ rfl); simpa [Nat.add_assoc] using this⟩⟩

section
variable {H : Type} {enc : TypeId × Value → H} {P : Program} {w : World} {base : Nat} {spare : Nat → Bool} {held : Bool}
theorem slOf_elems {α : Type} [Inhabited α] {encA : α → List Value} {k : Nat} (hk : ∀ x, (encA x).length = k) (k0 : 0 < k) {t e : TypeId} {fuel : Nat} {v : Value} {x : DataW H × List MemPlace} (ht : P.underlying t = some (.slice e)) (hC : P.cellsOf e = k)
    (hel : ∀ n cs y, DataW.trod enc P w base spare held n e cs = some y → ∃ x : α, cs = encA x)
    (h : DataW.trod enc P w base spare held fuel t [v] = some x) : ∃ xs : List α, SlOf encA k w v xs := by
  rcases open_slice ht h with ⟨h0, _⟩ | ⟨a, len, cap, m, n, D, Pl, hcs, hb, hl, hm, hmm, hx, hi⟩
  · cases h0
    exact ⟨[], none, 0, rfl, Nat.le_refl _, by simp [maxLen], Sl.nil _ _ _⟩
  · cases hcs
    obtain ⟨f, hf⟩ := choose_lt (α := α) (p := fun i z => ∀ j, j < k → w.cell? (a.add (i * k + j)) = (encA z)[j]?) (n := len) (fun i him => by
      obtain ⟨cs', hc, ht'⟩ := hi i (by rw [hmm]; split <;> omega)
      rw [hC] at hc
      obtain ⟨z, rfl⟩ := hel _ _ _ ht'
      obtain ⟨_, _, hat⟩ := World.cells?_some hc
      exact ⟨z, fun j hj => by rw [← Go.Deep.add_add]; exact hat j hj⟩)
    exact ⟨_, slOf_cells hk k0 f hl hm hf⟩
set_option maxRecDepth 100000 in
theorem op_elem {n : Nat} {cs : List Value} {y : DataW H × List MemPlace} (h : DataW.trod enc Tryz.prog w base spare held n 45 cs = some y) : ∃ x : OpB, cs = encO x := by
  obtain ⟨y0, y1, m, _, hl, h0, h1⟩ := trod_struct2 Tryz.underlying45 h
  have c8 : Tryz.prog.cellsOf 45 = 8 := by kernel_rfl
  have cB : Tryz.prog.cellsOf 4 = 1 := by kernel_rfl
  have c7 : Tryz.prog.cellsOf 43 = 7 := by kernel_rfl
  have cI : Tryz.prog.cellsOf 3 = 1 := by kernel_rfl
  rw [c8] at hl
  match cs, hl with
  | [a, b0, b1, b2, b3, b4, b5, b6], _ =>
    have h0' : DataW.trod enc Tryz.prog w base spare held m 4 ((List.drop 0 [a, b0, b1, b2, b3, b4, b5, b6]).take (Tryz.prog.cellsOf 4)) = some y0 := h0
    have h1' : DataW.trod enc Tryz.prog w base spare held m 43 ((List.drop 1 [a, b0, b1, b2, b3, b4, b5, b6]).take (Tryz.prog.cellsOf 43)) = some y1 := h1
    rw [cB] at h0'
    rw [c7] at h1'
    obtain ⟨B, hB, _⟩ := DataW.trod_bool Tryz.underlying4 h0'
    obtain rfl : a = .bool B := by simpa using hB
    have h2 : DataW.trod enc Tryz.prog w base spare held m 43 [b0, b1, b2, b3, b4, b5, b6] = some y1 := h1'
    obtain ⟨xs, m', _, _, _, hxl, hf⟩ := DataW.trod_struct Tryz.underlying43 h2
    have hx7 : xs.length = 7 := hxl
    have g0 : DataW.trod enc Tryz.prog w base spare held m' 3 ((List.drop 0 [b0, b1, b2, b3, b4, b5, b6]).take (Tryz.prog.cellsOf 3)) = xs[0]? := hf 0 _ rfl
    rw [cI, List.getElem?_eq_getElem (by omega)] at g0
    obtain ⟨n0, e0, _⟩ := DataW.trod_int Tryz.underlying3 g0
    have q0 : b0 = .int .i64 n0 := by simpa using e0
    have g1 : DataW.trod enc Tryz.prog w base spare held m' 3 ((List.drop 1 [b0, b1, b2, b3, b4, b5, b6]).take (Tryz.prog.cellsOf 3)) = xs[1]? := hf 1 _ rfl
    rw [cI, List.getElem?_eq_getElem (by omega)] at g1
    obtain ⟨n1, e1, _⟩ := DataW.trod_int Tryz.underlying3 g1
    have q1 : b1 = .int .i64 n1 := by simpa using e1
    have g2 : DataW.trod enc Tryz.prog w base spare held m' 3 ((List.drop 2 [b0, b1, b2, b3, b4, b5, b6]).take (Tryz.prog.cellsOf 3)) = xs[2]? := hf 2 _ rfl
    rw [cI, List.getElem?_eq_getElem (by omega)] at g2
    obtain ⟨n2, e2, _⟩ := DataW.trod_int Tryz.underlying3 g2
    have q2 : b2 = .int .i64 n2 := by simpa using e2
    have g3 : DataW.trod enc Tryz.prog w base spare held m' 3 ((List.drop 3 [b0, b1, b2, b3, b4, b5, b6]).take (Tryz.prog.cellsOf 3)) = xs[3]? := hf 3 _ rfl
    rw [cI, List.getElem?_eq_getElem (by omega)] at g3
    obtain ⟨n3, e3, _⟩ := DataW.trod_int Tryz.underlying3 g3
    have q3 : b3 = .int .i64 n3 := by simpa using e3
    have g4 : DataW.trod enc Tryz.prog w base spare held m' 3 ((List.drop 4 [b0, b1, b2, b3, b4, b5, b6]).take (Tryz.prog.cellsOf 3)) = xs[4]? := hf 4 _ rfl
    rw [cI, List.getElem?_eq_getElem (by omega)] at g4
    obtain ⟨n4, e4, _⟩ := DataW.trod_int Tryz.underlying3 g4
    have q4 : b4 = .int .i64 n4 := by simpa using e4
    have g5 : DataW.trod enc Tryz.prog w base spare held m' 3 ((List.drop 5 [b0, b1, b2, b3, b4, b5, b6]).take (Tryz.prog.cellsOf 3)) = xs[5]? := hf 5 _ rfl
    rw [cI, List.getElem?_eq_getElem (by omega)] at g5
    obtain ⟨n5, e5, _⟩ := DataW.trod_int Tryz.underlying3 g5
    have q5 : b5 = .int .i64 n5 := by simpa using e5
    have g6 : DataW.trod enc Tryz.prog w base spare held m' 3 ((List.drop 6 [b0, b1, b2, b3, b4, b5, b6]).take (Tryz.prog.cellsOf 3)) = xs[6]? := hf 6 _ rfl
    rw [cI, List.getElem?_eq_getElem (by omega)] at g6
    obtain ⟨n6, e6, _⟩ := DataW.trod_int Tryz.underlying3 g6
    have q6 : b6 = .int .i64 n6 := by simpa using e6
    subst q0; subst q1; subst q2; subst q3; subst q4; subst q5; subst q6
    exact ⟨⟨B, ⟨n0, n1, n2, n3, n4, n5, n6⟩⟩, rfl⟩
set_option maxRecDepth 100000 in
theorem opens_ops {r : Reach} {b0 : Nat} {v : Value} {d : DataW H} {p : List MemPlace} (hv : Value.okWide Tryz.prog w r b0 37 v) (h : DataW.Trod enc Tryz.prog w base spare held 37 v d p) : ∃ xs, OpsAt w v xs := by
  obtain ⟨a, l, c, rfl⟩ := okWide_slice Tryz.underlying37 hv
  obtain ⟨fuel, hf⟩ := h
  exact slOf_elems lenO (by omega) Tryz.underlying37 (by kernel_rfl) (fun n cs y hy => op_elem hy) (by simpa [Value.cells] using hf)
end
theorem trk_nil (a b : Die) : joinB (edgesS []) a b = false := joinB_no.2 fun h => by
  obtain ⟨e, he, _⟩ := h.1
  cases he
set_option maxHeartbeats 8000000 in
set_option maxRecDepth 100000 in
theorem tracks_walk (v : Value) (l : List OpB) (da db : Die) (w : World) (h : OpsAt w v l) (hda : wfD da) (hdb : wfD db) :
    Calls Tryz.prog 5 #[v, vlD da, vlD db] w fun e w' => e = .returned (.bool true) ∧ Below w.heap.size w w' := by
  obtain ⟨X0, hX0, HzX0, hbX0, hltX0, hcX0⟩ := boxed w #[.int .i64 da.side, .int .i64 da.num] 24
  obtain ⟨X1, hX1, HzX1, hbX1, hltX1, hcX1⟩ := boxed X0 #[.int .i64 db.side, .int .i64 db.num] 24
  have hX := below_trans hbX0 hbX1
  have a0 := cell_later hbX1 (hcX0 0 _ rfl); have a1 := cell_later hbX1 (hcX0 1 _ rfl)
  have b0 := hcX1 0 _ rfl; have b1 := hcX1 1 _ rfl
  clear hcX0 hcX1
  obtain ⟨A, c, rfl, _, _, hc⟩ := h.cells
  clear h
  go_enter Tryz.func5, Tryz.ntmps5
  go_wp2_with fail
  refine (wake17_ok _).mono ?_
  rintro e w1 ⟨rfl, hb1⟩
  have hw1 := below_trans hX hb1
  by_cases h24 : l.length ≤ 24
  case neg =>
    have d : (24 : Int) < (l.length : Int) := by omega
    clear hc a0 a1 b0 b1
    go_wp2_with fail
    refine (wake17_ok _).mono ?_
    rintro e w2 ⟨rfl, hb2⟩
    go_wp2_with fail
    go_ret
    exact ⟨rfl, below_trans hw1 hb2⟩
  have d : (l.length : Int) ≤ 24 := by omega
  have a0 := cell_later hb1 a0; have a1 := cell_later hb1 a1; have b0 := cell_later hb1 b0; have b1 := cell_later hb1 b1
  have hX1' := hb1
  clear hX0 hX1 hb1
  go_wp2_with fail
  refine (NewTracker_ok _).mono ?_
  rintro e w3 ⟨q, rfl, hT, hq0, hb3⟩
  have hw3 := below_trans hw1 hb3
  have a0 := cell_later hb3 a0; have a1 := cell_later hb3 a1; have b0 := cell_later hb3 b0; have b1 := cell_later hb3 b1
  go_wp2_with fail
  refine (NewTracker17_ok _).mono ?_
  rintro e w4 ⟨p, rfl, hR, hp0, hb4⟩
  have hw4 := below_trans hw3 hb4
  have a0 := cell_later hb4 a0; have a1 := cell_later hb4 a1; have b0 := cell_later hb4 b0; have b1 := cell_later hb4 b1
  have hqp : q ≠ p := by have := hT.lt; omega
  have hT4 := hT.below hb4
  have hqw : w.heap.size ≤ q := by have := hw1.size; omega
  have hpw : w.heap.size ≤ p := by have := hw3.size; omega
  have hX0q : w.heap.size ∉ [q, p] ∧ X0.heap.size ∉ [q, p] := by have := hX1'.size; have := hb3.size; have := HzX0.out; have := HzX1.out; simp; omega
  clear hT
  go_wp2_with fail
  go_loopw [9] (fun i wr => ∃ (k : Nat) (T : List Spec), k ≤ l.length ∧ i = .int .i64 k ∧ TrAt wr q T ∧ RAt wr p T ∧ Touch w4 wr [q, p]) (fun i _ => l.length - (intOf i).toNat)
  case atStart => exact ⟨0, [], Nat.zero_le _, rfl, hT4, hR, Touch.refl _ _⟩
  case round =>
    clear hT4 hR
    obtain ⟨k, T, hk, rfl, hT, hR, hTT⟩ := hrel
    have hwr : Below w.heap.size w wr := ((touch_below hw4 [q, p]).trans hTT).below (by simp; omega) (Nat.le_refl _)
    by_cases hlt : k < l.length
    · obtain ⟨bo, o, rfl, _, hcb⟩ := hc k hlt
      obtain ⟨x, hx⟩ := get_of_lt hlt
      obtain ⟨y0, y1, y2, y3, y4, y5, y6, y7⟩ := hcb wr hwr k x hx
      have hk1 : (k : Int) < (l.length : Int) := by omega
      have hk0 : (0 : Int) ≤ (k : Int) := by omega
      have oneT := Lib.hid hT.one
      have oneR := Lib.hid hR.one
      have HY := Lib.hid (fun w' hb' => hcb w' hb' k x hx)
      clear hc hcb hx
      cases hback : x.back
      · rw [hback] at y0
        go_wp2_with fail
        refine (Add_ok q T x.s _ hT).mono ?_
        rintro e w5 ⟨rfl, hT5, hTT5⟩
        have hR5 := hR.touch hTT5 oneT.out (Ne.symm hqp)
        have hw5 := below_touch1 hwr hTT5 hqw
        have hTT5' := hTT.fresh hTT5 (by simp)
        clear y0 y1 y2 y3 y4 y5 y6 y7 hT hR
        obtain ⟨y0, y1, y2, y3, y4, y5, y6, y7⟩ := HY.out w5 hw5
        have oneR5 := Lib.hid hR5.one
        have had := Add17_ok p T x.s w5 hR5
        generalize addB T x.s = B at had ⊢
        generalize addE T x.s = E at had ⊢
        have Had := Lib.hid had
        clear had
        go_wp2_with fail
        refine Had.out.mono ?_
        rintro e w6 ⟨rfl, hR6, hTT6⟩
        have hT6 := hT5.touch hTT6 oneR5.out hqp
        have hTT6' := hTT5'.fresh hTT6 (by simp)
        obtain ⟨U, hU⟩ : ∃ U, addL T x.s = U := ⟨_, rfl⟩
        rw [hU] at hT6 hR6
        clear y0 y1 y2 y3 y4 y5 y6 y7 hT5 hR5 Had hU
        go_wp2_with fail
        have a0 := cell_off hTT6' hX0q.1 a0; have a1 := cell_off hTT6' hX0q.1 a1; have b0 := cell_off hTT6' hX0q.2 b0; have b1 := cell_off hTT6' hX0q.2 b1
        have A0 := Later.cell_all a0; have A1 := Later.cell_all a1; have B0 := Later.cell_all b0; have B1 := Later.cell_all b1
        have hc1 := fun y : Later w6 => Components_ok q (U) y.to ((hT6).below y.h)
        have hc2 := fun y : Later w6 => Components17_ok p (U) y.to ((hR6).below y.h)
        have hj1 := fun y : Later w6 => Joined_ok q (U) da db y.to ((hT6).below y.h) hda hdb
        have hj2 := fun y : Later w6 => Joined17_ok p (U) da db y.to ((hR6).below y.h)
        generalize ((growL (U)).count : Int) = C at hc1 hc2
        generalize joinB (edgesS (U)) da db = J at hj1 hj2
        have H1 := Lib.hid hc1; have H2 := Lib.hid hc2; have H3 := Lib.hid hj1; have H4 := Lib.hid hj2
        clear hc1 hc2 hj1 hj2
        go_wp2_with fail
        refine wp_region_later (by kernel_rfl) (by kernel_rfl) ?_
        repeat (go_big_quiet_step (first | (go_at_call 26; with_reducible exact calls_later (H1.out _)) | (go_at_call 27; with_reducible exact calls_later (H2.out _)) | (go_at_call 28; with_reducible exact calls_later (H3.out _)) | (go_at_call 29; with_reducible exact calls_later (H4.out _))))
        refine wpQuiet_nil ?_
        intro _ hw'
        obtain ⟨xq, hw''⟩ := hw'
        subst hw''
        have hbz := xq.h
        generalize xq.to = wz at hbz ⊢
        have hTz := (hT6).below hbz; have hRz := (hR6).below hbz
        have hTTz := (hTT6').trans (touch_below hbz [q, p])
        clear H1 H2 H3 H4 A0 A1 B0 B1 a0 a1 b0 b1
        go_wp2_with fail
        refine ⟨?rel, ?measure⟩
        case rel => exact ⟨k + 1, U, by omega, by go_num, hTz, hRz, hTTz⟩
        case measure => first | (simp [intOf]; done) | (simp [intOf]; omega)
      · rw [hback] at y0
        rcases List.eq_nil_or_concat T with rfl | ⟨T', s, rfl⟩
        · go_wp2_with fail
          refine (Undo0_ok q _ hT).mono ?_
          rintro e w5 ⟨rfl, hb5⟩
          have hT5 := hT.below hb5
          have hR5 := hR.below hb5
          clear y0 y1 y2 y3 y4 y5 y6 y7 hT hR
          go_wp2_with fail
          refine (Undo170_ok p _ hR5).mono ?_
          rintro e w6 ⟨rfl, hb6⟩
          have hT6 := hT5.below hb6
          have hR6 := hR5.below hb6
          have hTT6' := hTT.trans (touch_below (below_trans hb5 hb6) [q, p])
          obtain ⟨U, hU⟩ : ∃ U : List Spec, [] = U := ⟨_, rfl⟩
          rw [hU] at hT6 hR6
          clear hT5 hR5 hU
          go_wp2_with fail
          have a0 := cell_off hTT6' hX0q.1 a0; have a1 := cell_off hTT6' hX0q.1 a1; have b0 := cell_off hTT6' hX0q.2 b0; have b1 := cell_off hTT6' hX0q.2 b1
          have A0 := Later.cell_all a0; have A1 := Later.cell_all a1; have B0 := Later.cell_all b0; have B1 := Later.cell_all b1
          have hc1 := fun y : Later w6 => Components_ok q (U) y.to ((hT6).below y.h)
          have hc2 := fun y : Later w6 => Components17_ok p (U) y.to ((hR6).below y.h)
          have hj1 := fun y : Later w6 => Joined_ok q (U) da db y.to ((hT6).below y.h) hda hdb
          have hj2 := fun y : Later w6 => Joined17_ok p (U) da db y.to ((hR6).below y.h)
          generalize ((growL (U)).count : Int) = C at hc1 hc2
          generalize joinB (edgesS (U)) da db = J at hj1 hj2
          have H1 := Lib.hid hc1; have H2 := Lib.hid hc2; have H3 := Lib.hid hj1; have H4 := Lib.hid hj2
          clear hc1 hc2 hj1 hj2
          go_wp2_with fail
          refine wp_region_later (by kernel_rfl) (by kernel_rfl) ?_
          repeat (go_big_quiet_step (first | (go_at_call 26; with_reducible exact calls_later (H1.out _)) | (go_at_call 27; with_reducible exact calls_later (H2.out _)) | (go_at_call 28; with_reducible exact calls_later (H3.out _)) | (go_at_call 29; with_reducible exact calls_later (H4.out _))))
          refine wpQuiet_nil ?_
          intro _ hw'
          obtain ⟨xq, hw''⟩ := hw'
          subst hw''
          have hbz := xq.h
          generalize xq.to = wz at hbz ⊢
          have hTz := (hT6).below hbz; have hRz := (hR6).below hbz
          have hTTz := (hTT6').trans (touch_below hbz [q, p])
          clear H1 H2 H3 H4 A0 A1 B0 B1 a0 a1 b0 b1
          go_wp2_with fail
          refine ⟨?rel, ?measure⟩
          case rel => exact ⟨k + 1, U, by omega, by go_num, hTz, hRz, hTTz⟩
          case measure => first | (simp [intOf]; done) | (simp [intOf]; omega)
        · rw [List.concat_eq_append] at hT hR
          go_wp2_with fail
          refine (Undo_ok q T' s _ hT).mono ?_
          rintro e w5 ⟨rfl, hT5, hTT5⟩
          have hR5 := hR.touch hTT5 oneT.out (Ne.symm hqp)
          have hTT5' := hTT.fresh hTT5 (by simp)
          have oneR5 := Lib.hid hR5.one
          clear y0 y1 y2 y3 y4 y5 y6 y7 hT hR
          go_wp2_with fail
          refine (Undo17_ok p T' s _ hR5).mono ?_
          rintro e w6 ⟨rfl, hR6, hTT6⟩
          have hT6 := hT5.touch hTT6 oneR5.out hqp
          have hTT6' := hTT5'.fresh hTT6 (by simp)
          clear hT5 hR5
          go_wp2_with fail
          have a0 := cell_off hTT6' hX0q.1 a0; have a1 := cell_off hTT6' hX0q.1 a1; have b0 := cell_off hTT6' hX0q.2 b0; have b1 := cell_off hTT6' hX0q.2 b1
          have A0 := Later.cell_all a0; have A1 := Later.cell_all a1; have B0 := Later.cell_all b0; have B1 := Later.cell_all b1
          have hc1 := fun y : Later w6 => Components_ok q (T') y.to ((hT6).below y.h)
          have hc2 := fun y : Later w6 => Components17_ok p (T') y.to ((hR6).below y.h)
          have hj1 := fun y : Later w6 => Joined_ok q (T') da db y.to ((hT6).below y.h) hda hdb
          have hj2 := fun y : Later w6 => Joined17_ok p (T') da db y.to ((hR6).below y.h)
          generalize ((growL (T')).count : Int) = C at hc1 hc2
          generalize joinB (edgesS (T')) da db = J at hj1 hj2
          have H1 := Lib.hid hc1; have H2 := Lib.hid hc2; have H3 := Lib.hid hj1; have H4 := Lib.hid hj2
          clear hc1 hc2 hj1 hj2
          go_wp2_with fail
          refine wp_region_later (by kernel_rfl) (by kernel_rfl) ?_
          repeat (go_big_quiet_step (first | (go_at_call 26; with_reducible exact calls_later (H1.out _)) | (go_at_call 27; with_reducible exact calls_later (H2.out _)) | (go_at_call 28; with_reducible exact calls_later (H3.out _)) | (go_at_call 29; with_reducible exact calls_later (H4.out _))))
          refine wpQuiet_nil ?_
          intro _ hw'
          obtain ⟨xq, hw''⟩ := hw'
          subst hw''
          have hbz := xq.h
          generalize xq.to = wz at hbz ⊢
          have hTz := (hT6).below hbz; have hRz := (hR6).below hbz
          have hTTz := (hTT6').trans (touch_below hbz [q, p])
          clear H1 H2 H3 H4 A0 A1 B0 B1 a0 a1 b0 b1
          go_wp2_with fail
          refine ⟨?rel, ?measure⟩
          case rel => exact ⟨k + 1, T', by omega, by go_num, hTz, hRz, hTTz⟩
          case measure => first | (simp [intOf]; done) | (simp [intOf]; omega)
    · have ek : k = l.length := by omega
      clear hc hT hR
      have a0 := cell_off hTT hX0q.1 a0; have a1 := cell_off hTT hX0q.1 a1; have b0 := cell_off hTT hX0q.2 b0; have b1 := cell_off hTT hX0q.2 b1
      go_wp2_with fail
      refine (coin_ok 1 1 1 _).mono ?_
      rintro e w5 ⟨rfl, hb5⟩
      have a0 := cell_later hb5 a0; have a1 := cell_later hb5 a1; have b0 := cell_later hb5 b0; have b1 := cell_later hb5 b1
      go_wp2_with fail
      refine (AddN_ok _ _).mono ?_
      rintro e w6 ⟨rfl, hb6⟩
      have a0 := cell_later hb6 a0; have a1 := cell_later hb6 a1; have b0 := cell_later hb6 b0; have b1 := cell_later hb6 b1
      go_wp2_with fail
      refine (UndoN_ok _).mono ?_
      rintro e w7 ⟨rfl, hb7⟩
      have a0 := cell_later hb7 a0; have a1 := cell_later hb7 a1; have b0 := cell_later hb7 b0; have b1 := cell_later hb7 b1
      have hjn := JoinedN_ok da db w7 hda hdb
      rw [trk_nil] at hjn
      have Hjn := Lib.hid hjn
      clear hjn
      go_wp2_with fail
      refine Hjn.out.mono ?_
      rintro e w8 ⟨rfl, hb8⟩
      have hcn := ComponentsN_ok w8
      rw [show ((growL []).count : Int) = 0 from rfl] at hcn
      have Hcn := Lib.hid hcn
      clear hcn a0 a1 b0 b1
      go_wp2_with fail
      refine Hcn.out.mono ?_
      rintro e w9 ⟨rfl, hb9⟩
      go_wp2_with fail
      refine (CloneN_ok _).mono ?_
      rintro e w10 ⟨rfl, hb10⟩
      go_wp2_with fail
      go_ret
      exact ⟨rfl, below_trans hwr (below_trans hb5 (below_trans hb6 (below_trans hb7 (below_trans hb8 (below_trans hb9 hb10)))))⟩
theorem tracks_walk' (v : Value) (l : List OpB) (da db : Die) (w : World) (h : OpsAt w v l) (a1 : wfI da.side) (a2 : wfI da.num) (b1 : wfI db.side) (b2 : wfI db.num) :
    Calls Tryz.prog 5 #[v, vlD da, vlD db] w fun e w' => e = .returned (.bool true) ∧ Below w.heap.size w w' := tracks_walk v l da db w h ⟨a1, a2⟩ ⟨b1, b2⟩

set_option maxRecDepth 100000 in
theorem tracks_lifted (os : Os) (started : os.Started) (H : Type) (enc : TypeId × Value → H) :
    ReturnsInHanded {} Tryz.checked os 5 .any (Rows.joiningTracksSpec.pre6 enc Tryz.prog Tryz.f5 Rows.joiningTracksRow.domain false) (Rows.joiningTracksSpec.post enc Tryz.prog Tryz.f5 false true false false) := by
  refine returnsInHanded_of_change (C := Tryz.checked) Try.own started (by kernel_rfl) Tryz.func5
    (ChangeSpec.witness6 (enc := enc) (C := Tryz.checked) false ⟨#[], #[.slice none 0 0, .agg #[.int .i64 0, .int .i64 0], .agg #[.int .i64 0, .int .i64 0]], []⟩ 8 (by kernel_rfl) (by kernel_rfl) (by kernel_rfl) (by kernel_rfl)) ?_
  intro W base args ds gs before hval0 hW hcnd _
  have hval : ∀ (j : Nat) t v, Tryz.f5.params[j]? = some t → args[j]? = some v → Value.okWide Tryz.prog W .any base t v := hval0
  have hW' := hW
  obtain ⟨p, q, hA0, hV, rfl, hfz, hnd⟩ := hW
  have hA : DataW.TrodAll enc Tryz.prog W 0 (fun _ => true) true Tryz.f5.params.toList args.toList ds p := hA0
  rw [Tryz.params5] at hA hval
  obtain ⟨v0, v1, v2, d0, d1, d2, p0, p1, p2, rfl, rfl, rfl, h0, h1, h2⟩ := trodAll_three hA
  obtain ⟨rfl, rfl⟩ := trodVars_none hV
  have k0 := h0
  have lt0 : ∀ x ∈ p0, x.block < W.heap.size := by obtain ⟨m, hm⟩ := k0; exact DataW.trod_lt m _ _ _ hm
  obtain ⟨x0, hx0⟩ := opens_ops (hval 0 37 v0 rfl rfl) h0
  have k1 := h1
  have lt1 : ∀ x ∈ p1, x.block < W.heap.size := by obtain ⟨m, hm⟩ := k1; exact DataW.trod_lt m _ _ _ hm
  obtain ⟨x1, rfl, wa1, wb1⟩ := opens_die (hval 1 24 v1 rfl rfl) h1
  have k2 := h2
  have lt2 : ∀ x ∈ p2, x.block < W.heap.size := by obtain ⟨m, hm⟩ := k2; exact DataW.trod_lt m _ _ _ hm
  obtain ⟨x2, rfl, wa2, wb2⟩ := opens_die (hval 2 24 v2 rfl rfl) h2
  clear hA0 hval0
  refine (tracks_walk' v0 x0 x1 x2 W hx0 wa1 wb1 wa2 wb2).mono fun e W' ⟨he, bel⟩ => ?_
  subst he
  exact ⟨_, rfl, _, _, _, [], _, [], hW', trodAll_mk1 (shut_bool Tryz.underlying4 _), trodAll_mk3 (Below.trod Try.laidOut (by kernel_rfl) (of_decide_eq_true (by kernel_rfl)) k0 bel lt0) (Below.trod Try.laidOut (by kernel_rfl) (of_decide_eq_true (by kernel_rfl)) k1 bel lt1) (Below.trod Try.laidOut (by kernel_rfl) (of_decide_eq_true (by kernel_rfl)) k2 bel lt2), rfl, bel.frame _, fun h => by cases h⟩

theorem tracks_holds : Rows.JoiningTracksSaid :=
  OpenClaim.holds_of_wide 5 Tryz.f5 rfl rfl rfl rfl rfl rfl rfl ⟨rfl, rfl, rfl, rfl, rfl⟩ rfl rfl rfl rfl rfl (by kernel_rfl) Tryz.func5 (by kernel_rfl)
    (of_decide_eq_true (by kernel_rfl)) (by unfold Func.isWrapper; first | (rw [if_pos (by decide +kernel)]; kernel_rfl) | (rw [if_neg (by decide +kernel)]; exact ⟨rfl, rfl⟩))
    (fun os started H enc _ => tracks_lifted os started H enc)
end Go.Proofs.YtcpobcfncmcakaaGreat
