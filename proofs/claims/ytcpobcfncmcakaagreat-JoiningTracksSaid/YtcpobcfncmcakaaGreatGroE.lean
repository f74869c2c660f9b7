/- chosen, Joiners, Forest, First. Condition: the argument reads as a list of specimens. -/
import Derived.Test.YtcpobcfncmcakaaGreatGroD
import Derived.Test.YtcpobcfncmcakaaGreatJoinQ
namespace Go.Proofs.YtcpobcfncmcakaaGreat
open Go.RowKit Go.Maps

def pickJ (x y : Bool) : Bool := x && y
def pickF (x _ : Bool) : Bool := x
set_option maxHeartbeats 1000000 in
theorem joiner_ok (x y : Bool) (w : World) : Calls Tryz.prog 47 #[.bool x, .bool y] w fun e w' => e = .returned (.bool (pickJ x y)) ∧ Below w.heap.size w w' := by
  cases x
  all_goals
    go_enter Tryz.func47, Tryz.ntmps47
    go_wp2_with fail
    go_ret
    exact ⟨rfl, Below.refl _ _⟩
set_option maxHeartbeats 1000000 in
theorem forest_ok (x y : Bool) (w : World) : Calls Tryz.prog 48 #[.bool x, .bool y] w fun e w' => e = .returned (.bool (pickF x y)) ∧ Below w.heap.size w w' := by
  go_enter Tryz.func48, Tryz.ntmps48
  go_wp2_with fail
  go_ret
  exact ⟨rfl, Below.refl _ _⟩
/-- The numbers of the specimens for which pick is true. -/
def choT (pick : Bool → Bool → Bool) (l : List Spec) (k : Nat) : List Int := (List.range k).flatMap fun j => match l[j]? with
  | some s => if pick (apartG s (growL (l.take j))) (thereG s (growL (l.take j))) then [s.id] else []
  | none => []
theorem choT_snoc (pick : Bool → Bool → Bool) {l : List Spec} {k : Nat} {s : Spec} (h : l[k]? = some s) : choT pick l (k + 1) = choT pick l k ++ if pick (apartG s (growL (l.take k))) (thereG s (growL (l.take k))) then [s.id] else [] := by
  rw [choT, List.range_succ, List.flatMap_append]
  simp [choT, h]
theorem choT_len (pick : Bool → Bool → Bool) (l : List Spec) : ∀ k, (choT pick l k).length ≤ k := by
  intro k
  induction k with
  | zero => simp [choT]
  | succ k ih =>
    cases h : l[k]? with
    | none =>
      have e : choT pick l (k + 1) = choT pick l k := by
        rw [choT, List.range_succ, List.flatMap_append]
        simp [choT, h]
      rw [e]; omega
    | some s =>
      rw [choT_snoc pick h, List.length_append]
      split <;> simp <;> omega
def choR (pick : Bool → Bool → Bool) (l : List Spec) : List Int := if ofE l = 0 then choT pick l l.length else []

set_option maxHeartbeats 4000000 in
set_option maxRecDepth 100000 in
theorem chosenJ_ok (v : Value) (l : List Spec) (w : World) (h : Specs w v l) :
    Calls Tryz.prog 46 #[v, .func (.func 47) #[] #[]] w fun e w' => ∃ u, e = .returned (.tuple #[u, .int .i64 (ofE l)]) ∧ Ints w' u (choR pickJ l) ∧ Below w.heap.size w w' := by
  have h0 := h
  obtain ⟨A, c, rfl, _, _, hc⟩ := h.cells
  go_enter Tryz.func46, Tryz.ntmps46
  go_wp2_with fail
  refine (Of_ok _ _ _ h0).mono ?_
  rintro e w1 ⟨ug, rfl, ⟨v1, v2, v3, rfl, ⟨A1, c1, rfl, _⟩, ⟨A2, c2, rfl, _⟩, ⟨A3, c3, rfl, _⟩⟩, hb1⟩
  obtain ⟨W1, W2, hW1, hW2, HzW2, hkW1, hkW2, hbW2, hltW2⟩ := fresh w1 [.slice none 0 0, .slice none 0 0, .slice none 0 0] [.slice A1 (ofG l).obv.length c1, .slice A2 (ofG l).rev.length c2, .slice A3 (ofG l).links.length c3] 55 rfl
  have hsW2 : ((W1.setCell ⟨w1.heap.size, 0, none⟩ (.slice A1 (ofG l).obv.length c1)).setCell ⟨w1.heap.size, 1, none⟩ (.slice A2 (ofG l).rev.length c2)).setCell ⟨w1.heap.size, 2, none⟩ (.slice A3 (ofG l).links.length c3) = W2 := hW2
  clear hW2
  obtain ⟨⟨z0, z1, z2⟩, f0, f1, f2⟩ := cells3 hkW1
  clear hkW1 hkW2
  have hw2 := below_trans hb1 hbW2
  by_cases hE : ofE l = 0
  case neg =>
    have hd : (ofE l != 0) = true := by simpa using hE
    have HE := Lib.hid hE; clear hE
    go_wp2_with fail
    refine bodyPost_ret (v := .tuple #[.slice none 0 0, .int .i64 (ofE l)]) (by simp [results, Tryz.results46, go_sem]) rfl ⟨_, rfl, ?_, hw2⟩
    rw [choR, if_neg HE.out]
    exact (own_nil _ _ 0 0 _).slOf
  have hd : (ofE l != 0) = false := by simp [hE]
  have HE := Lib.hid hE; clear hE
  go_wp2_with fail
  clear z0 z1 z2 f0 f1 f2
  refine (begin_ok _).mono ?_
  rintro e w3 ⟨p, b, rfl, hG, hp0, hb0, hb3⟩
  have hw3 := below_trans hw2 hb3
  have hsz := hw2.size
  have hpl := heap_lt hG.blk; have hbl := hG.map.lt
  obtain ⟨iI, hiI, hzI, hkI, hbI⟩ := info_parts infoI
  go_wp2_with fail
  clear hsW2 hW1
  go_loopw [9, 23] (fun u i wr => ∃ k : Nat, k ≤ l.length ∧ i = .int .i64 k ∧ OwnI w3.heap.size wr u (choT pickJ l k) ∧ GrAt wr p b (growL (l.take k)) ∧ Touch w3 wr [p, b]) (fun _ i _ => l.length - (intOf i).toNat)
  case atStart => exact ⟨0, Nat.zero_le _, rfl, own_nil _ _ _ _ _, hG, Touch.refl _ _⟩
  case round =>
    obtain ⟨k, hk, rfl, hown, hGr, hT⟩ := hrel
    have hwr : Below w.heap.size w wr := (touch_below hw3 [p, b]).trans hT |>.below (by simp; omega) (Nat.le_refl _)
    by_cases hlt : k < l.length
    · obtain ⟨bo, o, rfl, hbb, hc⟩ := hc k hlt
      obtain ⟨x, hx⟩ := get_of_lt hlt
      obtain ⟨y0, y1, y2, y3, y4, y5, y6⟩ := hc wr hwr k x hx
      obtain ⟨V1, V2, hV1, hV2, HzV2, hkV1, hkV2, hbV2, hltV2⟩ := fresh wr [.int .i64 0, .int .i64 0, .int .i64 0, .int .i64 0, .int .i64 0, .int .i64 0, .int .i64 0] [.int .i64 (x).id, .int .i64 (x).obv, .int .i64 (x).rev, .int .i64 (x).os, .int .i64 (x).rs, .int .i64 (x).ax, .int .i64 (x).wt] 43 rfl
      have hsV2 : ((((((V1.setCell ⟨wr.heap.size, 0, none⟩ (.int .i64 (x).id)).setCell ⟨wr.heap.size, 1, none⟩ (.int .i64 (x).obv)).setCell ⟨wr.heap.size, 2, none⟩ (.int .i64 (x).rev)).setCell ⟨wr.heap.size, 3, none⟩ (.int .i64 (x).os)).setCell ⟨wr.heap.size, 4, none⟩ (.int .i64 (x).rs)).setCell ⟨wr.heap.size, 5, none⟩ (.int .i64 (x).ax)).setCell ⟨wr.heap.size, 6, none⟩ (.int .i64 (x).wt) = V2 := hV2
      clear hV2
      obtain ⟨⟨z0, z1, z2, z3, z4, z5, z6⟩, f0, f1, f2, f3, f4, f5, f6⟩ := cellsS hkV1
      clear hkV1
      obtain ⟨⟨s0, s1, s2, s3, s4, s5, s6⟩, _⟩ := cellsS hkV2
      have hspec := ofE_spec HE.out hx
      have hG2 := hGr.below hbV2
      have Hown := Lib.hid (hown.below hbV2)
      have HT := Lib.hid (hT.trans (touch_below hbV2 [p, b]))
      have Hx := Lib.hid hx
      have hk4 : (l.take k).length ≤ 100 := by simp; omega
      have Hsn := Lib.hid (choT_snoc pickJ hx)
      have hnp : wr.heap.size ∉ [p, b] := by have := hT.size; simp; omega
      clear hown hGr hT hx hc hG
      go_wp2_with fail
      refine (step_ok p b (l.take k) x V2 hG2 hspec.1 hk4).mono ?_
      rintro e w5 ⟨rfl, hG5, hT5⟩
      rw [← take_snoc' Hx.out] at hG5
      have hown5 := Hown.out.touch hT5 (by simp; omega)
      have t0 := cell_off hT5 hnp s0
      have HG5 := Lib.hid hG5; have HT5 := Lib.hid (HT.out.trans hT5)
      clear hG5 hT5 hG2 s0 s1 s2 s3 s4 s5 s6 z0 z1 z2 z3 z4 z5 z6 f0 f1 f2 f3 f4 f5 f6 y0 y1 y2 y3 y4 y5 y6 Hown
      go_wp2_with fail
      refine (joiner_ok _ _ _).mono ?_
      rintro e w6 ⟨rfl, hb6⟩
      have hown6 := hown5.below hb6
      have t0 := cell_later hb6 t0
      have HG6 := Lib.hid (HG5.out.below hb6); have HT6 := Lib.hid (HT5.out.trans (touch_below hb6 [p, b]))
      have hz6 : w3.heap.size ≤ w6.heap.size := HT6.out.size
      have hll : (choT pickJ l k).length ≤ 64 := by have := choT_len pickJ l k; omega
      clear hown5 HG5 HT5
      have Hsn := Hsn.out
      cases hpk : pickJ (apartG x (growL (l.take k))) (thereG x (growL (l.take k)))
      · rw [hpk, if_neg (by simp), List.append_nil] at Hsn
        have Hsn := Lib.hid Hsn
        go_wp2_with fail
        refine ⟨?rel, ?measure⟩
        case rel => exact ⟨k + 1, by omega, by go_num, by rw [Hsn.out]; exact hown6, HG6.out, HT6.out⟩
        case measure => simp [intOf]; omega
      · rw [hpk, if_pos rfl] at Hsn
        have Hsn := Lib.hid Hsn
        go_wp2_with (at_builtin; refine wpList_append1 (enc := encI) (size := 1) (B := w3.heap.size) rfl (.tmp 34) (.tmp 37) _ rfl 3 iI _ 8 Tryz.underlying30 hiI hzI hkI hbI rfl (by decide) rfl hown6 x.id _ rfl lenI oneI _ rfl rfl (by omega) (by omega) hz6 ?_; intro v' w7 hown' hgrow hat)
        have hnb : ∀ c, c < w3.heap.size → some c ≠ Value.ownBlock _ := fun c hc e => by have := (hown6.lt c e.symm).1; omega
        refine ⟨?rel, ?measure⟩
        case rel => exact ⟨k + 1, by omega, by go_num, by rw [Hsn.out]; exact hown', HG6.out.kept hgrow (hnb _ hpl) (hnb _ hbl), HT6.out.trans_own hgrow (fun j e => (hown6.lt j e).1)⟩
        case measure => simp [intOf]; omega
    · have e1 : k = l.length := by omega
      subst e1
      have HO := Lib.hid hown
      clear hown hc
      go_wp2_with fail
      refine bodyPost_ret (v := .tuple #[u9, .int .i64 0]) (by simp [results, Tryz.results46, go_sem]) rfl ⟨_, by rw [HE.out], ?_, hwr⟩
      rw [choR, if_pos HE.out]
      exact HO.out.slOf
set_option maxHeartbeats 4000000 in
set_option maxRecDepth 100000 in
theorem chosenF_ok (v : Value) (l : List Spec) (w : World) (h : Specs w v l) :
    Calls Tryz.prog 46 #[v, .func (.func 48) #[] #[]] w fun e w' => ∃ u, e = .returned (.tuple #[u, .int .i64 (ofE l)]) ∧ Ints w' u (choR pickF l) ∧ Below w.heap.size w w' := by
  have h0 := h
  obtain ⟨A, c, rfl, _, _, hc⟩ := h.cells
  go_enter Tryz.func46, Tryz.ntmps46
  go_wp2_with fail
  refine (Of_ok _ _ _ h0).mono ?_
  rintro e w1 ⟨ug, rfl, ⟨v1, v2, v3, rfl, ⟨A1, c1, rfl, _⟩, ⟨A2, c2, rfl, _⟩, ⟨A3, c3, rfl, _⟩⟩, hb1⟩
  obtain ⟨W1, W2, hW1, hW2, HzW2, hkW1, hkW2, hbW2, hltW2⟩ := fresh w1 [.slice none 0 0, .slice none 0 0, .slice none 0 0] [.slice A1 (ofG l).obv.length c1, .slice A2 (ofG l).rev.length c2, .slice A3 (ofG l).links.length c3] 55 rfl
  have hsW2 : ((W1.setCell ⟨w1.heap.size, 0, none⟩ (.slice A1 (ofG l).obv.length c1)).setCell ⟨w1.heap.size, 1, none⟩ (.slice A2 (ofG l).rev.length c2)).setCell ⟨w1.heap.size, 2, none⟩ (.slice A3 (ofG l).links.length c3) = W2 := hW2
  clear hW2
  obtain ⟨⟨z0, z1, z2⟩, f0, f1, f2⟩ := cells3 hkW1
  clear hkW1 hkW2
  have hw2 := below_trans hb1 hbW2
  by_cases hE : ofE l = 0
  case neg =>
    have hd : (ofE l != 0) = true := by simpa using hE
    have HE := Lib.hid hE; clear hE
    go_wp2_with fail
    refine bodyPost_ret (v := .tuple #[.slice none 0 0, .int .i64 (ofE l)]) (by simp [results, Tryz.results46, go_sem]) rfl ⟨_, rfl, ?_, hw2⟩
    rw [choR, if_neg HE.out]
    exact (own_nil _ _ 0 0 _).slOf
  have hd : (ofE l != 0) = false := by simp [hE]
  have HE := Lib.hid hE; clear hE
  go_wp2_with fail
  clear z0 z1 z2 f0 f1 f2
  refine (begin_ok _).mono ?_
  rintro e w3 ⟨p, b, rfl, hG, hp0, hb0, hb3⟩
  have hw3 := below_trans hw2 hb3
  have hsz := hw2.size
  have hpl := heap_lt hG.blk; have hbl := hG.map.lt
  obtain ⟨iI, hiI, hzI, hkI, hbI⟩ := info_parts infoI
  go_wp2_with fail
  clear hsW2 hW1
  go_loopw [9, 23] (fun u i wr => ∃ k : Nat, k ≤ l.length ∧ i = .int .i64 k ∧ OwnI w3.heap.size wr u (choT pickF l k) ∧ GrAt wr p b (growL (l.take k)) ∧ Touch w3 wr [p, b]) (fun _ i _ => l.length - (intOf i).toNat)
  case atStart => exact ⟨0, Nat.zero_le _, rfl, own_nil _ _ _ _ _, hG, Touch.refl _ _⟩
  case round =>
    obtain ⟨k, hk, rfl, hown, hGr, hT⟩ := hrel
    have hwr : Below w.heap.size w wr := (touch_below hw3 [p, b]).trans hT |>.below (by simp; omega) (Nat.le_refl _)
    by_cases hlt : k < l.length
    · obtain ⟨bo, o, rfl, hbb, hc⟩ := hc k hlt
      obtain ⟨x, hx⟩ := get_of_lt hlt
      obtain ⟨y0, y1, y2, y3, y4, y5, y6⟩ := hc wr hwr k x hx
      obtain ⟨V1, V2, hV1, hV2, HzV2, hkV1, hkV2, hbV2, hltV2⟩ := fresh wr [.int .i64 0, .int .i64 0, .int .i64 0, .int .i64 0, .int .i64 0, .int .i64 0, .int .i64 0] [.int .i64 (x).id, .int .i64 (x).obv, .int .i64 (x).rev, .int .i64 (x).os, .int .i64 (x).rs, .int .i64 (x).ax, .int .i64 (x).wt] 43 rfl
      have hsV2 : ((((((V1.setCell ⟨wr.heap.size, 0, none⟩ (.int .i64 (x).id)).setCell ⟨wr.heap.size, 1, none⟩ (.int .i64 (x).obv)).setCell ⟨wr.heap.size, 2, none⟩ (.int .i64 (x).rev)).setCell ⟨wr.heap.size, 3, none⟩ (.int .i64 (x).os)).setCell ⟨wr.heap.size, 4, none⟩ (.int .i64 (x).rs)).setCell ⟨wr.heap.size, 5, none⟩ (.int .i64 (x).ax)).setCell ⟨wr.heap.size, 6, none⟩ (.int .i64 (x).wt) = V2 := hV2
      clear hV2
      obtain ⟨⟨z0, z1, z2, z3, z4, z5, z6⟩, f0, f1, f2, f3, f4, f5, f6⟩ := cellsS hkV1
      clear hkV1
      obtain ⟨⟨s0, s1, s2, s3, s4, s5, s6⟩, _⟩ := cellsS hkV2
      have hspec := ofE_spec HE.out hx
      have hG2 := hGr.below hbV2
      have Hown := Lib.hid (hown.below hbV2)
      have HT := Lib.hid (hT.trans (touch_below hbV2 [p, b]))
      have Hx := Lib.hid hx
      have hk4 : (l.take k).length ≤ 100 := by simp; omega
      have Hsn := Lib.hid (choT_snoc pickF hx)
      have hnp : wr.heap.size ∉ [p, b] := by have := hT.size; simp; omega
      clear hown hGr hT hx hc hG
      go_wp2_with fail
      refine (step_ok p b (l.take k) x V2 hG2 hspec.1 hk4).mono ?_
      rintro e w5 ⟨rfl, hG5, hT5⟩
      rw [← take_snoc' Hx.out] at hG5
      have hown5 := Hown.out.touch hT5 (by simp; omega)
      have t0 := cell_off hT5 hnp s0
      have HG5 := Lib.hid hG5; have HT5 := Lib.hid (HT.out.trans hT5)
      clear hG5 hT5 hG2 s0 s1 s2 s3 s4 s5 s6 z0 z1 z2 z3 z4 z5 z6 f0 f1 f2 f3 f4 f5 f6 y0 y1 y2 y3 y4 y5 y6 Hown
      go_wp2_with fail
      refine (forest_ok _ _ _).mono ?_
      rintro e w6 ⟨rfl, hb6⟩
      have hown6 := hown5.below hb6
      have t0 := cell_later hb6 t0
      have HG6 := Lib.hid (HG5.out.below hb6); have HT6 := Lib.hid (HT5.out.trans (touch_below hb6 [p, b]))
      have hz6 : w3.heap.size ≤ w6.heap.size := HT6.out.size
      have hll : (choT pickF l k).length ≤ 64 := by have := choT_len pickF l k; omega
      clear hown5 HG5 HT5
      have Hsn := Hsn.out
      cases hpk : pickF (apartG x (growL (l.take k))) (thereG x (growL (l.take k)))
      · rw [hpk, if_neg (by simp), List.append_nil] at Hsn
        have Hsn := Lib.hid Hsn
        go_wp2_with fail
        refine ⟨?rel, ?measure⟩
        case rel => exact ⟨k + 1, by omega, by go_num, by rw [Hsn.out]; exact hown6, HG6.out, HT6.out⟩
        case measure => simp [intOf]; omega
      · rw [hpk, if_pos rfl] at Hsn
        have Hsn := Lib.hid Hsn
        go_wp2_with (at_builtin; refine wpList_append1 (enc := encI) (size := 1) (B := w3.heap.size) rfl (.tmp 34) (.tmp 37) _ rfl 3 iI _ 8 Tryz.underlying30 hiI hzI hkI hbI rfl (by decide) rfl hown6 x.id _ rfl lenI oneI _ rfl rfl (by omega) (by omega) hz6 ?_; intro v' w7 hown' hgrow hat)
        have hnb : ∀ c, c < w3.heap.size → some c ≠ Value.ownBlock _ := fun c hc e => by have := (hown6.lt c e.symm).1; omega
        refine ⟨?rel, ?measure⟩
        case rel => exact ⟨k + 1, by omega, by go_num, by rw [Hsn.out]; exact hown', HG6.out.kept hgrow (hnb _ hpl) (hnb _ hbl), HT6.out.trans_own hgrow (fun j e => (hown6.lt j e).1)⟩
        case measure => simp [intOf]; omega
    · have e1 : k = l.length := by omega
      subst e1
      have HO := Lib.hid hown
      clear hown hc
      go_wp2_with fail
      refine bodyPost_ret (v := .tuple #[u9, .int .i64 0]) (by simp [results, Tryz.results46, go_sem]) rfl ⟨_, by rw [HE.out], ?_, hwr⟩
      rw [choR, if_pos HE.out]
      exact HO.out.slOf
set_option maxHeartbeats 4000000 in
theorem Joiners_ok (v : Value) (l : List Spec) (w : World) (h : Specs w v l) :
    Calls Tryz.prog 14 #[v] w fun e w' => ∃ u, e = .returned (.tuple #[u, .int .i64 (ofE l)]) ∧ Ints w' u (choR pickJ l) ∧ Below w.heap.size w w' := by
  obtain ⟨A, c, rfl, _⟩ := h.cells
  go_enter Tryz.func14, Tryz.ntmps14
  go_wp2_with fail
  refine (chosenJ_ok _ l _ h).mono ?_
  rintro e w1 ⟨u, rfl, hu, hb⟩
  have HU := Lib.hid hu; clear hu
  go_wp2_with fail
  refine bodyPost_ret (v := .tuple #[u, .int .i64 (ofE l)]) (by simp [results, Tryz.results14, go_sem]) rfl ⟨_, rfl, HU.out, hb⟩
set_option maxHeartbeats 4000000 in
theorem Forest_ok (v : Value) (l : List Spec) (w : World) (h : Specs w v l) :
    Calls Tryz.prog 15 #[v] w fun e w' => ∃ u, e = .returned (.tuple #[u, .int .i64 (ofE l)]) ∧ Ints w' u (choR pickF l) ∧ Below w.heap.size w w' := by
  obtain ⟨A, c, rfl, _⟩ := h.cells
  go_enter Tryz.func15, Tryz.ntmps15
  go_wp2_with fail
  refine (chosenF_ok _ l _ h).mono ?_
  rintro e w1 ⟨u, rfl, hu, hb⟩
  have HU := Lib.hid hu; clear hu
  go_wp2_with fail
  refine bodyPost_ret (v := .tuple #[u, .int .i64 (ofE l)]) (by simp [results, Tryz.results15, go_sem]) rfl ⟨_, rfl, HU.out, hb⟩
end Go.Proofs.YtcpobcfncmcakaaGreat
/- First. Condition: the argument reads as a list of specimens, the dies' numbers are numbers. -/
namespace Go.Proofs.YtcpobcfncmcakaaGreat
open Go.RowKit Go.Maps

theorem find_at {f : Nat → Bool} {n k : Nat} (hk : k < n) (h : f k = true) (hb : ∀ j, j < k → f j = false) : (List.range n).find? f = some k := by
  rw [List.find?_range_eq_some]
  exact ⟨h, List.mem_range.2 hk, fun j hj => by rw [hb j hj]; rfl⟩
theorem find_no {f : Nat → Bool} {n : Nat} (h : ∀ j, j < n → f j = false) : (List.range n).find? f = none := by
  rw [List.find?_eq_none]
  intro j hj
  rw [h j (List.mem_range.1 hj)]
  simp
/-- After how many specimens two dies are joined, less one. -/
noncomputable def firstK (l : List Spec) (a b : Die) : Option Nat := (List.range l.length).find? fun k => joinB (edgesS (l.take (k + 1))) a b
noncomputable def firstR (l : List Spec) (a b : Die) : Int × Int := if ofE l = 0 then match firstK l a b with
  | some k => (((l[k]?).map Spec.id).getD 0, 0)
  | none => (0, 7)
  else (0, ofE l)

set_option maxHeartbeats 4000000 in
set_option maxRecDepth 100000 in
theorem First_ok (v : Value) (l : List Spec) (da db : Die) (w : World) (h : Specs w v l) (hda : wfD da) (hdb : wfD db) :
    Calls Tryz.prog 8 #[v, vlD da, vlD db] w fun e w' => e = .returned (.tuple #[.int .i64 (firstR l da db).1, .int .i64 (firstR l da db).2]) ∧ Below w.heap.size w w' := by
  obtain ⟨X0, hX0, HzX0, hbX0, hltX0, hcX0⟩ := boxed w #[.int .i64 da.side, .int .i64 da.num] 24
  obtain ⟨X1, hX1, HzX1, hbX1, hltX1, hcX1⟩ := boxed X0 #[.int .i64 db.side, .int .i64 db.num] 24
  have hX := below_trans hbX0 hbX1
  have h0 := h.below hX
  have a0 := cell_later hbX1 (hcX0 0 _ rfl); have a1 := cell_later hbX1 (hcX0 1 _ rfl)
  have b0 := hcX1 0 _ rfl; have b1 := hcX1 1 _ rfl
  clear hcX0 hcX1
  obtain ⟨A, c, rfl, _, _, hc⟩ := h.cells
  go_enter Tryz.func8, Tryz.ntmps8
  go_wp2_with fail
  refine (Of_ok _ _ _ h0).mono ?_
  rintro e w1 ⟨ug, rfl, ⟨v1, v2, v3, rfl, ⟨A1, c1, rfl, _⟩, ⟨A2, c2, rfl, _⟩, ⟨A3, c3, rfl, _⟩⟩, hb1⟩
  have a0 := cell_later hb1 a0; have a1 := cell_later hb1 a1; have b0 := cell_later hb1 b0; have b1 := cell_later hb1 b1
  obtain ⟨W1, W2, hW1, hW2, HzW2, hkW1, hkW2, hbW2, hltW2⟩ := fresh w1 [.slice none 0 0, .slice none 0 0, .slice none 0 0] [.slice A1 (ofG l).obv.length c1, .slice A2 (ofG l).rev.length c2, .slice A3 (ofG l).links.length c3] 55 rfl
  have hsW2 : ((W1.setCell ⟨w1.heap.size, 0, none⟩ (.slice A1 (ofG l).obv.length c1)).setCell ⟨w1.heap.size, 1, none⟩ (.slice A2 (ofG l).rev.length c2)).setCell ⟨w1.heap.size, 2, none⟩ (.slice A3 (ofG l).links.length c3) = W2 := hW2
  clear hW2
  obtain ⟨⟨z0, z1, z2⟩, f0, f1, f2⟩ := cells3 hkW1
  clear hkW1 hkW2
  have a0 := cell_later hbW2 a0; have a1 := cell_later hbW2 a1; have b0 := cell_later hbW2 b0; have b1 := cell_later hbW2 b1
  have hw2 := below_trans hX (below_trans hb1 hbW2)
  by_cases hE : ofE l = 0
  case neg =>
    have hd : (ofE l != 0) = true := by simpa using hE
    have HE := Lib.hid hE; clear hE
    clear a0 a1 b0 b1
    go_wp2_with fail
    refine bodyPost_ret (v := .tuple #[.int .i64 0, .int .i64 (ofE l)]) (by simp [results, Tryz.results8, go_sem]) rfl ⟨?_, hw2⟩
    rw [firstR, if_neg HE.out]
  have hd : (ofE l != 0) = false := by simp [hE]
  have HE := Lib.hid hE; clear hE
  clear hX0 hX1
  go_wp2_with fail
  clear z0 z1 z2 f0 f1 f2
  refine (begin_ok _).mono ?_
  rintro e w3 ⟨p, b, rfl, hG, hp0, hb0, hb3⟩
  have a0 := cell_later hb3 a0; have a1 := cell_later hb3 a1; have b0 := cell_later hb3 b0; have b1 := cell_later hb3 b1
  have hw3 := below_trans hw2 hb3
  have hsz := hw2.size
  have hpl := heap_lt hG.blk; have hbl := hG.map.lt
  have hX0l : w.heap.size ∉ [p, b] ∧ X0.heap.size ∉ [p, b] := by have := hb1.size; simp; omega
  go_wp2_with fail
  clear hsW2 hW1
  go_loopw [24] (fun i wr => ∃ k : Nat, k ≤ l.length ∧ i = .int .i64 k ∧ GrAt wr p b (growL (l.take k)) ∧ Touch w3 wr [p, b] ∧ ∀ j, j < k → joinB (edgesS (l.take (j + 1))) da db = false) (fun i _ => l.length - (intOf i).toNat)
  case atStart => exact ⟨0, Nat.zero_le _, rfl, hG, Touch.refl _ _, fun j hj => absurd hj (by omega)⟩
  case round =>
    obtain ⟨k, hk, rfl, hGr, hT, hno⟩ := hrel
    have hwr : Below w.heap.size w wr := (touch_below hw3 [p, b]).trans hT |>.below (by simp; omega) (Nat.le_refl _)
    have HN := Lib.hid hno; clear hno
    by_cases hlt : k < l.length
    · obtain ⟨bo, o, rfl, hbb, hc⟩ := hc k hlt
      obtain ⟨x, hx⟩ := get_of_lt hlt
      obtain ⟨y0, y1, y2, y3, y4, y5, y6⟩ := hc wr hwr k x hx
      obtain ⟨V1, V2, hV1, hV2, HzV2, hkV1, hkV2, hbV2, hltV2⟩ := fresh wr [.int .i64 0, .int .i64 0, .int .i64 0, .int .i64 0, .int .i64 0, .int .i64 0, .int .i64 0] [.int .i64 (x).id, .int .i64 (x).obv, .int .i64 (x).rev, .int .i64 (x).os, .int .i64 (x).rs, .int .i64 (x).ax, .int .i64 (x).wt] 43 rfl
      have hsV2 : ((((((V1.setCell ⟨wr.heap.size, 0, none⟩ (.int .i64 (x).id)).setCell ⟨wr.heap.size, 1, none⟩ (.int .i64 (x).obv)).setCell ⟨wr.heap.size, 2, none⟩ (.int .i64 (x).rev)).setCell ⟨wr.heap.size, 3, none⟩ (.int .i64 (x).os)).setCell ⟨wr.heap.size, 4, none⟩ (.int .i64 (x).rs)).setCell ⟨wr.heap.size, 5, none⟩ (.int .i64 (x).ax)).setCell ⟨wr.heap.size, 6, none⟩ (.int .i64 (x).wt) = V2 := hV2
      clear hV2
      obtain ⟨⟨z0, z1, z2, z3, z4, z5, z6⟩, f0, f1, f2, f3, f4, f5, f6⟩ := cellsS hkV1
      clear hkV1
      obtain ⟨⟨s0, s1, s2, s3, s4, s5, s6⟩, _⟩ := cellsS hkV2
      have hspec := ofE_spec HE.out hx
      have hG2 := hGr.below hbV2
      have HT := Lib.hid (hT.trans (touch_below hbV2 [p, b]))
      have Hx := Lib.hid hx
      have hk4 : (l.take k).length ≤ 100 := by simp; omega
      have hnp : wr.heap.size ∉ [p, b] := by have := hT.size; simp; omega
      have Ha := Lib.hid (⟨a0, a1, b0, b1⟩ : _ ∧ _ ∧ _ ∧ _)
      clear hGr hT hx hc hG a0 a1 b0 b1
      go_wp2_with fail
      refine (step_ok p b (l.take k) x V2 hG2 hspec.1 hk4).mono ?_
      rintro e w5 ⟨rfl, hG5, hT5⟩
      rw [← take_snoc' Hx.out] at hG5
      have t0 := cell_off hT5 hnp s0
      have HG5 := Lib.hid hG5; have HT5 := Lib.hid (HT.out.trans hT5)
      have a0 := cell_off HT5.out hX0l.1 Ha.out.1; have a1 := cell_off HT5.out hX0l.1 Ha.out.2.1; have b0 := cell_off HT5.out hX0l.2 Ha.out.2.2.1; have b1 := cell_off HT5.out hX0l.2 Ha.out.2.2.2
      clear hG5 hT5 hG2 s0 s1 s2 s3 s4 s5 s6 z0 z1 z2 z3 z4 z5 z6 f0 f1 f2 f3 f4 f5 f6 y0 y1 y2 y3 y4 y5 y6
      go_wp2_with fail
      refine (joined_ok p b da db _ w5 HG5.out hda hdb).mono ?_
      rintro e w6 ⟨rfl, hb6⟩
      rw [← (ninv_list (l.take (k + 1))).joined]
      have t0 := cell_later hb6 t0
      have HG6 := Lib.hid (HG5.out.below hb6); have HT6 := Lib.hid (HT5.out.trans (touch_below hb6 [p, b]))
      clear HG5 HT5 a0 a1 b0 b1
      cases hj : joinB (edgesS (l.take (k + 1))) da db
      · have HJ := Lib.hid hj; clear hj
        go_wp2_with fail
        refine ⟨?rel, ?measure⟩
        case rel => exact ⟨k + 1, by omega, by go_num, HG6.out, HT6.out, fun j hj => by rcases Nat.lt_or_ge j k with h | h; exact HN.out j h; rw [show j = k by omega]; exact HJ.out⟩
        case measure => simp [intOf]; omega
      · have HF := Lib.hid (find_at hlt hj HN.out); clear hj
        have hw6 : Below w.heap.size w w6 := (touch_below hw3 [p, b]).trans HT6.out |>.below (by simp; omega) (Nat.le_refl _)
        go_wp2_with fail
        refine bodyPost_ret (v := .tuple #[.int .i64 x.id, .int .i64 0]) (by simp [results, Tryz.results8, go_sem]) rfl ⟨?_, hw6⟩
        rw [firstR, if_pos HE.out, firstK, HF.out]
        simp [Hx.out]
    · have e1 : k = l.length := by omega
      subst e1
      have HF := Lib.hid (find_no HN.out)
      clear hc a0 a1 b0 b1
      go_wp2_with fail
      refine bodyPost_ret (v := .tuple #[.int .i64 0, .int .i64 7]) (by simp [results, Tryz.results8, go_sem]) rfl ⟨?_, hwr⟩
      rw [firstR, if_pos HE.out, firstK, HF.out]
end Go.Proofs.YtcpobcfncmcakaaGreat
