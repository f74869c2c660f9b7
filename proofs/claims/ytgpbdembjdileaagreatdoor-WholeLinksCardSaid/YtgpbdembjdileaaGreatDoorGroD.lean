/- The growth of a list of specimens, step by step; History. Condition: the argument reads as a list of specimens. -/
import Derived.Test.YtgpbdembjdileaaGreatDoorGroC
import Derived.Test.YtgpbdembjdileaaGreatDoorJoinQ
import Derived.Test.YtgpbdembjdileaaGreatDoorLinkD
import Derived.Test.YtgpbdembjdileaaGreatDoorFresh
import Derived.Test.YtgpbdembjdileaaGreatDoorDelL
import Derived.Test.YtgpbdembjdileaaGreatDoorIter
namespace Go.Proofs.YtgpbdembjdileaaGreatDoor
open Go.RowKit Go.Maps

theorem enterG_more (s : Spec) (g : Gr) : (enterG s g).named ≤ g.named + 2 ∧ (enterG s g).count ≤ g.count + 2 ∧ (enterG s g).m.length ≤ g.m.length + 2 := by
  have h1 := @know_named (dA s) g
  have h2 := @know_named (dB s) (knowG (dA s) g)
  unfold enterG
  have e : bothG s g = knowG (dB s) (knowG (dA s) g) := rfl
  split
  · rw [e]; omega
  · have hl : (turnM (bothG s g).m (fromG s g) (toG s g)).length = (bothG s g).m.length := List.length_map _
    simp only [hl]
    rw [e]; omega
theorem growL_more (l : List Spec) : (growL l).named ≤ 2 * l.length ∧ (growL l).count ≤ 2 * l.length ∧ (growL l).m.length ≤ 2 * l.length := by
  have : ∀ k, k ≤ l.length → (growL (l.take k)).named ≤ 2 * k ∧ (growL (l.take k)).count ≤ 2 * k ∧ (growL (l.take k)).m.length ≤ 2 * k := by
    intro k
    induction k with
    | zero => intro _; exact ⟨Nat.le_refl _, Nat.le_refl _, Nat.le_refl _⟩
    | succ k ih =>
      intro hk
      obtain ⟨s, hs⟩ := get_of_lt (show k < l.length by omega)
      rw [growL_take hs]
      have h1 := ih (by omega)
      have h2 := enterG_more s (growL (l.take k))
      omega
  have := this l.length (Nat.le_refl _)
  rwa [List.take_length] at this
theorem NInv.pos {E : List (Die × Die)} {g : Gr} (h : NInv E g) (s : Spec) (hne : fromG s g ≠ toG s g) : 1 ≤ (bothG s g).count := by
  have hb := h.both s
  obtain ⟨t, ht⟩ := hb.some (d := dA s) (by simp)
  obtain ⟨f, hf⟩ := hb.some (d := dB s) (by simp)
  have eF : fromG s g = f := by rw [fromG, hf]; rfl
  have eT : toG s g = t := by rw [toG, ht]; rfl
  have hfm : f ∈ (bothG s g).m.map Prod.snd := List.mem_map.2 ⟨_, lookM_some hf, rfl⟩
  have htm : t ∈ (bothG s g).m.map Prod.snd := List.mem_map.2 ⟨_, lookM_some ht, rfl⟩
  rw [eF, eT] at hne
  have := dcount_merge (n := (bothG s g).named) hfm htm hne hb.vals
  rw [hb.cnt]
  omega
theorem specB_wf {s : Spec} (h : specB s = true) : wfD (dA s) ∧ wfD (dB s) ∧ (1 ≤ s.id ∧ s.id ≤ 9999) := by
  simp only [specB, inB, Bool.and_eq_true, decide_eq_true_eq] at h
  obtain ⟨⟨⟨⟨h1, h2⟩, ⟨⟨⟨h3, h4⟩, h5, h6⟩, _⟩, _⟩, _⟩, _⟩ := h
  have k1 : wfI s.obv := wf_small (by omega) (by omega)
  have k2 : wfI s.rev := wf_small (by omega) (by omega)
  exact ⟨⟨wfN (n := 0) (by omega), k1⟩, ⟨wfN (n := 1) (by omega), k2⟩, h1, h2⟩
theorem step_ok (p b : Nat) (l : List Spec) (s : Spec) (w : World) (h : GrAt w p b (growL l)) (hs : specB s = true) (hl : l.length ≤ 100) :
    Calls Tryz.prog 29 #[.pointer (some ⟨p, 0, none⟩), valS s] w fun e w' => e = .returned (.tuple #[.bool (apartG s (growL l)), .bool (thereG s (growL l))]) ∧ GrAt w' p b (growL (l ++ [s])) ∧ Touch w w' [p, b] := by
  have h1 := growL_more l
  have h2 := specB_wf hs
  rw [growL_snoc]
  exact enter_ok p b s (growL l) w h h2.1 h2.2.1 (by omega) (by omega) (by omega) ((ninv_list l).pos s)
theorem ofE_spec {l : List Spec} (h : ofE l = 0) {k : Nat} {s : Spec} (hs : l[k]? = some s) : specB s = true ∧ l.length ≤ 64 := by
  have := checkE_zero (ofE_zero h).1
  exact ⟨List.all_eq_true.1 this.2.1 s (List.mem_of_getElem? hs), this.1⟩

theorem GrAt.kept {w w' : World} {p b : Nat} {g : Gr} {row : Option Nat} (h : GrAt w p b g) (hg : w.grownBy w' row) (h1 : some p ≠ row) (h2 : some b ≠ row) : GrAt w' p b g := ⟨(hg.block p (heap_lt h.blk) h1).trans h.blk, h.map.kept hg h2, h.ne⟩
/-- The numbers of components. -/
def histT (l : List Spec) (k : Nat) : List Int := (List.range k).map fun j => ((growL (l.take (j + 1))).count : Int)
theorem histT_snoc (l : List Spec) (k : Nat) : histT l (k + 1) = histT l k ++ [((growL (l.take (k + 1))).count : Int)] := by
  rw [histT, List.range_succ, List.map_append]; rfl
def histR (l : List Spec) : List Int := if ofE l = 0 then histT l l.length else []

set_option maxHeartbeats 4000000 in
set_option maxRecDepth 100000 in
theorem History_ok (v : Value) (l : List Spec) (w : World) (h : Specs w v l) :
    Calls Tryz.prog 7 #[v] w fun e w' => ∃ u, e = .returned (.tuple #[u, .int .i64 (ofE l)]) ∧ Ints w' u (histR l) ∧ Below w.heap.size w w' := by
  have h0 := h
  obtain ⟨A, c, rfl, _, _, hc⟩ := h.cells
  go_enter Tryz.func7, Tryz.ntmps7
  go_wp2_with fail
  refine (Of_ok _ _ _ h0).mono ?_
  rintro e w1 ⟨ug, rfl, ⟨v1, v2, v3, rfl, ⟨A1, c1, rfl, _⟩, ⟨A2, c2, rfl, _⟩, ⟨A3, c3, rfl, _⟩⟩, hb1⟩
  obtain ⟨W1, W2, hW1, hW2, HzW2, hkW1, hkW2, hbW2, hltW2⟩ := fresh w1 [.slice none 0 0, .slice none 0 0, .slice none 0 0] [.slice A1 (ofG l).obv.length c1, .slice A2 (ofG l).rev.length c2, .slice A3 (ofG l).links.length c3] 29 rfl
  have hsW2 : ((W1.setCell ⟨w1.heap.size, 0, none⟩ (.slice A1 (ofG l).obv.length c1)).setCell ⟨w1.heap.size, 1, none⟩ (.slice A2 (ofG l).rev.length c2)).setCell ⟨w1.heap.size, 2, none⟩ (.slice A3 (ofG l).links.length c3) = W2 := hW2
  clear hW2
  obtain ⟨⟨z0, z1, z2⟩, f0, f1, f2⟩ := cells3 hkW1
  clear hkW1 hkW2
  have hw2 := below_trans hb1 hbW2
  by_cases hE : ofE l = 0
  case neg =>
    have hd : (ofE l != 0) = true := by simpa using hE
    have HE := Lib.hid hE; clear hE
    go_wp2_with fail
    refine bodyPost_ret (v := .tuple #[.slice none 0 0, .int .i64 (ofE l)]) (by simp [results, Tryz.results7, go_sem]) rfl ⟨_, rfl, ?_, hw2⟩
    rw [histR, if_neg HE.out]
    exact (own_nil _ _ 0 0 _).slOf
  have hd : (ofE l != 0) = false := by simp [hE]
  have HE := Lib.hid hE; clear hE
  go_wp2_with fail
  clear z0 z1 z2 f0 f1 f2
  refine (begin_ok _).mono ?_
  rintro e w3 ⟨p, b, rfl, hG, hp0, hb0, hb3⟩
  have hw3 := below_trans hw2 hb3
  have hsz := hw2.size
  have hpl := heap_lt hG.blk; have hbl := hG.map.lt
  obtain ⟨iI, hiI, hzI, hkI, hbI⟩ := info_parts infoI
  go_wp2_with fail
  clear hsW2 hW1
  go_loopw [7, 21] (fun u i wr => ∃ k : Nat, k ≤ l.length ∧ i = .int .i64 k ∧ OwnI w3.heap.size wr u (histT l k) ∧ GrAt wr p b (growL (l.take k)) ∧ Touch w3 wr [p, b]) (fun _ i _ => l.length - (intOf i).toNat)
  case atStart => exact ⟨0, Nat.zero_le _, rfl, own_nil _ _ _ _ _, hG, Touch.refl _ _⟩
  case round =>
    obtain ⟨k, hk, rfl, hown, hGr, hT⟩ := hrel
    have hwr : Below w.heap.size w wr := (touch_below hw3 [p, b]).trans hT |>.below (by simp; omega) (Nat.le_refl _)
    by_cases hlt : k < l.length
    · obtain ⟨bo, o, rfl, hbb, hc⟩ := hc k hlt
      obtain ⟨x, hx⟩ := get_of_lt hlt
      obtain ⟨y0, y1, y2, y3, y4, y5, y6⟩ := hc wr hwr k x hx
      obtain ⟨V1, V2, hV1, hV2, HzV2, hkV1, hkV2, hbV2, hltV2⟩ := fresh wr [.int .i64 0, .int .i64 0, .int .i64 0, .int .i64 0, .int .i64 0, .int .i64 0, .int .i64 0] [.int .i64 (x).id, .int .i64 (x).obv, .int .i64 (x).rev, .int .i64 (x).os, .int .i64 (x).rs, .int .i64 (x).ax, .int .i64 (x).wt] 47 rfl
      have hsV2 : ((((((V1.setCell ⟨wr.heap.size, 0, none⟩ (.int .i64 (x).id)).setCell ⟨wr.heap.size, 1, none⟩ (.int .i64 (x).obv)).setCell ⟨wr.heap.size, 2, none⟩ (.int .i64 (x).rev)).setCell ⟨wr.heap.size, 3, none⟩ (.int .i64 (x).os)).setCell ⟨wr.heap.size, 4, none⟩ (.int .i64 (x).rs)).setCell ⟨wr.heap.size, 5, none⟩ (.int .i64 (x).ax)).setCell ⟨wr.heap.size, 6, none⟩ (.int .i64 (x).wt) = V2 := hV2
      clear hV2
      obtain ⟨⟨z0, z1, z2, z3, z4, z5, z6⟩, f0, f1, f2, f3, f4, f5, f6⟩ := cellsS hkV1
      clear hkV1
      obtain ⟨⟨s0, s1, s2, s3, s4, s5, s6⟩, _⟩ := cellsS hkV2
      have hspec := ofE_spec HE.out hx
      have hG2 := hGr.below hbV2
      have Hown := Lib.hid (hown.below hbV2)
      have HT := Lib.hid (hT.trans (touch_below hbV2 [p, b]))
      have Hx := Lib.hid hx
      have hk4 : (l.take k).length ≤ 100 := by simp; omega
      clear hown hGr hT hx hc hkV2 hG
      go_wp2_with fail
      refine (step_ok p b (l.take k) x V2 hG2 hspec.1 hk4).mono ?_
      rintro e w5 ⟨rfl, hG5, hT5⟩
      rw [← take_snoc' Hx.out] at hG5
      have hown5 := Hown.out.touch hT5 (by simp; omega)
      have hT6 := HT.out.trans hT5
      have hz5 : w3.heap.size ≤ w5.heap.size := hT6.size
      obtain ⟨_, _, q2, _, _⟩ := blk_cells hG5.blk
      have HG5 := Lib.hid hG5; have HT6 := Lib.hid hT6
      have hll : (histT l k).length ≤ 64 := by rw [histT, List.length_map, List.length_range]; omega
      clear hG5 hT5 hT6 hG2 s0 s1 s2 s3 s4 s5 s6 z0 z1 z2 z3 z4 z5 z6 f0 f1 f2 f3 f4 f5 f6 y0 y1 y2 y3 y4 y5 y6
      go_wp2_with (at_builtin; refine wpList_append1 (enc := encI) (size := 1) (B := w3.heap.size) rfl (.tmp 28) (.tmp 33) _ rfl 3 iI _ 8 Tryz.underlying26 hiI hzI hkI hbI rfl (by decide) rfl hown5 ((growL (l.take (k + 1))).count : Int) _ rfl lenI oneI _ rfl rfl (by omega) (by omega) hz5 ?_; intro v' w7 hown' hgrow hat)
      have hnb : ∀ c, c < w3.heap.size → some c ≠ Value.ownBlock _ := fun c hc e => by have := (hown5.lt c e.symm).1; omega
      refine ⟨?rel, ?measure⟩
      case rel => exact ⟨k + 1, by omega, by go_num, by rw [histT_snoc]; exact hown', HG5.out.kept hgrow (hnb _ hpl) (hnb _ hbl), HT6.out.trans_own hgrow (fun j e => (hown5.lt j e).1)⟩
      case measure => simp [intOf]; omega
    · have e1 : k = l.length := by omega
      subst e1
      have HO := Lib.hid hown
      clear hown hc
      go_wp2_with fail
      refine bodyPost_ret (v := .tuple #[u7, .int .i64 0]) (by simp [results, Tryz.results7, go_sem]) rfl ⟨_, by rw [HE.out], ?_, hwr⟩
      rw [histR, if_pos HE.out]
      exact HO.out.slOf
end Go.Proofs.YtgpbdembjdileaaGreatDoor
/- chosen, Joiners, Forest, First. Condition: the argument reads as a list of specimens. -/
namespace Go.Proofs.YtgpbdembjdileaaGreatDoor
open Go.RowKit Go.Maps

def pickJ (x y : Bool) : Bool := x && y
def pickF (x _ : Bool) : Bool := x
set_option maxHeartbeats 1000000 in
theorem forest_ok (x y : Bool) (w : World) : Calls Tryz.prog 40 #[.bool x, .bool y] w fun e w' => e = .returned (.bool (pickF x y)) ∧ Below w.heap.size w w' := by
  go_enter Tryz.func40, Tryz.ntmps40
  go_wp2_with fail
  go_ret
  exact ⟨rfl, Below.refl _ _⟩
/-- The numbers of the specimens for which pick is true. -/
def choT (pick : Bool → Bool → Bool) (l : List Spec) (k : Nat) : List Int := (List.range k).flatMap fun j => match l[j]? with
  | some s => if pick (apartG s (growL (l.take j))) (thereG s (growL (l.take j))) then [s.id] else []
  | none => []
theorem choT_snoc (pick : Bool → Bool → Bool) {l : List Spec} {k : Nat} {s : Spec} (h : l[k]? = some s) : choT pick l (k + 1) = choT pick l k ++ if pick (apartG s (growL (l.take k))) (thereG s (growL (l.take k))) then [s.id] else [] := by
  rw [choT, List.range_succ, List.flatMap_append]
  simp [choT, h]
theorem choT_len (pick : Bool → Bool → Bool) (l : List Spec) : ∀ k, (choT pick l k).length ≤ k := by
  intro k
  induction k with
  | zero => simp [choT]
  | succ k ih =>
    cases h : l[k]? with
    | none =>
      have e : choT pick l (k + 1) = choT pick l k := by
        rw [choT, List.range_succ, List.flatMap_append]
        simp [choT, h]
      rw [e]; omega
    | some s =>
      rw [choT_snoc pick h, List.length_append]
      split <;> simp <;> omega
def choR (pick : Bool → Bool → Bool) (l : List Spec) : List Int := if ofE l = 0 then choT pick l l.length else []

set_option maxHeartbeats 4000000 in
set_option maxRecDepth 100000 in
theorem chosenF_ok (v : Value) (l : List Spec) (w : World) (h : Specs w v l) :
    Calls Tryz.prog 39 #[v, .func (.func 40) #[] #[]] w fun e w' => ∃ u, e = .returned (.tuple #[u, .int .i64 (ofE l)]) ∧ Ints w' u (choR pickF l) ∧ Below w.heap.size w w' := by
  have h0 := h
  obtain ⟨A, c, rfl, _, _, hc⟩ := h.cells
  go_enter Tryz.func39, Tryz.ntmps39
  go_wp2_with fail
  refine (Of_ok _ _ _ h0).mono ?_
  rintro e w1 ⟨ug, rfl, ⟨v1, v2, v3, rfl, ⟨A1, c1, rfl, _⟩, ⟨A2, c2, rfl, _⟩, ⟨A3, c3, rfl, _⟩⟩, hb1⟩
  obtain ⟨W1, W2, hW1, hW2, HzW2, hkW1, hkW2, hbW2, hltW2⟩ := fresh w1 [.slice none 0 0, .slice none 0 0, .slice none 0 0] [.slice A1 (ofG l).obv.length c1, .slice A2 (ofG l).rev.length c2, .slice A3 (ofG l).links.length c3] 29 rfl
  have hsW2 : ((W1.setCell ⟨w1.heap.size, 0, none⟩ (.slice A1 (ofG l).obv.length c1)).setCell ⟨w1.heap.size, 1, none⟩ (.slice A2 (ofG l).rev.length c2)).setCell ⟨w1.heap.size, 2, none⟩ (.slice A3 (ofG l).links.length c3) = W2 := hW2
  clear hW2
  obtain ⟨⟨z0, z1, z2⟩, f0, f1, f2⟩ := cells3 hkW1
  clear hkW1 hkW2
  have hw2 := below_trans hb1 hbW2
  by_cases hE : ofE l = 0
  case neg =>
    have hd : (ofE l != 0) = true := by simpa using hE
    have HE := Lib.hid hE; clear hE
    go_wp2_with fail
    refine bodyPost_ret (v := .tuple #[.slice none 0 0, .int .i64 (ofE l)]) (by simp [results, Tryz.results39, go_sem]) rfl ⟨_, rfl, ?_, hw2⟩
    rw [choR, if_neg HE.out]
    exact (own_nil _ _ 0 0 _).slOf
  have hd : (ofE l != 0) = false := by simp [hE]
  have HE := Lib.hid hE; clear hE
  go_wp2_with fail
  clear z0 z1 z2 f0 f1 f2
  refine (begin_ok _).mono ?_
  rintro e w3 ⟨p, b, rfl, hG, hp0, hb0, hb3⟩
  have hw3 := below_trans hw2 hb3
  have hsz := hw2.size
  have hpl := heap_lt hG.blk; have hbl := hG.map.lt
  obtain ⟨iI, hiI, hzI, hkI, hbI⟩ := info_parts infoI
  go_wp2_with fail
  clear hsW2 hW1
  go_loopw [9, 23] (fun u i wr => ∃ k : Nat, k ≤ l.length ∧ i = .int .i64 k ∧ OwnI w3.heap.size wr u (choT pickF l k) ∧ GrAt wr p b (growL (l.take k)) ∧ Touch w3 wr [p, b]) (fun _ i _ => l.length - (intOf i).toNat)
  case atStart => exact ⟨0, Nat.zero_le _, rfl, own_nil _ _ _ _ _, hG, Touch.refl _ _⟩
  case round =>
    obtain ⟨k, hk, rfl, hown, hGr, hT⟩ := hrel
    have hwr : Below w.heap.size w wr := (touch_below hw3 [p, b]).trans hT |>.below (by simp; omega) (Nat.le_refl _)
    by_cases hlt : k < l.length
    · obtain ⟨bo, o, rfl, hbb, hc⟩ := hc k hlt
      obtain ⟨x, hx⟩ := get_of_lt hlt
      obtain ⟨y0, y1, y2, y3, y4, y5, y6⟩ := hc wr hwr k x hx
      obtain ⟨V1, V2, hV1, hV2, HzV2, hkV1, hkV2, hbV2, hltV2⟩ := fresh wr [.int .i64 0, .int .i64 0, .int .i64 0, .int .i64 0, .int .i64 0, .int .i64 0, .int .i64 0] [.int .i64 (x).id, .int .i64 (x).obv, .int .i64 (x).rev, .int .i64 (x).os, .int .i64 (x).rs, .int .i64 (x).ax, .int .i64 (x).wt] 47 rfl
      have hsV2 : ((((((V1.setCell ⟨wr.heap.size, 0, none⟩ (.int .i64 (x).id)).setCell ⟨wr.heap.size, 1, none⟩ (.int .i64 (x).obv)).setCell ⟨wr.heap.size, 2, none⟩ (.int .i64 (x).rev)).setCell ⟨wr.heap.size, 3, none⟩ (.int .i64 (x).os)).setCell ⟨wr.heap.size, 4, none⟩ (.int .i64 (x).rs)).setCell ⟨wr.heap.size, 5, none⟩ (.int .i64 (x).ax)).setCell ⟨wr.heap.size, 6, none⟩ (.int .i64 (x).wt) = V2 := hV2
      clear hV2
      obtain ⟨⟨z0, z1, z2, z3, z4, z5, z6⟩, f0, f1, f2, f3, f4, f5, f6⟩ := cellsS hkV1
      clear hkV1
      obtain ⟨⟨s0, s1, s2, s3, s4, s5, s6⟩, _⟩ := cellsS hkV2
      have hspec := ofE_spec HE.out hx
      have hG2 := hGr.below hbV2
      have Hown := Lib.hid (hown.below hbV2)
      have HT := Lib.hid (hT.trans (touch_below hbV2 [p, b]))
      have Hx := Lib.hid hx
      have hk4 : (l.take k).length ≤ 100 := by simp; omega
      have Hsn := Lib.hid (choT_snoc pickF hx)
      have hnp : wr.heap.size ∉ [p, b] := by have := hT.size; simp; omega
      clear hown hGr hT hx hc hG
      go_wp2_with fail
      refine (step_ok p b (l.take k) x V2 hG2 hspec.1 hk4).mono ?_
      rintro e w5 ⟨rfl, hG5, hT5⟩
      rw [← take_snoc' Hx.out] at hG5
      have hown5 := Hown.out.touch hT5 (by simp; omega)
      have t0 := cell_off hT5 hnp s0
      have HG5 := Lib.hid hG5; have HT5 := Lib.hid (HT.out.trans hT5)
      clear hG5 hT5 hG2 s0 s1 s2 s3 s4 s5 s6 z0 z1 z2 z3 z4 z5 z6 f0 f1 f2 f3 f4 f5 f6 y0 y1 y2 y3 y4 y5 y6 Hown
      go_wp2_with fail
      refine (forest_ok _ _ _).mono ?_
      rintro e w6 ⟨rfl, hb6⟩
      have hown6 := hown5.below hb6
      have t0 := cell_later hb6 t0
      have HG6 := Lib.hid (HG5.out.below hb6); have HT6 := Lib.hid (HT5.out.trans (touch_below hb6 [p, b]))
      have hz6 : w3.heap.size ≤ w6.heap.size := HT6.out.size
      have hll : (choT pickF l k).length ≤ 64 := by have := choT_len pickF l k; omega
      clear hown5 HG5 HT5
      have Hsn := Hsn.out
      cases hpk : pickF (apartG x (growL (l.take k))) (thereG x (growL (l.take k)))
      · rw [hpk, if_neg (by simp), List.append_nil] at Hsn
        have Hsn := Lib.hid Hsn
        go_wp2_with fail
        refine ⟨?rel, ?measure⟩
        case rel => exact ⟨k + 1, by omega, by go_num, by rw [Hsn.out]; exact hown6, HG6.out, HT6.out⟩
        case measure => simp [intOf]; omega
      · rw [hpk, if_pos rfl] at Hsn
        have Hsn := Lib.hid Hsn
        go_wp2_with (at_builtin; refine wpList_append1 (enc := encI) (size := 1) (B := w3.heap.size) rfl (.tmp 34) (.tmp 37) _ rfl 3 iI _ 8 Tryz.underlying26 hiI hzI hkI hbI rfl (by decide) rfl hown6 x.id _ rfl lenI oneI _ rfl rfl (by omega) (by omega) hz6 ?_; intro v' w7 hown' hgrow hat)
        have hnb : ∀ c, c < w3.heap.size → some c ≠ Value.ownBlock _ := fun c hc e => by have := (hown6.lt c e.symm).1; omega
        refine ⟨?rel, ?measure⟩
        case rel => exact ⟨k + 1, by omega, by go_num, by rw [Hsn.out]; exact hown', HG6.out.kept hgrow (hnb _ hpl) (hnb _ hbl), HT6.out.trans_own hgrow (fun j e => (hown6.lt j e).1)⟩
        case measure => simp [intOf]; omega
    · have e1 : k = l.length := by omega
      subst e1
      have HO := Lib.hid hown
      clear hown hc
      go_wp2_with fail
      refine bodyPost_ret (v := .tuple #[u9, .int .i64 0]) (by simp [results, Tryz.results39, go_sem]) rfl ⟨_, by rw [HE.out], ?_, hwr⟩
      rw [choR, if_pos HE.out]
      exact HO.out.slOf
set_option maxHeartbeats 4000000 in
theorem Forest_ok (v : Value) (l : List Spec) (w : World) (h : Specs w v l) :
    Calls Tryz.prog 17 #[v] w fun e w' => ∃ u, e = .returned (.tuple #[u, .int .i64 (ofE l)]) ∧ Ints w' u (choR pickF l) ∧ Below w.heap.size w w' := by
  obtain ⟨A, c, rfl, _⟩ := h.cells
  go_enter Tryz.func17, Tryz.ntmps17
  go_wp2_with fail
  refine (chosenF_ok _ l _ h).mono ?_
  rintro e w1 ⟨u, rfl, hu, hb⟩
  have HU := Lib.hid hu; clear hu
  go_wp2_with fail
  refine bodyPost_ret (v := .tuple #[u, .int .i64 (ofE l)]) (by simp [results, Tryz.results17, go_sem]) rfl ⟨_, rfl, HU.out, hb⟩
end Go.Proofs.YtgpbdembjdileaaGreatDoor
/- First. Condition: the argument reads as a list of specimens, the dies' numbers are numbers. -/
namespace Go.Proofs.YtgpbdembjdileaaGreatDoor
open Go.RowKit Go.Maps

theorem find_at {f : Nat → Bool} {n k : Nat} (hk : k < n) (h : f k = true) (hb : ∀ j, j < k → f j = false) : (List.range n).find? f = some k := by
  rw [List.find?_range_eq_some]
  exact ⟨h, List.mem_range.2 hk, fun j hj => by rw [hb j hj]; rfl⟩
theorem find_no {f : Nat → Bool} {n : Nat} (h : ∀ j, j < n → f j = false) : (List.range n).find? f = none := by
  rw [List.find?_eq_none]
  intro j hj
  rw [h j (List.mem_range.1 hj)]
  simp
/-- After how many specimens two dies are joined, less one. -/
noncomputable def firstK (l : List Spec) (a b : Die) : Option Nat := (List.range l.length).find? fun k => joinB (edgesS (l.take (k + 1))) a b
noncomputable def firstR (l : List Spec) (a b : Die) : Int × Int := if ofE l = 0 then match firstK l a b with
  | some k => (((l[k]?).map Spec.id).getD 0, 0)
  | none => (0, 7)
  else (0, ofE l)

set_option maxHeartbeats 4000000 in
set_option maxRecDepth 100000 in
theorem First_ok (v : Value) (l : List Spec) (da db : Die) (w : World) (h : Specs w v l) (hda : wfD da) (hdb : wfD db) :
    Calls Tryz.prog 8 #[v, vlD da, vlD db] w fun e w' => e = .returned (.tuple #[.int .i64 (firstR l da db).1, .int .i64 (firstR l da db).2]) ∧ Below w.heap.size w w' := by
  obtain ⟨X0, hX0, HzX0, hbX0, hltX0, hcX0⟩ := boxed w #[.int .i64 da.side, .int .i64 da.num] 24
  obtain ⟨X1, hX1, HzX1, hbX1, hltX1, hcX1⟩ := boxed X0 #[.int .i64 db.side, .int .i64 db.num] 24
  have hX := below_trans hbX0 hbX1
  have h0 := h.below hX
  have a0 := cell_later hbX1 (hcX0 0 _ rfl); have a1 := cell_later hbX1 (hcX0 1 _ rfl)
  have b0 := hcX1 0 _ rfl; have b1 := hcX1 1 _ rfl
  clear hcX0 hcX1
  obtain ⟨A, c, rfl, _, _, hc⟩ := h.cells
  go_enter Tryz.func8, Tryz.ntmps8
  go_wp2_with fail
  refine (Of_ok _ _ _ h0).mono ?_
  rintro e w1 ⟨ug, rfl, ⟨v1, v2, v3, rfl, ⟨A1, c1, rfl, _⟩, ⟨A2, c2, rfl, _⟩, ⟨A3, c3, rfl, _⟩⟩, hb1⟩
  have a0 := cell_later hb1 a0; have a1 := cell_later hb1 a1; have b0 := cell_later hb1 b0; have b1 := cell_later hb1 b1
  obtain ⟨W1, W2, hW1, hW2, HzW2, hkW1, hkW2, hbW2, hltW2⟩ := fresh w1 [.slice none 0 0, .slice none 0 0, .slice none 0 0] [.slice A1 (ofG l).obv.length c1, .slice A2 (ofG l).rev.length c2, .slice A3 (ofG l).links.length c3] 29 rfl
  have hsW2 : ((W1.setCell ⟨w1.heap.size, 0, none⟩ (.slice A1 (ofG l).obv.length c1)).setCell ⟨w1.heap.size, 1, none⟩ (.slice A2 (ofG l).rev.length c2)).setCell ⟨w1.heap.size, 2, none⟩ (.slice A3 (ofG l).links.length c3) = W2 := hW2
  clear hW2
  obtain ⟨⟨z0, z1, z2⟩, f0, f1, f2⟩ := cells3 hkW1
  clear hkW1 hkW2
  have a0 := cell_later hbW2 a0; have a1 := cell_later hbW2 a1; have b0 := cell_later hbW2 b0; have b1 := cell_later hbW2 b1
  have hw2 := below_trans hX (below_trans hb1 hbW2)
  by_cases hE : ofE l = 0
  case neg =>
    have hd : (ofE l != 0) = true := by simpa using hE
    have HE := Lib.hid hE; clear hE
    clear a0 a1 b0 b1
    go_wp2_with fail
    refine bodyPost_ret (v := .tuple #[.int .i64 0, .int .i64 (ofE l)]) (by simp [results, Tryz.results8, go_sem]) rfl ⟨?_, hw2⟩
    rw [firstR, if_neg HE.out]
  have hd : (ofE l != 0) = false := by simp [hE]
  have HE := Lib.hid hE; clear hE
  clear hX0 hX1
  go_wp2_with fail
  clear z0 z1 z2 f0 f1 f2
  refine (begin_ok _).mono ?_
  rintro e w3 ⟨p, b, rfl, hG, hp0, hb0, hb3⟩
  have a0 := cell_later hb3 a0; have a1 := cell_later hb3 a1; have b0 := cell_later hb3 b0; have b1 := cell_later hb3 b1
  have hw3 := below_trans hw2 hb3
  have hsz := hw2.size
  have hpl := heap_lt hG.blk; have hbl := hG.map.lt
  have hX0l : w.heap.size ∉ [p, b] ∧ X0.heap.size ∉ [p, b] := by have := hb1.size; simp; omega
  go_wp2_with fail
  clear hsW2 hW1
  go_loopw [24] (fun i wr => ∃ k : Nat, k ≤ l.length ∧ i = .int .i64 k ∧ GrAt wr p b (growL (l.take k)) ∧ Touch w3 wr [p, b] ∧ ∀ j, j < k → joinB (edgesS (l.take (j + 1))) da db = false) (fun i _ => l.length - (intOf i).toNat)
  case atStart => exact ⟨0, Nat.zero_le _, rfl, hG, Touch.refl _ _, fun j hj => absurd hj (by omega)⟩
  case round =>
    obtain ⟨k, hk, rfl, hGr, hT, hno⟩ := hrel
    have hwr : Below w.heap.size w wr := (touch_below hw3 [p, b]).trans hT |>.below (by simp; omega) (Nat.le_refl _)
    have HN := Lib.hid hno; clear hno
    by_cases hlt : k < l.length
    · obtain ⟨bo, o, rfl, hbb, hc⟩ := hc k hlt
      obtain ⟨x, hx⟩ := get_of_lt hlt
      obtain ⟨y0, y1, y2, y3, y4, y5, y6⟩ := hc wr hwr k x hx
      obtain ⟨V1, V2, hV1, hV2, HzV2, hkV1, hkV2, hbV2, hltV2⟩ := fresh wr [.int .i64 0, .int .i64 0, .int .i64 0, .int .i64 0, .int .i64 0, .int .i64 0, .int .i64 0] [.int .i64 (x).id, .int .i64 (x).obv, .int .i64 (x).rev, .int .i64 (x).os, .int .i64 (x).rs, .int .i64 (x).ax, .int .i64 (x).wt] 47 rfl
      have hsV2 : ((((((V1.setCell ⟨wr.heap.size, 0, none⟩ (.int .i64 (x).id)).setCell ⟨wr.heap.size, 1, none⟩ (.int .i64 (x).obv)).setCell ⟨wr.heap.size, 2, none⟩ (.int .i64 (x).rev)).setCell ⟨wr.heap.size, 3, none⟩ (.int .i64 (x).os)).setCell ⟨wr.heap.size, 4, none⟩ (.int .i64 (x).rs)).setCell ⟨wr.heap.size, 5, none⟩ (.int .i64 (x).ax)).setCell ⟨wr.heap.size, 6, none⟩ (.int .i64 (x).wt) = V2 := hV2
      clear hV2
      obtain ⟨⟨z0, z1, z2, z3, z4, z5, z6⟩, f0, f1, f2, f3, f4, f5, f6⟩ := cellsS hkV1
      clear hkV1
      obtain ⟨⟨s0, s1, s2, s3, s4, s5, s6⟩, _⟩ := cellsS hkV2
      have hspec := ofE_spec HE.out hx
      have hG2 := hGr.below hbV2
      have HT := Lib.hid (hT.trans (touch_below hbV2 [p, b]))
      have Hx := Lib.hid hx
      have hk4 : (l.take k).length ≤ 100 := by simp; omega
      have hnp : wr.heap.size ∉ [p, b] := by have := hT.size; simp; omega
      have Ha := Lib.hid (⟨a0, a1, b0, b1⟩ : _ ∧ _ ∧ _ ∧ _)
      clear hGr hT hx hc hG a0 a1 b0 b1
      go_wp2_with fail
      refine (step_ok p b (l.take k) x V2 hG2 hspec.1 hk4).mono ?_
      rintro e w5 ⟨rfl, hG5, hT5⟩
      rw [← take_snoc' Hx.out] at hG5
      have t0 := cell_off hT5 hnp s0
      have HG5 := Lib.hid hG5; have HT5 := Lib.hid (HT.out.trans hT5)
      have a0 := cell_off HT5.out hX0l.1 Ha.out.1; have a1 := cell_off HT5.out hX0l.1 Ha.out.2.1; have b0 := cell_off HT5.out hX0l.2 Ha.out.2.2.1; have b1 := cell_off HT5.out hX0l.2 Ha.out.2.2.2
      clear hG5 hT5 hG2 s0 s1 s2 s3 s4 s5 s6 z0 z1 z2 z3 z4 z5 z6 f0 f1 f2 f3 f4 f5 f6 y0 y1 y2 y3 y4 y5 y6
      go_wp2_with fail
      refine (joined_ok p b da db _ w5 HG5.out hda hdb).mono ?_
      rintro e w6 ⟨rfl, hb6⟩
      rw [← (ninv_list (l.take (k + 1))).joined]
      have t0 := cell_later hb6 t0
      have HG6 := Lib.hid (HG5.out.below hb6); have HT6 := Lib.hid (HT5.out.trans (touch_below hb6 [p, b]))
      clear HG5 HT5 a0 a1 b0 b1
      cases hj : joinB (edgesS (l.take (k + 1))) da db
      · have HJ := Lib.hid hj; clear hj
        go_wp2_with fail
        refine ⟨?rel, ?measure⟩
        case rel => exact ⟨k + 1, by omega, by go_num, HG6.out, HT6.out, fun j hj => by rcases Nat.lt_or_ge j k with h | h; exact HN.out j h; rw [show j = k by omega]; exact HJ.out⟩
        case measure => simp [intOf]; omega
      · have HF := Lib.hid (find_at hlt hj HN.out); clear hj
        have hw6 : Below w.heap.size w w6 := (touch_below hw3 [p, b]).trans HT6.out |>.below (by simp; omega) (Nat.le_refl _)
        go_wp2_with fail
        refine bodyPost_ret (v := .tuple #[.int .i64 x.id, .int .i64 0]) (by simp [results, Tryz.results8, go_sem]) rfl ⟨?_, hw6⟩
        rw [firstR, if_pos HE.out, firstK, HF.out]
        simp [Hx.out]
    · have e1 : k = l.length := by omega
      subst e1
      have HF := Lib.hid (find_no HN.out)
      clear hc a0 a1 b0 b1
      go_wp2_with fail
      refine bodyPost_ret (v := .tuple #[.int .i64 0, .int .i64 7]) (by simp [results, Tryz.results8, go_sem]) rfl ⟨?_, hwr⟩
      rw [firstR, if_pos HE.out, firstK, HF.out]
end Go.Proofs.YtgpbdembjdileaaGreatDoor
/- walk. Condition: the argument reads as a list of specimens. -/
namespace Go.Proofs.YtgpbdembjdileaaGreatDoor
open Go.RowKit Go.Maps

theorem next_no {t : List Spec} {da db : Die} {last : Int} {k : Nat} {x : Spec} (hN : ∀ p, Walk t da p db → (∀ s, p.head? = some s → s.id ≠ last) → ∀ s, p.head? = some s → ∀ j, j < k → t[j]? ≠ some s) (hx : t[k]? = some x)
    (h : ∀ p, Walk t da p db → (∀ s, p.head? = some s → s.id ≠ last) → p.head? = some x → False) : ∀ p, Walk t da p db → (∀ s, p.head? = some s → s.id ≠ last) → ∀ s, p.head? = some s → ∀ j, j < k + 1 → t[j]? ≠ some s := fun p hp hh s hs j hj => by
  rcases Nat.lt_or_ge j k with hlt | hge
  · exact hN p hp hh s hs j hlt
  · rw [show j = k by omega, hx]
    intro e
    cases e
    exact h p hp hh hs
theorem walk_first {t : List Spec} {a b : Die} {x : Spec} {p : List Spec} (h : Walk t a p b) (hs : p.head? = some x) : EndS x a ∧ ∃ q, Walk t (otherS x a) q b ∧ (∀ s, q.head? = some s → s.id ≠ x.id) := by
  cases h with
  | nil => cases hs
  | cons h1 h2 h3 h4 =>
    cases hs
    exact ⟨h2, _, h3, h4⟩

set_option maxHeartbeats 4000000 in
set_option maxRecDepth 100000 in
theorem walk_ok (t : List Spec) (v : Value) (hlen : t.length ≤ 100) (db : Die) : ∀ (n : Nat) (da : Die) (last : Int) (w : World), Specs w v t → (∀ c p, Walk t da p c → (∀ s, p.head? = some s → s.id ≠ last) → p.length ≤ n) → n ≤ 100 →
    Calls Tryz.prog 45 #[v, vlD da, vlD db, .int .i64 last] w fun e w' => ∃ u ok, e = .returned (.tuple #[u, .bool ok]) ∧ Below w.heap.size w w' ∧ (ok = true → ∃ p, Walk t da p db ∧ (∀ s, p.head? = some s → s.id ≠ last) ∧ p.length ≤ n ∧ Ints w' u (p.map Spec.id)) ∧
      (ok = false → u = .slice none 0 0 ∧ ∀ p, Walk t da p db → ¬ ∀ s, p.head? = some s → s.id ≠ last) := by
  intro n
  induction n using Nat.strongRecOn with
  | ind n ih =>
    intro da last w h hB hn
    obtain ⟨X0, hX0, HzX0, hbX0, hltX0, hcX0⟩ := boxed w #[.int .i64 da.side, .int .i64 da.num] 24
    obtain ⟨X1, hX1, HzX1, hbX1, hltX1, hcX1⟩ := boxed X0 #[.int .i64 db.side, .int .i64 db.num] 24
    have hX := below_trans hbX0 hbX1
    have h0 := h.below hX
    have a0 := cell_later hbX1 (hcX0 0 _ rfl); have a1 := cell_later hbX1 (hcX0 1 _ rfl)
    have b0 := hcX1 0 _ rfl; have b1 := hcX1 1 _ rfl
    clear hcX0 hcX1
    obtain ⟨A, c, rfl, _, _, hc⟩ := h0.cells
    by_cases e0 : da = db
    · subst e0
      have q1 : ∀ w, (binOp .eql 24 (vlD da) (vlD da)).run Tryz.prog w = .ok (.bool true) w := fun w => by rw [eqlDie_]; simp [eqB]
      go_enter Tryz.func45, Tryz.ntmps45
      go_wp2_with fail
      refine bodyPost_ret (v := .tuple #[.slice none 0 0, .bool true]) (by simp [results, Tryz.results45, go_sem]) rfl ⟨_, _, rfl, hX, fun _ => ⟨[], .nil _, fun _ h => (by cases h), Nat.zero_le _, (own_nil _ _ 0 0 _).slOf⟩, fun h => (by cases h)⟩
    have q1 : ∀ w, (binOp .eql 24 (vlD da) (vlD db)).run Tryz.prog w = .ok (.bool false) w := fun w => by rw [eqlDie_]; simp [eqB, e0]
    go_enter Tryz.func45, Tryz.ntmps45
    go_wp2_with fail
    clear q1 hX0 hX1
    go_loopw [22] (fun i wr => ∃ k : Nat, k ≤ t.length ∧ i = .int .i64 k ∧ Below X1.heap.size X1 wr ∧ ∀ p, Walk t da p db → (∀ s, p.head? = some s → s.id ≠ last) → ∀ s, p.head? = some s → ∀ j, j < k → t[j]? ≠ some s) (fun i _ => t.length - (intOf i).toNat)
    case atStart => exact ⟨0, Nat.zero_le _, rfl, Below.refl _ _, fun _ _ _ _ _ j hj => absurd hj (by omega)⟩
    case round =>
      obtain ⟨k, hk, rfl, hb, hno⟩ := hrel
      have HN := Lib.hid hno; clear hno
      have a0' := cell_later hb a0; have a1' := cell_later hb a1; have b0' := cell_later hb b0; have b1' := cell_later hb b1
      by_cases hlt : k < t.length
      · obtain ⟨bo, o, rfl, hbb, hc⟩ := hc k hlt
        obtain ⟨x, hx⟩ := get_of_lt hlt
        obtain ⟨y0, y1, y2, y3, y4, y5, y6⟩ := hc wr hb k x hx
        obtain ⟨V1, V2, hV1, hV2, HzV2, hkV1, hkV2, hbV2, hltV2⟩ := fresh wr [.int .i64 0, .int .i64 0, .int .i64 0, .int .i64 0, .int .i64 0, .int .i64 0, .int .i64 0] [.int .i64 (x).id, .int .i64 (x).obv, .int .i64 (x).rev, .int .i64 (x).os, .int .i64 (x).rs, .int .i64 (x).ax, .int .i64 (x).wt] 47 rfl
        have hsV2 : ((((((V1.setCell ⟨wr.heap.size, 0, none⟩ (.int .i64 (x).id)).setCell ⟨wr.heap.size, 1, none⟩ (.int .i64 (x).obv)).setCell ⟨wr.heap.size, 2, none⟩ (.int .i64 (x).rev)).setCell ⟨wr.heap.size, 3, none⟩ (.int .i64 (x).os)).setCell ⟨wr.heap.size, 4, none⟩ (.int .i64 (x).rs)).setCell ⟨wr.heap.size, 5, none⟩ (.int .i64 (x).ax)).setCell ⟨wr.heap.size, 6, none⟩ (.int .i64 (x).wt) = V2 := hV2
        clear hV2
        obtain ⟨⟨z0, z1, z2, z3, z4, z5, z6⟩, f0, f1, f2, f3, f4, f5, f6⟩ := cellsS hkV1
        clear hkV1
        obtain ⟨⟨s0, s1, s2, s3, s4, s5, s6⟩, _⟩ := cellsS hkV2
        have hb2 := below_trans hb hbV2
        have Hx := Lib.hid hx
        have Ha := Lib.hid (⟨a0, a1, b0, b1⟩ : _ ∧ _ ∧ _ ∧ _)
        clear hx hc a0 a1 b0 b1 a0' a1' b0' b1'
        go_wp2_with fail
        refine (dies_ok x V2).mono ?_
        rintro e w4 ⟨rfl, hb4⟩
        have t0 := cell_later hb4 s0
        clear s0 s1 s2 s3 s4 s5 s6 z0 z1 z2 z3 z4 z5 z6 f0 f1 f2 f3 f4 f5 f6 y0 y1 y2 y3 y4 y5 y6
        obtain ⟨W1, W2, W3, hW1, hW2, hW3, HzW1, hltW1, hk1, hk2, hk3, hk4, hb5, hlt5⟩ := fresh2 w4 [.int .i64 0, .int .i64 0] [.int .i64 (dA x).side, .int .i64 (dA x).num] [.int .i64 0, .int .i64 0] [.int .i64 (dB x).side, .int .i64 (dB x).num] 24 rfl rfl
        have hs3 : (((W2.setCell ⟨w4.heap.size, 0, none⟩ (.int .i64 (dA x).side)).setCell ⟨w4.heap.size, 1, none⟩ (.int .i64 (dA x).num)).setCell ⟨W1.heap.size, 0, none⟩ (.int .i64 (dB x).side)).setCell ⟨W1.heap.size, 1, none⟩ (.int .i64 (dB x).num) = W3 := hW3
        obtain ⟨⟨c0, c1⟩, f0, f1⟩ := cells2 hk1
        obtain ⟨⟨d0, d1⟩, g0, g1⟩ := cells2 hk2
        obtain ⟨⟨r0, r1⟩, _⟩ := cells2 hk3
        obtain ⟨⟨m0, m1⟩, _⟩ := cells2 hk4
        have hb6 := below_trans hb2 (below_trans hb4 hb5)
        have a0 := cell_later hb6 Ha.out.1; have a1 := cell_later hb6 Ha.out.2.1; have b0 := cell_later hb6 Ha.out.2.2.1; have b1 := cell_later hb6 Ha.out.2.2.2
        have t0 := cell_later hb5 t0
        have Hk := Lib.hid (⟨hk3, hk4⟩ : _ ∧ _)
        clear hW3 hk1 hk2 hk3 hk4
        obtain ⟨iI, hiI, hzI, hkI, hbI⟩ := info_parts infoI
        by_cases eI : x.id = last
        · have d0 : (x.id == last) = true := by simpa using eI
          have HI := Lib.hid eI; clear eI
          clear a0 a1 b0 b1 r0 r1 m0 m1
          have hnx := Lib.hid (next_no HN.out Hx.out fun p hp hh hs => hh x hs HI.out)
          go_wp2_with fail
          refine ⟨?rel, ?measure⟩
          case rel => exact ⟨k + 1, by omega, by go_num, hb6, hnx.out⟩
          case measure => simp [intOf]; omega
        have d0 : (x.id == last) = false := by simpa using eI
        have Hne := Lib.hid eI; clear eI
        by_cases eA : dA x = da
        · have q1 : ∀ w, (binOp .neq 24 (vlD (dA x)) (vlD da)).run Tryz.prog w = .ok (.bool false) w := fun w => by rw [neqDie_]; simp [neB, eA]
          have q2 : ∀ w, (binOp .eql 24 (vlD (dA x)) (vlD da)).run Tryz.prog w = .ok (.bool true) w := fun w => by rw [eqlDie_]; simp [eqB, eA]
          have hot : otherS x da = dB x := by rw [otherS, if_pos eA]
          have hEnd := Lib.hid (show EndS x da from .inl eA)
          clear eA
          obtain ⟨N1, N2, hN1, hN2, HzN, hkN1, hkN2, hbN2, hltN2⟩ := fresh W3 [.int .i64 0, .int .i64 0] [.int .i64 (dA x).side, .int .i64 (dA x).num] 24 rfl
          have hsN2 : (N1.setCell ⟨W3.heap.size, 0, none⟩ (.int .i64 (dA x).side)).setCell ⟨W3.heap.size, 1, none⟩ (.int .i64 (dA x).num) = N2 := hN2
          clear hN2
          obtain ⟨⟨z0, z1⟩, f0, f1⟩ := cells2 hkN1
          obtain ⟨⟨n0, n1⟩, u0, u1⟩ := cells2 hkN2
          have r0 := cell_later hbN2 r0; have r1 := cell_later hbN2 r1; have m0 := cell_later hbN2 m0; have m1 := cell_later hbN2 m1
          have a0 := cell_later hbN2 a0; have a1 := cell_later hbN2 a1
          obtain ⟨N3, hN3⟩ : ∃ z, (N2.setCell ⟨W3.heap.size, 0, none⟩ (.int .i64 (dB x).side)).setCell ⟨W3.heap.size, 1, none⟩ (.int .i64 (dB x).num) = z := ⟨_, rfl⟩
          have hkN3 : N3.heap[W3.heap.size]? = some (.cells [.int .i64 (dB x).side, .int .i64 (dB x).num].toArray 24 (0, 0)) := by rw [← hN3]; exact heap_set2 hkN2
          have hg3 : N2.grownBy N3 (some W3.heap.size) := by rw [← hN3]; exact setCells_grown W3.heap.size [.int .i64 (dB x).side, .int .i64 (dB x).num] N2 0
          have hbN3 : Below W3.heap.size W3 N3 := hbN2.grown hg3 hbN2.size (fun j e => by cases e; exact Nat.le_refl _)
          obtain ⟨⟨n2, n3⟩, _⟩ := cells2 hkN3
          rw [← hot] at n2 n3
          clear hot hkN1 hkN2 hkN3 hg3
          have t0 := cell_later hbN3 t0
          have b0 := cell_later hbN3 b0; have b1 := cell_later hbN3 b1
          have hbN := below_trans hb6 hbN3
          have h1N := h0.below hbN
          have hn1 : 1 ≤ n := hB (otherS x da) [x] (.cons (List.mem_of_getElem? Hx.out) hEnd.out (.nil _) (fun s hs => by cases hs)) (fun s hs => by cases hs; exact Hid.out Hne)
          go_wp2_with fail
          refine (ih (n - 1) (by omega) (otherS x da) x.id _ h1N (fun c p hp hh => by
            have := hB c (x :: p) (.cons (List.mem_of_getElem? Hx.out) hEnd.out hp hh) (fun s hs => by cases hs; exact Hid.out Hne)
            simp only [List.length_cons] at this
            omega) (by omega)).mono ?_
          rintro e w7 ⟨u', ok', rfl, hb7, hyes, hnot⟩
          have t0 := cell_later hb7 t0
          have hb8 := below_trans hbN hb7
          clear b0 b1 a0 a1 r0 r1 m0 m1
          cases ok'
          · have HNO := Lib.hid (hnot rfl).2
            clear hyes hnot
            have hnx := Lib.hid (next_no HN.out Hx.out fun p hp hh hs => (by obtain ⟨_, q, h3, h4⟩ := walk_first hp hs; exact HNO.out q h3 h4))
            go_wp2_with fail
            refine ⟨?rel, ?measure⟩
            case rel => exact ⟨k + 1, by omega, by go_num, hb8, hnx.out⟩
            case measure => simp [intOf]; omega
          · obtain ⟨q, hq, hqh, hql, hqi⟩ := hyes rfl
            clear hyes hnot
            obtain ⟨Aq, cq, rfl, _, _, _⟩ := id hqi
            obtain ⟨W9, hW9, HzW9, hb9, hltW9, hcW9⟩ := boxed w7 #[.int .i64 x.id] 3
            clear hcW9
            have hk9 : W9.heap[w7.heap.size]? = some (.cells #[.int .i64 x.id] 3 (0, 0)) := by rw [← hW9]; exact heap_alloc_new _ _
            have hown0 : OwnI w7.heap.size W9 (.slice (some ⟨w7.heap.size, 0, none⟩) 1 1) [x.id] := own_one rfl hk9 (Nat.le_refl _)
            have hsl := SlOf.sl (hqi.below hb9)
            have hql' : q.length ≤ 100 := by omega
            have Hq := Lib.hid (⟨hq, hqh, hql⟩ : _ ∧ _ ∧ _)
            clear hk9 hqi hq hqh hql
            go_wp2_with (at_builtin; refine wpList_append_sl rfl (.tmp 62) (.tmp 63) 26 rfl iI _ 8 Tryz.underlying26 hiI hzI hkI hbI rfl (by decide) oneI rfl hown0 Aq cq _ (q.map Spec.id) rfl (by simp) hsl (by simp; omega) (by simp; omega) (by omega) ?_; intro v' w10 hown' hgrow _)
            have hb10 : Below w.heap.size w w10 := by
              have hbw := below_trans hX (below_trans hb8 hb9)
              exact hbw.grown hgrow hbw.size (fun j e => by have := (hown0.lt j e).1; have := hbw.size; have := hb9.size; have := (below_trans hX hb8).size; omega)
            refine bodyPost_ret (v := .tuple #[v', .bool true]) (by simp [results, Tryz.results45, go_sem]) rfl ⟨_, _, rfl, hb10, fun _ => ⟨x :: q, .cons (List.mem_of_getElem? Hx.out) hEnd.out Hq.out.1 Hq.out.2.1, fun s hs => by cases hs; exact Hid.out Hne, ?_, hown'.slOf⟩, fun h => (by cases h)⟩
            have := hB db (x :: q) (.cons (List.mem_of_getElem? Hx.out) hEnd.out Hq.out.1 Hq.out.2.1) (fun s hs => by cases hs; exact Hid.out Hne)
            exact this
        have q1 : ∀ w, (binOp .neq 24 (vlD (dA x)) (vlD da)).run Tryz.prog w = .ok (.bool true) w := fun w => by rw [neqDie_]; simp [neB, eA]
        have q2 : ∀ w, (binOp .eql 24 (vlD (dA x)) (vlD da)).run Tryz.prog w = .ok (.bool false) w := fun w => by rw [eqlDie_]; simp [eqB, eA]
        have hot : otherS x da = dA x := by rw [otherS, if_neg eA]
        by_cases eB : dB x = da
        · have q3 : ∀ w, (binOp .neq 24 (vlD (dB x)) (vlD da)).run Tryz.prog w = .ok (.bool false) w := fun w => by rw [neqDie_]; simp [neB, eB]
          have hEnd := Lib.hid (show EndS x da from .inr eB)
          clear eA eB
          obtain ⟨N1, N2, hN1, hN2, HzN, hkN1, hkN2, hbN2, hltN2⟩ := fresh W3 [.int .i64 0, .int .i64 0] [.int .i64 (dA x).side, .int .i64 (dA x).num] 24 rfl
          have hsN2 : (N1.setCell ⟨W3.heap.size, 0, none⟩ (.int .i64 (dA x).side)).setCell ⟨W3.heap.size, 1, none⟩ (.int .i64 (dA x).num) = N2 := hN2
          clear hN2
          obtain ⟨⟨z0, z1⟩, f0, f1⟩ := cells2 hkN1
          obtain ⟨⟨n2, n3⟩, _⟩ := cells2 hkN2
          have r0 := cell_later hbN2 r0; have r1 := cell_later hbN2 r1; have m0 := cell_later hbN2 m0; have m1 := cell_later hbN2 m1
          have a0 := cell_later hbN2 a0; have a1 := cell_later hbN2 a1
          rw [← hot] at n2 n3
          clear hot hkN1 hkN2
          have t0 := cell_later hbN2 t0
          have b0 := cell_later hbN2 b0; have b1 := cell_later hbN2 b1
          have hbN := below_trans hb6 hbN2
          have h1N := h0.below hbN
          have hn1 : 1 ≤ n := hB (otherS x da) [x] (.cons (List.mem_of_getElem? Hx.out) hEnd.out (.nil _) (fun s hs => by cases hs)) (fun s hs => by cases hs; exact Hid.out Hne)
          go_wp2_with fail
          refine (ih (n - 1) (by omega) (otherS x da) x.id _ h1N (fun c p hp hh => by
            have := hB c (x :: p) (.cons (List.mem_of_getElem? Hx.out) hEnd.out hp hh) (fun s hs => by cases hs; exact Hid.out Hne)
            simp only [List.length_cons] at this
            omega) (by omega)).mono ?_
          rintro e w7 ⟨u', ok', rfl, hb7, hyes, hnot⟩
          have t0 := cell_later hb7 t0
          have hb8 := below_trans hbN hb7
          clear b0 b1 a0 a1 r0 r1 m0 m1
          cases ok'
          · have HNO := Lib.hid (hnot rfl).2
            clear hyes hnot
            have hnx := Lib.hid (next_no HN.out Hx.out fun p hp hh hs => (by obtain ⟨_, q, h3, h4⟩ := walk_first hp hs; exact HNO.out q h3 h4))
            go_wp2_with fail
            refine ⟨?rel, ?measure⟩
            case rel => exact ⟨k + 1, by omega, by go_num, hb8, hnx.out⟩
            case measure => simp [intOf]; omega
          · obtain ⟨q, hq, hqh, hql, hqi⟩ := hyes rfl
            clear hyes hnot
            obtain ⟨Aq, cq, rfl, _, _, _⟩ := id hqi
            obtain ⟨W9, hW9, HzW9, hb9, hltW9, hcW9⟩ := boxed w7 #[.int .i64 x.id] 3
            clear hcW9
            have hk9 : W9.heap[w7.heap.size]? = some (.cells #[.int .i64 x.id] 3 (0, 0)) := by rw [← hW9]; exact heap_alloc_new _ _
            have hown0 : OwnI w7.heap.size W9 (.slice (some ⟨w7.heap.size, 0, none⟩) 1 1) [x.id] := own_one rfl hk9 (Nat.le_refl _)
            have hsl := SlOf.sl (hqi.below hb9)
            have hql' : q.length ≤ 100 := by omega
            have Hq := Lib.hid (⟨hq, hqh, hql⟩ : _ ∧ _ ∧ _)
            clear hk9 hqi hq hqh hql
            go_wp2_with (at_builtin; refine wpList_append_sl rfl (.tmp 62) (.tmp 63) 26 rfl iI _ 8 Tryz.underlying26 hiI hzI hkI hbI rfl (by decide) oneI rfl hown0 Aq cq _ (q.map Spec.id) rfl (by simp) hsl (by simp; omega) (by simp; omega) (by omega) ?_; intro v' w10 hown' hgrow _)
            have hb10 : Below w.heap.size w w10 := by
              have hbw := below_trans hX (below_trans hb8 hb9)
              exact hbw.grown hgrow hbw.size (fun j e => by have := (hown0.lt j e).1; have := hbw.size; have := hb9.size; have := (below_trans hX hb8).size; omega)
            refine bodyPost_ret (v := .tuple #[v', .bool true]) (by simp [results, Tryz.results45, go_sem]) rfl ⟨_, _, rfl, hb10, fun _ => ⟨x :: q, .cons (List.mem_of_getElem? Hx.out) hEnd.out Hq.out.1 Hq.out.2.1, fun s hs => by cases hs; exact Hid.out Hne, ?_, hown'.slOf⟩, fun h => (by cases h)⟩
            have := hB db (x :: q) (.cons (List.mem_of_getElem? Hx.out) hEnd.out Hq.out.1 Hq.out.2.1) (fun s hs => by cases hs; exact Hid.out Hne)
            exact this
        · have q3 : ∀ w, (binOp .neq 24 (vlD (dB x)) (vlD da)).run Tryz.prog w = .ok (.bool true) w := fun w => by rw [neqDie_]; simp [neB, eB]
          have HAB := Lib.hid (⟨eA, eB⟩ : _ ∧ _)
          clear hot eA eB
          have hnx := Lib.hid (next_no HN.out Hx.out fun p hp hh hs => ((walk_first hp hs).1.elim HAB.out.1 HAB.out.2))
          go_wp2_with fail
          refine ⟨?rel, ?measure⟩
          case rel => exact ⟨k + 1, by omega, by go_num, hb6, hnx.out⟩
          case measure => simp [intOf]; omega
      · have e1 : k = t.length := by omega
        subst e1
        clear a0 a1 b0 b1 a0' a1' b0' b1' hc
        go_wp2_with fail
        refine bodyPost_ret (v := .tuple #[.slice none 0 0, .bool false]) (by simp [results, Tryz.results45, go_sem]) rfl ⟨_, _, rfl, below_trans hX hb, fun h => (by cases h), fun _ => ⟨rfl, fun p hp hh => ?_⟩⟩
        cases hp with
        | nil => exact e0 rfl
        | @cons _ _ s q h1 h2 h3 h4 =>
          obtain ⟨j, hj, hjs⟩ := List.getElem_of_mem h1
          exact HN.out (s :: q) (.cons h1 h2 h3 h4) hh s rfl j hj (by rw [List.getElem?_eq_getElem hj, hjs])
end Go.Proofs.YtgpbdembjdileaaGreatDoor
/- slices.Index and Contains at numbers; Clone, IndexFunc and DeleteFunc at specimens. No condition but a bound of the length. -/
namespace Go.Proofs.YtgpbdembjdileaaGreatDoor
open Go.RowKit

set_option maxHeartbeats 4000000 in
set_option maxRecDepth 100000 in
theorem indexI_ok (v : Value) (xs : List Int) (x : Int) (w : World) (h : Ints w v xs) :
    Calls Tryz.prog 65 #[v, .int .i64 x] w fun e w' => e = .returned (.int .i64 (firstI (fun y => x == y) xs)) ∧ Below w.heap.size w w' := by
  obtain ⟨A, c, rfl, _, _, hc⟩ := h.cells
  go_enter Tryz.func65, Tryz.ntmps65
  go_wp2
  go_loopw [8] (fun i wr => ∃ k : Nat, k ≤ xs.length ∧ i = .int .i64 k ∧ Hid ((xs.take k).all (fun y => !(x == y)) = true) ∧ Below w.heap.size w wr) (fun i _ => xs.length - (intOf i).toNat)
  case atStart => exact ⟨0, Nat.zero_le _, rfl, by show _ = _; simp, Below.refl _ _⟩
  case round =>
    obtain ⟨k, hk, rfl, Hr, hb⟩ := hrel
    by_cases hlt : k < xs.length
    · obtain ⟨b, o, rfl, hbb, hc⟩ := hc k hlt
      obtain ⟨y, hy⟩ := get_of_lt hlt
      have c0 := hc wr hb k y hy
      have Hx := Lib.hid hy; clear hy hc
      have hl1 : (k : Int) < (xs.length : Int) := by omega
      have hl0 : (0 : Int) ≤ (k : Int) := by omega
      cases hpx : (x == y)
      · go_wp2_with fail
        refine ⟨?rel, ?measure⟩
        case rel => exact ⟨k + 1, by omega, by go_num, all_snoc Hx.out Hr.out (by simp [hpx]), hb⟩
        case measure => simp [intOf]; omega
      · go_wp2_with fail
        go_ret
        exact ⟨ret_i64 (firstI_hit Hx.out Hr.out hpx).symm, hb⟩
    · have Hm : Hid (firstI (fun y => x == y) xs = -1) := firstI_miss (all_end hlt Hr.out)
      clear hc
      go_wp2_with fail
      go_ret
      exact ⟨ret_i64 Hm.out.symm, hb⟩
theorem firstI_has (xs : List Int) (x : Int) : decide (0 ≤ firstI (fun y => x == y) xs) = decide (x ∈ xs) := by
  by_cases hall : xs.all (fun y => !(x == y)) = true
  · rw [firstI_miss hall]
    have : x ∉ xs := fun hm => by
      have := List.all_eq_true.1 hall x hm
      simp at this
    simp [this]
  · obtain ⟨i, y, h1, h2, h3⟩ := first_hit hall
    rw [firstI_hit h1 h2 h3]
    have : x = y := by simpa using h3
    subst this
    simp [List.mem_of_getElem? h1]
theorem containsI_ok (v : Value) (xs : List Int) (x : Int) (w : World) (h : Ints w v xs) :
    Calls Tryz.prog 44 #[v, .int .i64 x] w fun e w' => e = .returned (.bool (decide (x ∈ xs))) ∧ Below w.heap.size w w' := by
  have HF := Lib.hid (firstI_has xs x)
  obtain ⟨A, c, rfl, _⟩ := id h
  go_enter Tryz.func44, Tryz.ntmps44
  go_wp2_with fail
  refine (indexI_ok _ xs x _ h).mono ?_
  rintro e w1 ⟨rfl, hb⟩
  generalize firstI (fun y => x == y) xs = F at HF ⊢
  go_wp2_with fail
  go_ret
  exact ⟨ret_bool HF.out, hb⟩
theorem keep_ok (s : Spec) (q : Nat) (u : Value) (ids : List Int) (w : World) (h : w.cell? ⟨q, 0, none⟩ = some u) (hi : Ints w u ids) :
    Calls Tryz.prog 43 #[valS s, .pointer (some ⟨q, 0, none⟩)] w fun e w' => e = .returned (.bool (!decide (s.id ∈ ids))) ∧ Below w.heap.size w w' := by
  obtain ⟨W, hW, Hz, hwW, hlt, hc0⟩ := boxed w #[.int .i64 s.id, .int .i64 s.obv, .int .i64 s.rev, .int .i64 s.os, .int .i64 s.rs, .int .i64 s.ax, .int .i64 s.wt] 47
  have a0 := hc0 0 _ rfl
  have b0 := cell_later hwW h
  have hi' := hi.below hwW
  obtain ⟨A, c, rfl, _⟩ := id hi
  clear hc0
  go_enter Tryz.func43, Tryz.ntmps43
  go_wp2_with fail
  refine (containsI_ok _ ids s.id _ hi').mono ?_
  rintro e w1 ⟨rfl, hb⟩
  go_wp2_with fail
  go_ret
  exact ⟨rfl, below_trans hwW hb⟩
def zeroS : Value := .agg #[.int .i64 0, .int .i64 0, .int .i64 0, .int .i64 0, .int .i64 0, .int .i64 0, .int .i64 0]
theorem zeroS_run (w : World) : (zeroValue 47).run Tryz.prog w = .ok zeroS w := by unfold zeroS; kernel_rfl
set_option maxHeartbeats 4000000 in
set_option maxRecDepth 100000 in
theorem cloneS_ok (v : Value) (xs : List Spec) (w : World) (h : SlOf encS 7 w v xs) (hn : xs.length ≤ 1048576) :
    Calls Tryz.prog 37 #[v] w fun e w' => ∃ u, e = .returned u ∧ OwnS w.heap.size w' u xs ∧ Below w.heap.size w w' := by
  obtain ⟨A, c, rfl, h1, h2, h3⟩ := h
  have hS := h3
  have hnil := fun (A : Option Addr) (w : World) => Lib.run_eql_slice_nil (P := Tryz.prog) w 22 47 A xs.length c 0 0 Tryz.underlying22
  cases A with
  | none =>
    have h0 : xs = [] := by
      rcases Nat.eq_zero_or_pos xs.length with h0 | h0
      · exact List.eq_nil_of_length_eq_zero h0
      · obtain ⟨b, o, e, _⟩ := h3.2 h0
        cases e
    subst h0
    have hE : ∀ w, (binOp .eql 22 (.slice none 0 c) (.slice none 0 0)).run Tryz.prog w = .ok (.bool true) w := fun w => hnil none w
    clear hnil hS h3 h1 hn
    go_enter Tryz.func37, Tryz.ntmps37
    go_wp2
    go_ret
    exact ⟨_, rfl, own_nil _ _ _ _ _, Below.refl _ _⟩
  | some a =>
    have hE : ∀ w, (binOp .eql 22 (.slice (some a) xs.length c) (.slice none 0 0)).run Tryz.prog w = .ok (.bool false) w := fun w => hnil (some a) w
    clear hnil
    obtain ⟨i0, hi0, hz0, hk0, hb0⟩ := info_parts infoS
    have hS1 := Lib.hid (fun (o : Obj) => Sl.below hS ((Below.refl w.heap.size w).alloc (Nat.le_refl _) o))
    clear hS h3
    go_enter Tryz.func37, Tryz.ntmps37
    go_wp2_with (at_builtin; refine wpList_append_sl rfl (.tmp 5) (.tmp 6) _ rfl i0 _ 56 Tryz.underlying22 hi0 hz0 hk0 hb0 rfl (by decide) oneS rfl (own_empty (B := w.heap.size) (heap_alloc_new _ _) (Nat.le_refl _)) _ _ _ xs rfl rfl (hS1.out _) (by simp; omega) (by simp; omega) (by simp) ?_; intro v1 w1 ho1 hg1 _)
    go_ret
    exact ⟨_, rfl, by simpa using ho1, ((Below.refl w.heap.size w).alloc (Nat.le_refl _) _).grown hg1 (by simp) (fun k e => by have e' : some w.heap.size = some k := e; cases e'; exact Nat.le_refl _)⟩
set_option maxHeartbeats 4000000 in
set_option maxRecDepth 100000 in
theorem indexS_ok (p : Spec → Bool) (q : Value) (B : Nat) (v : Value) (xs : List Spec) (w : World) (h : OwnS B w v xs) (hn : xs.length ≤ 1048576)
    (hp : ∀ x ∈ xs, ∀ W, Below B w W → Calls Tryz.prog 43 #[valS x, q] W fun e w' => e = .returned (.bool (p x)) ∧ Below W.heap.size W w') :
    Calls Tryz.prog 64 #[v, .func (.func 43) #[] #[q]] w fun e w' => e = .returned (.int .i64 (firstI p xs)) ∧ Below w.heap.size w w' := by
  have Hp := Lib.hid hp; clear hp
  have hv : ∃ A c, v = .slice A xs.length c := by
    rcases h.cases with ⟨rfl, rfl⟩ | ⟨g, cap, rfl, _⟩
    · exact ⟨_, _, rfl⟩
    · exact ⟨_, _, rfl⟩
  obtain ⟨A, c, rfl⟩ := hv
  go_enter Tryz.func64, Tryz.ntmps64
  go_wp2
  go_loopw [8] (fun i wr => ∃ k : Nat, k ≤ xs.length ∧ i = .int .i64 k ∧ Hid ((xs.take k).all (fun x => !p x) = true) ∧ Below w.heap.size w wr) (fun i _ => xs.length - (intOf i).toNat)
  case atStart => exact ⟨0, Nat.zero_le _, rfl, by show _ = _; simp, Below.refl _ _⟩
  case round =>
    obtain ⟨k, hk, rfl, Hr, hb⟩ := hrel
    by_cases hlt : k < xs.length
    · obtain ⟨x, hx⟩ := get_of_lt hlt
      rcases h.cases with ⟨_, h0⟩ | ⟨g, cap, e, hg, _, _⟩
      · rw [h0] at hlt; simp at hlt
      cases e
      have hw := h.below hb
      have c_0 := (hw.cellsAt lenS rfl hx (j := 0) rfl); have c_1 := (hw.cellsAt lenS rfl hx (j := 1) rfl); have c_2 := (hw.cellsAt lenS rfl hx (j := 2) rfl); have c_3 := (hw.cellsAt lenS rfl hx (j := 3) rfl); have c_4 := (hw.cellsAt lenS rfl hx (j := 4) rfl); have c_5 := (hw.cellsAt lenS rfl hx (j := 5) rfl); have c_6 := (hw.cellsAt lenS rfl hx (j := 6) rfl)
      obtain ⟨c_0, fc_0⟩ := c_0; obtain ⟨c_1, fc_1⟩ := c_1; obtain ⟨c_2, fc_2⟩ := c_2; obtain ⟨c_3, fc_3⟩ := c_3; obtain ⟨c_4, fc_4⟩ := c_4; obtain ⟨c_5, fc_5⟩ := c_5; obtain ⟨c_6, fc_6⟩ := c_6
      simp only [Nat.add_zero] at c_0 fc_0
      have Hx := Lib.hid hx; clear hx hw h
      have hP := Hp.out x (List.mem_of_getElem? Hx.out) wr (hb.mono (by omega))
      have hl1 : (k : Int) < (xs.length : Int) := by omega
      have hl0 : (0 : Int) ≤ (k : Int) := by omega
      cases hpx : p x
      · rw [hpx] at hP
        have HP := Lib.hid hP; clear hP
        go_wp2_with fail
        refine HP.out.mono ?_
        rintro e w1 ⟨rfl, hb1⟩
        go_wp2_with fail
        refine ⟨?rel, ?measure⟩
        case rel => exact ⟨k + 1, by omega, by go_num, all_snoc Hx.out Hr.out (by simp [hpx]), below_trans hb hb1⟩
        case measure => simp [intOf]; omega
      · rw [hpx] at hP
        have HP := Lib.hid hP; clear hP
        go_wp2_with fail
        refine HP.out.mono ?_
        rintro e w1 ⟨rfl, hb1⟩
        go_wp2_with fail
        go_ret
        exact ⟨ret_i64 (firstI_hit Hx.out Hr.out hpx).symm, below_trans hb hb1⟩
    · have Hm : Hid (firstI p xs = -1) := firstI_miss (all_end hlt Hr.out)
      go_wp2_with fail
      go_ret
      exact ⟨ret_i64 Hm.out.symm, hb⟩
set_option maxHeartbeats 8000000 in
set_option maxRecDepth 100000 in
theorem deleteS_ok (p : Spec → Bool) (q : Value) (B : Nat) (v : Value) (xs : List Spec) (w : World) (h : OwnS B w v xs) (hn : xs.length ≤ 1048576) (hB : B ≤ w.heap.size)
    (hp : ∀ x ∈ xs, ∀ W, Below B w W → Calls Tryz.prog 43 #[valS x, q] W fun e w' => e = .returned (.bool (p x)) ∧ Below W.heap.size W w') :
    Calls Tryz.prog 42 #[v, .func (.func 43) #[] #[q]] w fun e w' => ∃ u, e = .returned u ∧ OwnS B w' u (xs.filter fun x => !p x) ∧ Below B w w' := by
  have HI := Lib.hid (indexS_ok p q B v xs w h hn hp)
  have Hp := Lib.hid hp; clear hp
  by_cases hall : xs.all (fun x => !p x) = true
  · have hF : xs.filter (fun x => !p x) = xs := List.filter_eq_self.2 (List.all_eq_true.1 hall)
    have hm : firstI p xs = -1 := firstI_miss hall
    rw [hm] at HI
    have HF := Lib.hid hF; clear hF hm hall
    go_enter Tryz.func42, Tryz.ntmps42
    go_wp2_with fail
    refine HI.out.mono ?_
    rintro e w1 ⟨rfl, hb1⟩
    go_wp2_with fail
    go_ret
    exact ⟨_, rfl, by rw [HF.out]; exact h.below hb1, hb1.mono hB⟩
  obtain ⟨i0, x0, hx0, hall0, hp0⟩ := first_hit hall
  have hm : firstI p xs = i0 := firstI_hit hx0 hall0 hp0
  have hi0 := lt_of_get hx0
  rw [hm] at HI
  have hd : (((i0 : Nat) : Int) == -1) = false := by simp <;> omega
  rcases h.cases with ⟨rfl, h0⟩ | ⟨g, cap, rfl, hg, hgw, hcap, hmx⟩
  · rw [h0] at hi0; simp at hi0
  have hmx' : (cap : Int) ≤ 9223372036854775807 := by simp only [maxLen] at hmx; omega
  have Hst : Hid ((xs.take (i0 + 1)).filter (fun x => !p x) = xs.take i0) := by
    show _ = _
    rw [take_snoc' hx0, List.filter_append, List.filter_eq_self.2 (List.all_eq_true.1 hall0)]
    simp [hp0]
  clear hm hall0 hp0 hx0 hall
  go_enter Tryz.func42, Tryz.ntmps42
  go_wp2_with fail
  refine HI.out.mono ?_
  rintro e w1 ⟨rfl, hb1⟩
  have h1 := h.below hb1
  have hbB := hb1.mono hB
  clear h
  go_wp2_with fail
  go_loopw [5, 6] (fun t5 t6 wr => ∃ (i j : Nat) (dk : List Spec), t5 = .int .i64 i ∧ t6 = .int .i64 j ∧ i < j ∧ j ≤ xs.length ∧ OwnS B wr (.slice (some ⟨g, 0, none⟩) xs.length cap) dk ∧ Hid (xs.length = dk.length) ∧ Hid (dk.take i = (xs.take j).filter (fun x => !p x)) ∧ Hid (∀ t, j ≤ t → dk[t]? = xs[t]?) ∧ Hid (((xs.take j).filter (fun x => !p x)).length = i) ∧ Below B w wr) (fun _ t6 _ => xs.length - (intOf t6).toNat)
  case atStart => exact ⟨i0, i0 + 1, xs, rfl, by go_num, by omega, by omega, h1, rfl, Hst.out.symm, fun _ _ => rfl, by show _ = _; rw [Hst.out, List.length_take]; omega, hbB⟩
  case round =>
    clear h1 hbB hb1
    obtain ⟨i, j, dk, rfl, rfl, hij, hj, hown, Hl, Htk, Htl, Hlen, hb⟩ := hrel
    by_cases hlt : j < xs.length
    · obtain ⟨x, hx⟩ := get_of_lt hlt
      have hxd : dk[j]? = some x := by rw [Htl.out j (Nat.le_refl _)]; exact hx
      obtain ⟨y, hy⟩ := get_of_lt (show i < dk.length by have := Hl.out; omega)
      have c_0 := (hown.cellsAt lenS Hl.out hxd (j := 0) rfl); have c_1 := (hown.cellsAt lenS Hl.out hxd (j := 1) rfl); have c_2 := (hown.cellsAt lenS Hl.out hxd (j := 2) rfl); have c_3 := (hown.cellsAt lenS Hl.out hxd (j := 3) rfl); have c_4 := (hown.cellsAt lenS Hl.out hxd (j := 4) rfl); have c_5 := (hown.cellsAt lenS Hl.out hxd (j := 5) rfl); have c_6 := (hown.cellsAt lenS Hl.out hxd (j := 6) rfl)
      obtain ⟨c_0, fc_0⟩ := c_0; obtain ⟨c_1, fc_1⟩ := c_1; obtain ⟨c_2, fc_2⟩ := c_2; obtain ⟨c_3, fc_3⟩ := c_3; obtain ⟨c_4, fc_4⟩ := c_4; obtain ⟨c_5, fc_5⟩ := c_5; obtain ⟨c_6, fc_6⟩ := c_6
      simp only [Nat.add_zero] at c_0 fc_0
      clear hxd
      obtain ⟨W1, hW1, Hz1, hb2, hlt1, hc1⟩ := boxed wr (encS x).toArray 47
      simp only [encS] at hW1 hc1
      have hgl : g < wr.heap.size := by obtain ⟨cur, _, hg, _⟩ := hown.row Hl.out; exact heap_lt hg
      have hB1 := Below.size hb
      have hP := Hp.out x (List.mem_of_getElem? hx) W1 (hb.trans (hb2.mono (by omega)))
      have own1 := hown.below hb2
      have hl1 : (j : Int) < (xs.length : Int) := by omega
      have hl0 : (0 : Int) ≤ (j : Int) := by omega
      have hl2 : (i : Int) < (xs.length : Int) := by omega
      have hl3 : (0 : Int) ≤ (i : Int) := by omega
      have hbW := hb.trans (hb2.mono (by omega))
      have hBg : B ≤ wr.heap.size := by omega
      have hsn : (xs.take (j + 1)).filter (fun x => !p x) = (xs.take j).filter (fun x => !p x) ++ (if p x = true then [] else [x]) := by
        rw [take_snoc' hx, List.filter_append]
        cases hpx : p x <;> simp [hpx]
      have Hx := Lib.hid hx; have Hy := Lib.hid hy; clear hx hy hown
      have m1 := fun i v h => Later.cell_all (hc1 i v h)
      cases hpx : p x
      · rw [hpx] at hP
        rw [hpx, if_neg (by simp)] at hsn
        have HP := Lib.hid hP; have Hsn := Lib.hid hsn; clear hP hsn m1
        go_wp2_with fail
        refine HP.out.mono ?_
        rintro e w2 ⟨rfl, hb3⟩
        have own2 := own1.below hb3
        have d_0 := (own2.cellsAt lenS Hl.out Hy.out (j := 0) rfl); have d_1 := (own2.cellsAt lenS Hl.out Hy.out (j := 1) rfl); have d_2 := (own2.cellsAt lenS Hl.out Hy.out (j := 2) rfl); have d_3 := (own2.cellsAt lenS Hl.out Hy.out (j := 3) rfl); have d_4 := (own2.cellsAt lenS Hl.out Hy.out (j := 4) rfl); have d_5 := (own2.cellsAt lenS Hl.out Hy.out (j := 5) rfl); have d_6 := (own2.cellsAt lenS Hl.out Hy.out (j := 6) rfl)
        obtain ⟨d_0, fd_0⟩ := d_0; obtain ⟨d_1, fd_1⟩ := d_1; obtain ⟨d_2, fd_2⟩ := d_2; obtain ⟨d_3, fd_3⟩ := d_3; obtain ⟨d_4, fd_4⟩ := d_4; obtain ⟨d_5, fd_5⟩ := d_5; obtain ⟨d_6, fd_6⟩ := d_6
        simp only [Nat.add_zero] at d_0 fd_0
        have hput := own2.put lenS (by omega) Hl.out (i := i) (by omega) x
        have Hput := Lib.hid hput; clear hput own1 own2 hW1
        have b0 := cell_later hb3 (hc1 0 _ rfl); have b1 := cell_later hb3 (hc1 1 _ rfl); have b2 := cell_later hb3 (hc1 2 _ rfl); have b3 := cell_later hb3 (hc1 3 _ rfl); have b4 := cell_later hb3 (hc1 4 _ rfl); have b5 := cell_later hb3 (hc1 5 _ rfl); have b6 := cell_later hb3 (hc1 6 _ rfl)
        clear hc1
        go_wp2_with fail
        refine ⟨?rel, ?measure⟩
        case rel =>
          refine ⟨i + 1, j + 1, dk.set i x, by go_num, by go_num, by omega, by omega, Hput.out, by show _ = _; rw [List.length_set]; exact Hl.out, ?_, ?_, ?_, ?_⟩
          · show _ = _
            rw [Hsn.out, ← Htk.out]
            have hi := lt_of_get Hy.out
            apply List.ext_getElem?
            intro t
            rcases Nat.lt_trichotomy t i with e | e | e
            · rw [List.getElem?_take_of_lt (by omega), List.getElem?_set_ne (by omega), List.getElem?_append_left (by simp; omega), List.getElem?_take_of_lt e]
            · subst e
              rw [List.getElem?_take_of_lt (by omega), List.getElem?_set_self hi, List.getElem?_append_right (by simp; omega), show t - (dk.take t).length = 0 by simp; omega]
              rfl
            · rw [List.getElem?_take_eq_none (by omega), List.getElem?_eq_none (by simp; omega)]
          · intro t ht
            rw [List.getElem?_set_ne (by omega)]
            exact Htl.out t (by omega)
          · show _ = _
            rw [Hsn.out, List.length_append, Hlen.out]
            rfl
          · exact (hbW.trans (hb3.mono (by omega))).grown (setCells_grown g (encS x) w2 (i * 7)) (by have := hb3.size; omega) (fun k e => by cases e; exact hg)
        case measure => simp [intOf]; omega
      · rw [hpx] at hP
        rw [hpx, if_pos rfl, List.append_nil] at hsn
        have HP := Lib.hid hP; have Hsn := Lib.hid hsn; clear hP hsn m1
        go_wp2_with fail
        refine HP.out.mono ?_
        rintro e w2 ⟨rfl, hb3⟩
        have own2 := own1.below hb3
        clear hW1 own1
        go_wp2_with fail
        refine ⟨?rel, ?measure⟩
        case rel => exact ⟨i, j + 1, dk, rfl, by go_num, by omega, by omega, own2, Hl, by show _ = _; rw [Hsn.out]; exact Htk.out, fun t ht => Htl.out t (by omega), by show _ = _; rw [Hsn.out]; exact Hlen.out, hbW.trans (hb3.mono (by omega))⟩
        case measure => simp [intOf]; omega
    · have hje : xs.take j = xs := List.take_of_length_le (by omega)
      have Hfin : Hid (dk.take i = xs.filter (fun x => !p x)) := by show _ = _; rw [Htk.out, hje]
      clear hje
      obtain ⟨cur, hBg, hgc, q1, q2, q3, q4⟩ := hown.row Hl.out
      have hcl := fun ty => run_clear_rows (P := Tryz.prog) wr 22 47 ty (zeroS) Tryz.underlying22 zeroS_run (by simp [zeroS, Value.cells, Value.oneCell']) g (i * 7) (xs.length - i) (cap - i) (by omega)
        (fun t ht => by rw [heap_cell hgc]; simp [zeroS, Value.cells] at ht; rw [Array.getElem?_eq_getElem (by omega)]; rfl) (fun t ht => heap_free hgc)
      obtain ⟨Z, hZ⟩ : ∃ Z, (Builtin.zeroCells (zeroS).cells (xs.length - i)).toList = Z := ⟨_, rfl⟩
      have hZl : Z.length = (xs.length - i) * 7 := by rw [← hZ, zeros_len]; rfl
      simp only [hZ] at hcl
      clear hZ
      have HZl := Lib.hid hZl; clear hZl
      have Hown := Lib.hid hown; clear hown q3 q4 hgc
      have i2 : (i : Int) ≤ (xs.length : Int) := by omega
      have i3 : (0 : Int) ≤ (i : Int) := by omega
      have i4 : (i : Int) ≤ (cap : Int) := by omega
      have i5 : ¬ cap = i := by omega
      have hBw := Below.size hb
      go_wp2
      go_ret
      have hcut := Hown.out.cut lenS Hl.out (m := i) (by omega)
      rw [Hfin.out] at hcut
      have hlen : i = (xs.filter (fun x => !p x)).length := by rw [← Hfin.out, List.length_take]; have := Hl.out; omega
      exact ⟨_, rfl, hcut.putTail lenS hlen (Nat.le_refl _) Z (by rw [HZl.out]; omega), hb.grown (setCells_grown g _ wr (i * 7)) (by omega) (fun k e => by cases e; exact hg)⟩
end Go.Proofs.YtgpbdembjdileaaGreatDoor
/- Bottleneck. Condition: the argument reads as a list of specimens, the dies' numbers are numbers. -/
namespace Go.Proofs.YtgpbdembjdileaaGreatDoor
open Go.RowKit Go.Maps

theorem choT_forL (l : List Spec) : ∀ k, k ≤ l.length → choT pickF l k = (forL (l.take k)).map Spec.id := by
  intro k
  induction k with
  | zero => intro _; rfl
  | succ k ih =>
    intro hk
    obtain ⟨s, hs⟩ := get_of_lt (show k < l.length by omega)
    have hap := ((ninv_list (l.take k)).enter s).2.1
    rw [choT_snoc pickF hs, ih (by omega), take_snoc' hs, forL_snoc, List.map_append]
    congr 1
    by_cases hj : joinB (edgesS (l.take k)) (dA s) (dB s) = true
    · have : apartG s (growL (l.take k)) = false := by
        cases ha : apartG s (growL (l.take k))
        · rfl
        · exact absurd (joinB_iff.1 hj) (hap.1 ha)
      simp [pickF, this, hj]
    · have : apartG s (growL (l.take k)) = true := hap.2 fun h => hj (joinB_iff.2 h)
      simp [pickF, this, hj]
theorem filter_sub {k l : List Spec} (hs : k.Sublist l) (hd : (l.map Spec.id).Nodup) : l.filter (fun s => decide (s.id ∈ k.map Spec.id)) = k := by
  induction hs with
  | slnil => rfl
  | @cons k l a hs ih =>
    rw [List.map_cons, List.nodup_cons] at hd
    have hn : a.id ∉ k.map Spec.id := fun hm => hd.1 ((hs.map Spec.id).subset hm)
    rw [List.filter_cons, if_neg (by simpa using hn)]
    exact ih hd.2
  | @cons_cons k l a hs ih =>
    rw [List.map_cons, List.nodup_cons] at hd
    rw [List.filter_cons, if_pos (by simp)]
    congr 1
    conv => rhs; rw [← ih hd.2]
    refine List.filter_congr fun s hm => ?_
    have hne : s.id ≠ a.id := fun e => hd.1 (by rw [← e]; exact List.mem_map_of_mem (f := Spec.id) hm)
    rw [decide_eq_decide, List.map_cons, List.mem_cons]
    exact ⟨fun h => h.resolve_left hne, .inr⟩
/-- What First says of a list that joins two dies. -/
theorem first_con {l : List Spec} {a b : Die} (h : (firstR l a b).2 = 0) : ofE l = 0 ∧ Con (edgesS l) a b := by
  unfold firstR at h
  by_cases hE : ofE l = 0
  · refine ⟨hE, ?_⟩
    rw [if_pos hE] at h
    cases hk : firstK l a b with
    | none => rw [hk] at h; cases h
    | some k =>
      have h1 := List.find?_some hk
      have := (joinB_iff.1 h1).2.2
      refine this.mono fun e he => ?_
      obtain ⟨s, hs, rfl⟩ := List.mem_map.1 he
      exact List.mem_map.2 ⟨s, List.mem_of_mem_take hs, rfl⟩
  · rw [if_neg hE] at h
    exact absurd h hE
theorem first_err {l : List Spec} {a b : Die} : (firstR l a b).2 = 0 ∨ ((firstR l a b).2 ≠ 0 ∧ (firstR l a b).1 = 0) := by
  unfold firstR
  by_cases hE : ofE l = 0
  · rw [if_pos hE]
    cases firstK l a b with
    | none => exact .inr ⟨by simp, rfl⟩
    | some k => exact .inl rfl
  · rw [if_neg hE]
    exact .inr ⟨hE, rfl⟩
theorem forest_walk {l : List Spec} {a b : Die} (hd : (l.map Spec.id).Nodup) (h : Con (edgesS l) a b) : ∃ p, Walk (forL l) a p b := by
  obtain ⟨h1, h2, _⟩ := forL_facts l
  have hn : ((forL l).map Spec.id).Nodup := hd.sublist (h1.map Spec.id)
  have := walk_exists (t := forL l) (forL l).length hn (Nat.le_refl _) (by rw [List.take_length]; exact (h2 a b).2 h)
  rwa [List.take_length] at this

set_option maxHeartbeats 4000000 in
set_option maxRecDepth 100000 in
theorem Bottleneck_ok (v : Value) (l : List Spec) (da db : Die) (w : World) (h : Specs w v l) (hda : wfD da) (hdb : wfD db) :
    Calls Tryz.prog 21 #[v, vlD da, vlD db] w fun e w' => ∃ u, e = .returned (.tuple #[u, .int .i64 (firstR l da db).2]) ∧ Below w.heap.size w w' ∧ ((firstR l da db).2 ≠ 0 → Ints w' u []) ∧ ((firstR l da db).2 = 0 → ∃ p, Walk (forL l) da p db ∧ Ints w' u (p.map Spec.id)) := by
  obtain ⟨X0, hX0, HzX0, hbX0, hltX0, hcX0⟩ := boxed w #[.int .i64 da.side, .int .i64 da.num] 24
  obtain ⟨X1, hX1, HzX1, hbX1, hltX1, hcX1⟩ := boxed X0 #[.int .i64 db.side, .int .i64 db.num] 24
  have hX := below_trans hbX0 hbX1
  have h0 := h.below hX
  have a0 := cell_later hbX1 (hcX0 0 _ rfl); have a1 := cell_later hbX1 (hcX0 1 _ rfl)
  have b0 := hcX1 0 _ rfl; have b1 := hcX1 1 _ rfl
  clear hcX0 hcX1
  obtain ⟨A, c, rfl, _⟩ := id h.cells
  go_enter Tryz.func21, Tryz.ntmps21
  go_wp2_with fail
  refine (First_ok _ l da db _ h0 hda hdb).mono ?_
  rintro e w1 ⟨rfl, hb1⟩
  have hw1 := below_trans hX hb1
  have a0 := cell_later hb1 a0; have a1 := cell_later hb1 a1; have b0 := cell_later hb1 b0; have b1 := cell_later hb1 b1
  have HFC := Lib.hid (@first_con l da db)
  clear hX0 hX1
  by_cases hE : (firstR l da db).2 = 0
  case neg =>
    have hd : ((firstR l da db).2 != 0) = true := by simpa using hE
    have HE := Lib.hid hE; clear hE a0 a1 b0 b1
    go_wp2_with fail
    exact bodyPost_ret (v := .tuple #[.slice none 0 0, .int .i64 (firstR l da db).2]) (by simp [results, Tryz.results21, go_sem]) rfl ⟨_, rfl, hw1, fun _ => (own_nil _ _ 0 0 _).slOf, fun h => absurd h HE.out⟩
  have hd : ((firstR l da db).2 != 0) = false := by simp [hE]
  have HE := Lib.hid hE; clear hE
  obtain ⟨hof, hcon⟩ := HFC.out HE.out
  obtain ⟨hl64, hall, hnd⟩ := checkE_zero (ofE_zero hof).1
  have hids := choT_forL l l.length (Nat.le_refl _)
  rw [List.take_length] at hids
  have hcr : choR pickF l = (forL l).map Spec.id := by rw [choR, if_pos hof, hids]
  obtain ⟨hfs, hfc, hfu⟩ := forL_facts l
  have HU := Lib.hid (hfu hnd)
  have HW := Lib.hid (forest_walk hnd hcon)
  have HF := Lib.hid (filter_sub hfs hnd)
  have hfl : (forL l).length ≤ 64 := by have := hfs.length_le; omega
  have Hall := Lib.hid (fun s (hs : s ∈ forL l) => (specB_wf (List.all_eq_true.1 hall s (hfs.subset hs))).2.2)
  have Hof := Lib.hid hof
  clear hof hcon hall hnd hids hfs hfc hfu HFC
  go_wp2_with fail
  refine (Forest_ok _ l _ (h0.below hb1)).mono ?_
  rintro e w2 ⟨ui, rfl, hui, hb2⟩
  rw [hcr] at hui
  obtain ⟨Ai, ci, rfl, _, _, _⟩ := id hui
  rw [List.length_map] at hui
  have a0 := cell_later hb2 a0; have a1 := cell_later hb2 a1; have b0 := cell_later hb2 b0; have b1 := cell_later hb2 b1
  obtain ⟨N1, N2, hN1, hN2, HzN, hkN1, hkN2, hbN2, hltN2⟩ := fresh w2 [.slice none 0 0] [.slice Ai (forL l).length ci] 26 rfl
  have hsN2 : N1.setCell ⟨w2.heap.size, 0, none⟩ (.slice Ai (forL l).length ci) = N2 := hN2
  clear hN2
  have z0 : N1.cell? ⟨w2.heap.size, 0, none⟩ = some (.slice none 0 0) := heap_cell hkN1
  have f0 : N1.frozen? ⟨w2.heap.size, 0, none⟩ = false := heap_free hkN1
  have q0 : N2.cell? ⟨w2.heap.size, 0, none⟩ = some (.slice Ai (forL l).length ci) := heap_cell hkN2
  have a0 := cell_later hbN2 a0; have a1 := cell_later hbN2 a1; have b0 := cell_later hbN2 b0; have b1 := cell_later hbN2 b1
  have hui2 := hui.below hbN2
  have hw2 := below_trans hb1 (below_trans hb2 hbN2)
  have hS2 := h0.below hw2
  clear hkN1 hkN2 hui
  go_wp2_with fail
  refine (cloneS_ok _ l _ hS2 (by omega)).mono ?_
  rintro e w3 ⟨x, rfl, hx, hb3⟩
  have HK := Lib.hid (fun (s : Spec) (_ : s ∈ l) (W : World) (hb : Below N2.heap.size w3 W) => keep_ok s w2.heap.size _ ((forL l).map Spec.id) W (cell_later (hb3.trans hb) q0) (hui2.below (hb3.trans hb)))
  clear z0 f0 q0
  go_wp2_with fail
  refine (deleteS_ok (fun s => !decide (s.id ∈ (forL l).map Spec.id)) _ N2.heap.size _ l w3 hx (by omega) hb3.size HK.out).mono ?_
  rintro e w4 ⟨x4, rfl, hx4, hb4⟩
  simp only [Bool.not_not, HF.out] at hx4
  have hb34 : Below N2.heap.size N2 w4 := hb3.trans hb4
  have a0 := cell_later hb34 a0; have a1 := cell_later hb34 a1; have b0 := cell_later hb34 b0; have b1 := cell_later hb34 b1
  clear hx hb4 HK
  go_wp2_with fail
  refine (walk_ok (forL l) _ (by omega) db (forL l).length da 0 w4 hx4.slOf (fun c p hp _ => nodup_len (HU.out.nod hp) hp.mem) (by omega)).mono ?_
  rintro e w5 ⟨u5, ok, rfl, hb5, hyes, hno⟩
  cases ok
  · exfalso
    obtain ⟨p, hp⟩ := HW.out
    refine (hno rfl).2 p hp fun s hs => ?_
    have := Hall.out s (hp.mem s (List.mem_of_mem_head? hs))
    omega
  · obtain ⟨p, hp, _, _, hi⟩ := hyes rfl
    have HP := Lib.hid (⟨hp, hi⟩ : _ ∧ _)
    clear hyes hno hp hi a0 a1 b0 b1
    go_wp2_with fail
    exact bodyPost_ret (v := .tuple #[u5, .int .i64 0]) (by simp [results, Tryz.results21, go_sem]) rfl ⟨_, by rw [HE.out], below_trans hX (below_trans hw2 (below_trans hb34 hb5)), fun h => absurd HE.out h, fun _ => ⟨p, HP.out.1, HP.out.2⟩⟩
end Go.Proofs.YtgpbdembjdileaaGreatDoor
