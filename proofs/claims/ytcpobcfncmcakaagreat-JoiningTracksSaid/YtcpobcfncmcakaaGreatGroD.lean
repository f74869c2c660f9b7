/- The growth of a list of specimens, step by step; History. Condition: the argument reads as a list of specimens. -/
import Derived.Test.YtcpobcfncmcakaaGreatGroC
import Derived.Test.YtcpobcfncmcakaaGreatJoinQ
import Derived.Test.YtcpobcfncmcakaaGreatLinkD
import Derived.Test.YtcpobcfncmcakaaGreatFresh
namespace Go.Proofs.YtcpobcfncmcakaaGreat
open Go.RowKit Go.Maps

theorem enterG_more (s : Spec) (g : Gr) : (enterG s g).named ≤ g.named + 2 ∧ (enterG s g).count ≤ g.count + 2 ∧ (enterG s g).m.length ≤ g.m.length + 2 := by
  have h1 := @know_named (dA s) g
  have h2 := @know_named (dB s) (knowG (dA s) g)
  unfold enterG
  have e : bothG s g = knowG (dB s) (knowG (dA s) g) := rfl
  split
  · rw [e]; omega
  · have hl : (turnM (bothG s g).m (fromG s g) (toG s g)).length = (bothG s g).m.length := List.length_map _
    simp only [hl]
    rw [e]; omega
theorem growL_more (l : List Spec) : (growL l).named ≤ 2 * l.length ∧ (growL l).count ≤ 2 * l.length ∧ (growL l).m.length ≤ 2 * l.length := by
  have : ∀ k, k ≤ l.length → (growL (l.take k)).named ≤ 2 * k ∧ (growL (l.take k)).count ≤ 2 * k ∧ (growL (l.take k)).m.length ≤ 2 * k := by
    intro k
    induction k with
    | zero => intro _; exact ⟨Nat.le_refl _, Nat.le_refl _, Nat.le_refl _⟩
    | succ k ih =>
      intro hk
      obtain ⟨s, hs⟩ := get_of_lt (show k < l.length by omega)
      rw [growL_take hs]
      have h1 := ih (by omega)
      have h2 := enterG_more s (growL (l.take k))
      omega
  have := this l.length (Nat.le_refl _)
  rwa [List.take_length] at this
theorem NInv.pos {E : List (Die × Die)} {g : Gr} (h : NInv E g) (s : Spec) (hne : fromG s g ≠ toG s g) : 1 ≤ (bothG s g).count := by
  have hb := h.both s
  obtain ⟨t, ht⟩ := hb.some (d := dA s) (by simp)
  obtain ⟨f, hf⟩ := hb.some (d := dB s) (by simp)
  have eF : fromG s g = f := by rw [fromG, hf]; rfl
  have eT : toG s g = t := by rw [toG, ht]; rfl
  have hfm : f ∈ (bothG s g).m.map Prod.snd := List.mem_map.2 ⟨_, lookM_some hf, rfl⟩
  have htm : t ∈ (bothG s g).m.map Prod.snd := List.mem_map.2 ⟨_, lookM_some ht, rfl⟩
  rw [eF, eT] at hne
  have := dcount_merge (n := (bothG s g).named) hfm htm hne hb.vals
  rw [hb.cnt]
  omega
theorem specB_wf {s : Spec} (h : specB s = true) : wfD (dA s) ∧ wfD (dB s) ∧ (1 ≤ s.id ∧ s.id ≤ 9999) := by
  simp only [specB, inB, Bool.and_eq_true, decide_eq_true_eq] at h
  obtain ⟨⟨⟨⟨h1, h2⟩, ⟨⟨⟨h3, h4⟩, h5, h6⟩, _⟩, _⟩, _⟩, _⟩ := h
  have k1 : wfI s.obv := wf_small (by omega) (by omega)
  have k2 : wfI s.rev := wf_small (by omega) (by omega)
  exact ⟨⟨wfN (n := 0) (by omega), k1⟩, ⟨wfN (n := 1) (by omega), k2⟩, h1, h2⟩
theorem step_ok (p b : Nat) (l : List Spec) (s : Spec) (w : World) (h : GrAt w p b (growL l)) (hs : specB s = true) (hl : l.length ≤ 100) :
    Calls Tryz.prog 34 #[.pointer (some ⟨p, 0, none⟩), valS s] w fun e w' => e = .returned (.tuple #[.bool (apartG s (growL l)), .bool (thereG s (growL l))]) ∧ GrAt w' p b (growL (l ++ [s])) ∧ Touch w w' [p, b] := by
  have h1 := growL_more l
  have h2 := specB_wf hs
  rw [growL_snoc]
  exact enter_ok p b s (growL l) w h h2.1 h2.2.1 (by omega) (by omega) (by omega) ((ninv_list l).pos s)
theorem ofE_spec {l : List Spec} (h : ofE l = 0) {k : Nat} {s : Spec} (hs : l[k]? = some s) : specB s = true ∧ l.length ≤ 64 := by
  have := checkE_zero (ofE_zero h).1
  exact ⟨List.all_eq_true.1 this.2.1 s (List.mem_of_getElem? hs), this.1⟩

theorem GrAt.kept {w w' : World} {p b : Nat} {g : Gr} {row : Option Nat} (h : GrAt w p b g) (hg : w.grownBy w' row) (h1 : some p ≠ row) (h2 : some b ≠ row) : GrAt w' p b g := ⟨(hg.block p (heap_lt h.blk) h1).trans h.blk, h.map.kept hg h2, h.ne⟩
/-- The numbers of components. -/
def histT (l : List Spec) (k : Nat) : List Int := (List.range k).map fun j => ((growL (l.take (j + 1))).count : Int)
theorem histT_snoc (l : List Spec) (k : Nat) : histT l (k + 1) = histT l k ++ [((growL (l.take (k + 1))).count : Int)] := by
  rw [histT, List.range_succ, List.map_append]; rfl
def histR (l : List Spec) : List Int := if ofE l = 0 then histT l l.length else []

set_option maxHeartbeats 4000000 in
set_option maxRecDepth 100000 in
theorem History_ok (v : Value) (l : List Spec) (w : World) (h : Specs w v l) :
    Calls Tryz.prog 13 #[v] w fun e w' => ∃ u, e = .returned (.tuple #[u, .int .i64 (ofE l)]) ∧ Ints w' u (histR l) ∧ Below w.heap.size w w' := by
  have h0 := h
  obtain ⟨A, c, rfl, _, _, hc⟩ := h.cells
  go_enter Tryz.func13, Tryz.ntmps13
  go_wp2_with fail
  refine (Of_ok _ _ _ h0).mono ?_
  rintro e w1 ⟨ug, rfl, ⟨v1, v2, v3, rfl, ⟨A1, c1, rfl, _⟩, ⟨A2, c2, rfl, _⟩, ⟨A3, c3, rfl, _⟩⟩, hb1⟩
  obtain ⟨W1, W2, hW1, hW2, HzW2, hkW1, hkW2, hbW2, hltW2⟩ := fresh w1 [.slice none 0 0, .slice none 0 0, .slice none 0 0] [.slice A1 (ofG l).obv.length c1, .slice A2 (ofG l).rev.length c2, .slice A3 (ofG l).links.length c3] 55 rfl
  have hsW2 : ((W1.setCell ⟨w1.heap.size, 0, none⟩ (.slice A1 (ofG l).obv.length c1)).setCell ⟨w1.heap.size, 1, none⟩ (.slice A2 (ofG l).rev.length c2)).setCell ⟨w1.heap.size, 2, none⟩ (.slice A3 (ofG l).links.length c3) = W2 := hW2
  clear hW2
  obtain ⟨⟨z0, z1, z2⟩, f0, f1, f2⟩ := cells3 hkW1
  clear hkW1 hkW2
  have hw2 := below_trans hb1 hbW2
  by_cases hE : ofE l = 0
  case neg =>
    have hd : (ofE l != 0) = true := by simpa using hE
    have HE := Lib.hid hE; clear hE
    go_wp2_with fail
    refine bodyPost_ret (v := .tuple #[.slice none 0 0, .int .i64 (ofE l)]) (by simp [results, Tryz.results13, go_sem]) rfl ⟨_, rfl, ?_, hw2⟩
    rw [histR, if_neg HE.out]
    exact (own_nil _ _ 0 0 _).slOf
  have hd : (ofE l != 0) = false := by simp [hE]
  have HE := Lib.hid hE; clear hE
  go_wp2_with fail
  clear z0 z1 z2 f0 f1 f2
  refine (begin_ok _).mono ?_
  rintro e w3 ⟨p, b, rfl, hG, hp0, hb0, hb3⟩
  have hw3 := below_trans hw2 hb3
  have hsz := hw2.size
  have hpl := heap_lt hG.blk; have hbl := hG.map.lt
  obtain ⟨iI, hiI, hzI, hkI, hbI⟩ := info_parts infoI
  go_wp2_with fail
  clear hsW2 hW1
  go_loopw [7, 21] (fun u i wr => ∃ k : Nat, k ≤ l.length ∧ i = .int .i64 k ∧ OwnI w3.heap.size wr u (histT l k) ∧ GrAt wr p b (growL (l.take k)) ∧ Touch w3 wr [p, b]) (fun _ i _ => l.length - (intOf i).toNat)
  case atStart => exact ⟨0, Nat.zero_le _, rfl, own_nil _ _ _ _ _, hG, Touch.refl _ _⟩
  case round =>
    obtain ⟨k, hk, rfl, hown, hGr, hT⟩ := hrel
    have hwr : Below w.heap.size w wr := (touch_below hw3 [p, b]).trans hT |>.below (by simp; omega) (Nat.le_refl _)
    by_cases hlt : k < l.length
    · obtain ⟨bo, o, rfl, hbb, hc⟩ := hc k hlt
      obtain ⟨x, hx⟩ := get_of_lt hlt
      obtain ⟨y0, y1, y2, y3, y4, y5, y6⟩ := hc wr hwr k x hx
      obtain ⟨V1, V2, hV1, hV2, HzV2, hkV1, hkV2, hbV2, hltV2⟩ := fresh wr [.int .i64 0, .int .i64 0, .int .i64 0, .int .i64 0, .int .i64 0, .int .i64 0, .int .i64 0] [.int .i64 (x).id, .int .i64 (x).obv, .int .i64 (x).rev, .int .i64 (x).os, .int .i64 (x).rs, .int .i64 (x).ax, .int .i64 (x).wt] 43 rfl
      have hsV2 : ((((((V1.setCell ⟨wr.heap.size, 0, none⟩ (.int .i64 (x).id)).setCell ⟨wr.heap.size, 1, none⟩ (.int .i64 (x).obv)).setCell ⟨wr.heap.size, 2, none⟩ (.int .i64 (x).rev)).setCell ⟨wr.heap.size, 3, none⟩ (.int .i64 (x).os)).setCell ⟨wr.heap.size, 4, none⟩ (.int .i64 (x).rs)).setCell ⟨wr.heap.size, 5, none⟩ (.int .i64 (x).ax)).setCell ⟨wr.heap.size, 6, none⟩ (.int .i64 (x).wt) = V2 := hV2
      clear hV2
      obtain ⟨⟨z0, z1, z2, z3, z4, z5, z6⟩, f0, f1, f2, f3, f4, f5, f6⟩ := cellsS hkV1
      clear hkV1
      obtain ⟨⟨s0, s1, s2, s3, s4, s5, s6⟩, _⟩ := cellsS hkV2
      have hspec := ofE_spec HE.out hx
      have hG2 := hGr.below hbV2
      have Hown := Lib.hid (hown.below hbV2)
      have HT := Lib.hid (hT.trans (touch_below hbV2 [p, b]))
      have Hx := Lib.hid hx
      have hk4 : (l.take k).length ≤ 100 := by simp; omega
      clear hown hGr hT hx hc hkV2 hG
      go_wp2_with fail
      refine (step_ok p b (l.take k) x V2 hG2 hspec.1 hk4).mono ?_
      rintro e w5 ⟨rfl, hG5, hT5⟩
      rw [← take_snoc' Hx.out] at hG5
      have hown5 := Hown.out.touch hT5 (by simp; omega)
      have hT6 := HT.out.trans hT5
      have hz5 : w3.heap.size ≤ w5.heap.size := hT6.size
      obtain ⟨_, _, q2, _, _⟩ := blk_cells hG5.blk
      have HG5 := Lib.hid hG5; have HT6 := Lib.hid hT6
      have hll : (histT l k).length ≤ 64 := by rw [histT, List.length_map, List.length_range]; omega
      clear hG5 hT5 hT6 hG2 s0 s1 s2 s3 s4 s5 s6 z0 z1 z2 z3 z4 z5 z6 f0 f1 f2 f3 f4 f5 f6 y0 y1 y2 y3 y4 y5 y6
      go_wp2_with (at_builtin; refine wpList_append1 (enc := encI) (size := 1) (B := w3.heap.size) rfl (.tmp 28) (.tmp 33) _ rfl 3 iI _ 8 Tryz.underlying30 hiI hzI hkI hbI rfl (by decide) rfl hown5 ((growL (l.take (k + 1))).count : Int) _ rfl lenI oneI _ rfl rfl (by omega) (by omega) hz5 ?_; intro v' w7 hown' hgrow hat)
      have hnb : ∀ c, c < w3.heap.size → some c ≠ Value.ownBlock _ := fun c hc e => by have := (hown5.lt c e.symm).1; omega
      refine ⟨?rel, ?measure⟩
      case rel => exact ⟨k + 1, by omega, by go_num, by rw [histT_snoc]; exact hown', HG5.out.kept hgrow (hnb _ hpl) (hnb _ hbl), HT6.out.trans_own hgrow (fun j e => (hown5.lt j e).1)⟩
      case measure => simp [intOf]; omega
    · have e1 : k = l.length := by omega
      subst e1
      have HO := Lib.hid hown
      clear hown hc
      go_wp2_with fail
      refine bodyPost_ret (v := .tuple #[u7, .int .i64 0]) (by simp [results, Tryz.results13, go_sem]) rfl ⟨_, by rw [HE.out], ?_, hwr⟩
      rw [histR, if_pos HE.out]
      exact HO.out.slOf
end Go.Proofs.YtcpobcfncmcakaaGreat
