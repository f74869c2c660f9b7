/- cover.more, greatest, Matching, Size. Condition: the argument reads as a graph of wellformed numbers. -/
import Derived.Test.YtnaoiochfdipiaaCovB
import Derived.Test.YtnaoiochfdipiaaCovC
namespace Go.Proofs.Ytnaoiochfdipiaa
open Go.RowKit Go.Shelf Go.Maps

theorem Touch.fresh {w w' w'' : World} {S S' : List Nat} (h : Touch w w' S) (k : Touch w' w'' S') (hS : ∀ b ∈ S', b ∈ S ∨ w.heap.size ≤ b) : Touch w w'' S :=
  ⟨k.os.trans h.os, k.tape.trans h.tape, k.output.trans h.output, Nat.le_trans h.size k.size, fun i hi hn => (k.block i (Nat.lt_of_lt_of_le hi h.size) fun hm => by rcases hS i hm with h1 | h1; exact hn h1; omega).trans (h.block i hi hn)⟩
theorem StAt.nocell {w : World} {bo br : Nat} {s : St} (h : StAt w bo br s) : NoCell w [bo, br] := by
  intro c hc o p
  simp only [List.mem_cons, List.not_mem_nil, or_false] at hc
  rcases hc with rfl | rfl
  · exact h.o.nocell _ (by simp) o p
  · exact h.r.nocell _ (by simp) o p
def mapLen (w : World) (b : Nat) : Nat := match w.heap[b]? with | some (.map es _) => es.size | _ => 0
theorem mapLen_of {w : World} {b : Nat} {m : List (Int × Int)} (h : MapII w b m) : mapLen w b = m.length := by
  obtain ⟨⟨D, ⟨es, clock, hb, _, _, rfl⟩, _, hs, _⟩, _, _⟩ := h
  simp only [Maps.size, length_sorted] at hs
  simp only [mapLen, hb]
  simpa using hs
/-- The numbers of a graph are numbers of the machine. -/
structure WfG (g : Graph) : Prop where
  o : ∀ x ∈ g.obv, wfI x
  r : ∀ x ∈ g.rev, wfI x

set_option maxHeartbeats 8000000 in
set_option maxRecDepth 100000 in
theorem more_ok (g : Graph) (hg : graphB g = true) (hwf : WfG g) (v : Value) (bo br : Nat) (s : St) (w : World) (h : GraphAt w v g) (hS : StAt w bo br s) (l1 : s.obv.length ≤ 100) (l2 : s.rev.length ≤ 100) :
    Calls Try.prog 41 #[.agg #[.map (some bo), .map (some br)], v] w fun e w' => e = .returned (.bool (moreL (nbr g) (g.rev.length + 1) g.obv s).1) ∧ StAt w' bo br (moreL (nbr g) (g.rev.length + 1) g.obv s).2 ∧ Touch w w' [bo, br] := by
  obtain ⟨R, hR⟩ : ∃ R, moreL (nbr g) (g.rev.length + 1) g.obv s = R := ⟨_, rfl⟩
  rw [hR]
  have hok := (graphB_iff g).1 hg
  have hlr := hok.lr
  have Hok := Lib.hid hok; clear hok
  have h0 := h
  obtain ⟨v1, v2, v3, rfl, ho, hr, hl⟩ := h
  obtain ⟨A1, c1, rfl, _, _, hc⟩ := ho.cells
  obtain ⟨A2, c2, rfl, _, _, _⟩ := hr.cells
  obtain ⟨A3, c3, rfl, _, _, _⟩ := hl.cells
  obtain ⟨W0, hW0, Hz0, hb0, hlt0, hc0⟩ := boxed w #[.map (some bo), .map (some br)] 62
  obtain ⟨W, hW, Hz, hb1, hlt1, hc1⟩ := boxed W0 #[.slice A1 g.obv.length c1, .slice A2 g.rev.length c2, .slice A3 g.links.length c3] 25
  have hwW := below_trans hb0 hb1
  have m0' := cell_later hb1 (hc0 0 _ rfl); have m1' := cell_later hb1 (hc0 1 _ rfl)
  have a0' := hc1 0 _ rfl; have a1' := hc1 1 _ rfl; have a2' := hc1 2 _ rfl
  clear hc0 hc1 ho hr hl
  have hbo := hS.o.lt
  have hbr := hS.r.lt
  have hS1 := hS.below hwW
  have hno := hS1.nocell
  have hmm := @run_makeMap Try.prog
  go_enter Try.func41, Try.ntmps41
  go_wp2_with fail
  go_loopw [12] (fun i wr => ∃ (k : Nat) (t : St), k ≤ g.obv.length ∧ i = .int .i64 k ∧ StAt wr bo br t ∧ Touch W wr [bo, br] ∧ moreL (nbr g) (g.rev.length + 1) (g.obv.drop k) t = R ∧ t.obv = s.obv ∧ t.rev = s.rev) (fun i _ => g.obv.length - (intOf i).toNat)
  case atStart => exact ⟨0, s, Nat.zero_le _, rfl, hS1, Touch.refl _ _, hR, rfl, rfl⟩
  case round =>
    obtain ⟨k, t, hk, rfl, hSt, hT, hE, e1, e2⟩ := hrel
    have ht1 : t.obv.length ≤ 100 := by rw [e1]; exact l1
    have ht2 : t.rev.length ≤ 100 := by rw [e2]; exact l2
    have hTw := (touch_below hwW [bo, br]).trans hT
    have m0 := cell_touch hT hno m0'; have m1 := cell_touch hT hno m1'
    have a0 := cell_touch hT hno a0'; have a1 := cell_touch hT hno a1'; have a2 := cell_touch hT hno a2'
    by_cases hlt : k < g.obv.length
    · obtain ⟨b, of', rfl, _, hcb⟩ := hc k hlt
      obtain ⟨o, ho⟩ := get_of_lt hlt
      have hc0 := cell_touch hTw hS.nocell (hcb w (Below.refl _ _) k o ho)
      have hwfo := hwf.o o (List.mem_of_getElem? ho)
      rw [drop_at ho, moreL] at hE
      clear hc hcb ho
      have k1 := hSt.o.look_ok hwfo
      cases hl : lookM t.obv o with
      | some x =>
        rw [hl] at k1
        rw [hl, if_pos (show (some x).isSome = true from rfl)] at hE
        clear hmm
        go_wp2_with fail
        refine ⟨?rel, ?measure⟩
        case rel => exact ⟨k + 1, t, by omega, by go_num, hSt, hT, hE, e1, e2⟩
        case measure => first | (simp [intOf]; done) | (simp [intOf]; omega)
      | none =>
        rw [hl] at k1
        rw [hl, if_neg (by simp)] at hE
        obtain ⟨W2, hW2⟩ : ∃ X, wr.alloc (.map #[] 0) = X := ⟨_, rfl⟩
        have hb2 : Below wr.heap.size wr W2 := by rw [← hW2]; exact (Below.refl _ _).alloc (Nat.le_refl _) _
        have hset : SetI W2 wr.heap.size [] := by rw [← hW2]; exact setI_made wr
        have hA : AugAt W2 bo br wr.heap.size ⟨t.obv, t.rev, []⟩ := ⟨⟨(hSt.below hb2).o, (hSt.below hb2).r, hSt.ne⟩, hset, by have := hSt.o.lt; omega, by have := hSt.r.lt; omega⟩
        have hn2 := hSt.nocell
        have hT2 := hT.trans (touch_below hb2 _)
        have hTw2 := hTw.trans (touch_below hb2 _)
        obtain ⟨bb, s2, hq⟩ : ∃ bb s2, augF (nbr g) (g.rev.length + 1) o ⟨t.obv, t.rev, []⟩ = (bb, s2) := ⟨_, _, rfl⟩
        have HC := Lib.hid (augment_ok g hg hwf.r (.agg #[.slice (some ⟨b, of', none⟩) g.obv.length c1, .slice A2 g.rev.length c2, .slice A3 g.links.length c3]) bo br wr.heap.size (g.rev.length + 1) o ⟨t.obv, t.rev, []⟩ W2 (h0.touch hTw2 hS.nocell) hA (Nat.lt_succ_of_le (List.length_filter_le _ _)) hwfo (by simp only; omega) (by simp only; omega) (by have := List.length_filter_le (fun r => decide (r ∉ ([] : List Int))) g.rev; simp only [unseen, List.length_nil]; omega))
        rw [hq] at HC
        simp only [hq] at hE
        have hkeep : Hid (bb = false → s2.rev = t.rev ∧ s2.obv = t.obv) := Lib.hid fun e => by
          rw [e] at hq
          have h1 := augF_fail (nbr_rev hg) _ o _ s2 hq
          exact ⟨h1.rev, h1.obv⟩
        have HE := Lib.hid hE
        have Hz2 := Lib.hid (show W2.heap.size = wr.heap.size + 1 by rw [← hW2]; simp)
        clear hE hq hA hset
        go_wp2_with fail
        clear hW2
        refine HC.out.mono ?_
        rintro e w3 ⟨rfl, hA3, hT3⟩
        have hsz := hT.size
        have HT3 := Lib.hid (hT2.fresh hT3 (by intro x hx; simp only [List.mem_cons, List.not_mem_nil, or_false] at hx ⊢; omega))
        have HT3w := Lib.hid (hTw2.fresh hT3 (by have := hTw.size; intro x hx; simp only [List.mem_cons, List.not_mem_nil, or_false] at hx ⊢; omega))
        have HS3 := Lib.hid hA3.st
        clear hA3 hT3 HC
        cases bb
        · have H1 := Lib.hid (hkeep.out rfl); clear hkeep
          clear hmm
          go_wp2_with fail
          refine ⟨?rel, ?measure⟩
          case rel => exact ⟨k + 1, s2, by omega, by go_num, HS3.out, HT3.out, HE.out, H1.out.2.trans e1, H1.out.1.trans e2⟩
          case measure => first | (simp [intOf]; done) | (simp [intOf]; omega)
        · clear hmm
          go_wp2_with fail
          go_ret
          rw [← HE.out]
          exact ⟨rfl, HS3.out, HT3w.out⟩
    · have hd : g.obv.drop k = [] := List.drop_eq_nil_of_le (by omega)
      rw [hd, moreL] at hE
      subst hE
      clear hmm
      go_wp2_with fail
      go_ret
      exact ⟨rfl, hSt, hTw⟩
end Go.Proofs.Ytnaoiochfdipiaa
/- cover.greatest, Matching, Size. Condition: the argument reads as a graph of wellformed numbers. -/
namespace Go.Proofs.Ytnaoiochfdipiaa
open Go.RowKit Go.Shelf Go.Maps

/-- The greatest matching that the program finds. -/
def gm (g : Graph) : St := greatF (nbr g) (g.rev.length + 1) g.obv 33 ⟨[], [], []⟩
theorem gm_great {g : Graph} (hg : graphB g = true) : Great g (gm g) := greatF_great hg (Nat.lt_succ_self _) 33 _ (good_empty g) (by simp)

set_option maxHeartbeats 8000000 in
set_option maxRecDepth 100000 in
theorem greatest_ok (g : Graph) (hg : graphB g = true) (hwf : WfG g) (v : Value) (w : World) (h : GraphAt w v g) :
    Calls Try.prog 46 #[v] w fun e w' => ∃ bo br, e = .returned (.agg #[.map (some bo), .map (some br)]) ∧ StAt w' bo br (gm g) ∧ w.heap.size ≤ bo ∧ w.heap.size ≤ br ∧ Below w.heap.size w w' := by
  have h0 := h
  obtain ⟨v1, v2, v3, rfl, ho, hr, hl⟩ := h
  obtain ⟨A1, c1, rfl, _, _, _⟩ := ho.cells
  obtain ⟨A2, c2, rfl, _, _, _⟩ := hr.cells
  obtain ⟨A3, c3, rfl, _, _, _⟩ := hl.cells
  obtain ⟨W0, hW0, Hz0, hb0, hlt0, hc0⟩ := boxed w #[.slice A1 g.obv.length c1, .slice A2 g.rev.length c2, .slice A3 g.links.length c3] 25
  obtain ⟨W, hW, Hz, hb1, hlt1, hc1⟩ := boxed W0 #[.map none, .map none] 62
  have hwW := below_trans hb0 hb1
  have a0' := cell_later hb1 (hc0 0 _ rfl); have a1' := cell_later hb1 (hc0 1 _ rfl); have a2' := cell_later hb1 (hc0 2 _ rfl)
  have hR : W.heap[W0.heap.size]? = some (.cells #[.map none, .map none] 62 (0, 0)) := by rw [← hW]; exact heap_alloc_new _ _
  clear hc0 hc1 ho hr hl
  go_enter Try.func46, Try.ntmps46
  go_wp2_with fail
  clear hW0 hW
  refine (of_ok _ [] W (own_nil encP 2 48 0 W).slOf (by simp)).mono ?_
  rintro e w1 ⟨bo, br, rfl, hS1, hbo, hbr, hb2⟩
  change StAt w1 bo br ⟨[], [], []⟩ at hS1
  obtain ⟨W2, hW2, Hz2, hb3, hlt2, hc2⟩ := boxed w1 #[.map (some bo), .map (some br)] 62
  go_wp2_with fail
  have hM : W2.heap[w1.heap.size]? = some (.cells #[.map (some bo), .map (some br)] 62 (0, 0)) := by rw [← hW2]; exact heap_alloc_new _ _
  clear hW2
  have hb13 := below_trans hb2 hb3
  have hR2 := heap_below hR hb13 (heap_lt hR)
  have c0 := cell_later hb13 a0'; have c1' := cell_later hb13 a1'; have c2' := cell_later hb13 a2'
  have hw2 := below_trans hwW hb13
  have hS2 := hS1.below hb3
  have hg2 := h0.below hw2
  have hno := hS2.nocell
  have hbo2 := hS1.o.lt; have hbr2 := hS1.r.lt
  have hWz := Hz.out
  have HWz := Lib.hid hWz; have HWz0 := Lib.hid Hz0.out
  have hw1 := hb2.size
  have hww1 := hwW.size
  clear a0' a1' a2' hS1 hb1 hb0 Hz Hz0 hWz
  go_loopw [] (fun wr => ∃ t : St, Good g t ∧ StAt wr bo br t ∧ Touch W2 wr [bo, br] ∧ greatF (nbr g) (g.rev.length + 1) g.obv (33 - t.rev.length) t = gm g) (fun wr => 33 - mapLen wr br)
  case atStart => exact ⟨⟨[], [], []⟩, good_empty g, hS2, Touch.refl _ _, rfl⟩
  case round =>
    obtain ⟨t, hG, hSt, hT, hE⟩ := hrel
    have hlt3 : w1.heap.size < W2.heap.size := heap_lt hM
    have hMr := (hT.block _ hlt3 (by simp; omega)).trans hM
    have hRr := (hT.block _ (heap_lt hR2) (by have := HWz.out; have := HWz0.out; simp; omega)).trans hR2
    have m0 := heap_cell (i := 0) hMr; have m1 := heap_cell (i := 1) hMr
    have a0 := cell_touch hT hno c0; have a1 := cell_touch hT hno c1'; have a2 := cell_touch hT hno c2'
    have hlen := hG.lenR hg
    have hlen2 := hG.len
    have hml := mapLen_of hSt.r
    obtain ⟨bb, s2, hq⟩ : ∃ bb s2, moreL (nbr g) (g.rev.length + 1) g.obv t = (bb, s2) := ⟨_, _, rfl⟩
    have HC := Lib.hid (more_ok g hg hwf (.agg #[.slice A1 g.obv.length c1, .slice A2 g.rev.length c2, .slice A3 g.links.length c3]) bo br t wr (hg2.touch hT hno) hSt (by omega) (by omega))
    rw [hq] at HC
    rw [show 33 - t.rev.length = (32 - t.rev.length) + 1 by omega, greatF, hq] at hE
    have HE := Lib.hid hE
    have Hmt : Hid (bb = true → Good g s2 ∧ s2.rev.length = t.rev.length + 1) := Lib.hid fun e => by
      rw [e] at hq
      have := moreL_true hg hG hq
      exact ⟨this.1, this.2.1⟩
    clear hE hq
    have Hml := Lib.hid hml; have Hlen := Lib.hid hlen; have HMr := Lib.hid hMr; have HRr := Lib.hid hRr; have HT := Lib.hid hT
    have Hns := Lib.hid hSt.nocell
    clear hml hlen hlen2 hMr hRr hT hSt hG
    go_wp2_with fail
    refine HC.out.mono ?_
    rintro e w3 ⟨rfl, hS3, hT3⟩
    have hT13 := HT.out.trans hT3
    clear HC
    cases bb
    · have hM3 := (hT13.block _ hlt3 (by simp; omega)).trans hM
      have hR3 := (hT13.block _ (heap_lt hR2) (by have := HWz.out; have := HWz0.out; simp; omega)).trans hR2
      obtain ⟨r0, r1, q0, q1⟩ := blk2 hR3
      have n0 := heap_cell (i := 0) hM3; have n1 := heap_cell (i := 1) hM3
      have hB3 : Below w.heap.size w w3 := hw2.trans (hT13.below (by simp; omega) (by have := hw2.size; omega))
      clear Hmt m0 m1 a0 a1 a2
      have HS3 := Lib.hid hS3; have HB3 := Lib.hid hB3; have HR3 := Lib.hid hR3
      clear hT3 hT13 hM3 hS3 hB3 hR3
      go_wp2_with fail
      have hE' : s2 = gm g := HE.out
      subst hE'
      have hzz := HWz0.out
      have hzw := HWz.out
      refine bodyPost_ret (results_cell_row rfl _ _ W0.heap.size 62 #[.map (some bo), .map (some br)] (0, 0) _ (by simp) (heap_set2 HR3.out) Try.underlying62 rfl infoM2) rfl
        ⟨_, _, rfl, HS3.out.kept (set2_grown _ _ _ _) (fun e => absurd (Option.some.inj e) (by omega)) (fun e => absurd (Option.some.inj e) (by omega)), by omega, by omega, HB3.out.grown (set2_grown _ _ _ _) HB3.out.size (fun j e => by cases e; omega)⟩
    · have H1 := Lib.hid (Hmt.out rfl); clear Hmt
      have HS3 := Lib.hid hS3; have HT13 := Lib.hid hT13
      clear hT3 hT13 hS3
      go_wp2_with fail
      refine ⟨?rel, ?measure⟩
      case rel => exact ⟨s2, H1.out.1, HS3.out, HT13.out, by rw [← HE.out, H1.out.2]; congr 1; omega⟩
      case measure => rw [mapLen_of HS3.out.r, Hml.out, H1.out.2]; have := Hlen.out; omega
/-- The pairs of the greatest matching that the program finds. -/
def mchG (g : Graph) : List Pair := if graphB g = true then sortM (gm g).obv else []
theorem mchG_of {g : Graph} (hg : graphB g = true) : ListOf (gm g).obv (mchG g) := by
  rw [mchG, if_pos hg]
  exact sortM_of (gm_great hg).good.nodO
theorem mchG_len (g : Graph) : (mchG g).length ≤ 32 := by
  by_cases hg : graphB g = true
  · rw [(mchG_of hg).len, (gm_great hg).good.len]
    exact (gm_great hg).good.lenR hg
  · rw [mchG, if_neg hg]; simp
set_option maxHeartbeats 4000000 in
set_option maxRecDepth 100000 in
theorem Matching_ok (g : Graph) (hwf : WfG g) (v : Value) (w : World) (h : GraphAt w v g) :
    Calls Try.prog 23 #[v] w fun e w' => ∃ u, e = .returned (.tuple #[u, .int .i64 (validE g)]) ∧ OwnP w.heap.size w' u (mchG g) ∧ Below w.heap.size w w' := by
  have h0 := h
  obtain ⟨v1, v2, v3, rfl, ho, hr, hl⟩ := h
  obtain ⟨A1, c1, rfl, _, _, _⟩ := ho.cells
  obtain ⟨A2, c2, rfl, _, _, _⟩ := hr.cells
  obtain ⟨A3, c3, rfl, _, _, _⟩ := hl.cells
  obtain ⟨W, hW, Hz, hwW, hlt0, hc0⟩ := boxed w #[.slice A1 g.obv.length c1, .slice A2 g.rev.length c2, .slice A3 g.links.length c3] 25
  have a0 := hc0 0 _ rfl; have a1 := hc0 1 _ rfl; have a2 := hc0 2 _ rfl
  clear hc0 ho hr hl
  go_enter Try.func23, Try.ntmps23
  go_wp2_with fail
  refine (Valid_ok _ _ _ (h0.below hwW)).mono ?_
  rintro e w1 ⟨rfl, hb1⟩
  clear hW
  have b0 := cell_later hb1 a0; have b1 := cell_later hb1 a1; have b2 := cell_later hb1 a2
  have hw1 := below_trans hwW hb1
  clear a0 a1 a2
  cases hg : graphB g
  · go_wp2_with fail
    go_ret2
    refine ⟨_, ret_mat (by simp [validE, hg]), ?_, hw1⟩
    rw [mchG, if_neg (by simp [hg])]
    exact own_nil encP 2 _ _ _
  have hv : Hid (validE g = 0) := Lib.hid (by simp [validE, hg])
  have HG := Lib.hid hg
  clear hg
  go_wp2_with fail
  refine (greatest_ok g HG.out hwf _ w1 (h0.below hw1)).mono ?_
  rintro e w2 ⟨bo, br, rfl, hS, _, _, hb2⟩
  have hw2 := below_trans hw1 hb2
  have hlen := (gm_great HG.out).good.len
  have hlr := (gm_great HG.out).good.lenR HG.out
  go_wp2_with fail
  refine (list_ok bo br (gm g) w2 hS (by omega)).mono ?_
  rintro e w3 ⟨u, ys, rfl, hu, hl, hb3⟩
  have HL := Lib.hid (hl.unique (mchG_of HG.out))
  clear hl
  go_wp2_with fail
  go_ret2
  refine ⟨_, ret_mat hv.out.symm, ?_, below_trans hw2 hb3⟩
  rw [← HL.out]
  exact hu.base hw2.size
/-- The number of pairs. -/
def sizeG (g : Graph) : Int := ((mchG g).length : Nat)
set_option maxHeartbeats 4000000 in
set_option maxRecDepth 100000 in
theorem Size_ok (g : Graph) (hwf : WfG g) (v : Value) (w : World) (h : GraphAt w v g) :
    Calls Try.prog 17 #[v] w fun e w' => e = .returned (.tuple #[.int .i64 (sizeG g), .int .i64 (validE g)]) ∧ Below w.heap.size w w' := by
  have h0 := h
  obtain ⟨v1, v2, v3, rfl, ho, hr, hl⟩ := h
  obtain ⟨A1, c1, rfl, _, _, _⟩ := ho.cells
  obtain ⟨A2, c2, rfl, _, _, _⟩ := hr.cells
  obtain ⟨A3, c3, rfl, _, _, _⟩ := hl.cells
  obtain ⟨W, hW, Hz, hwW, hlt0, hc0⟩ := boxed w #[.slice A1 g.obv.length c1, .slice A2 g.rev.length c2, .slice A3 g.links.length c3] 25
  have a0 := hc0 0 _ rfl; have a1 := hc0 1 _ rfl; have a2 := hc0 2 _ rfl
  clear hc0 ho hr hl
  go_enter Try.func17, Try.ntmps17
  go_wp2_with fail
  refine (Matching_ok g hwf _ W (h0.below hwW)).mono ?_
  rintro e w1 ⟨u, rfl, hu, hb1⟩
  clear hW
  obtain ⟨A, c, rfl, _⟩ := hu.slOf
  go_wp2_with fail
  go_ret2
  exact ⟨rfl, below_trans hwW hb1⟩
end Go.Proofs.Ytnaoiochfdipiaa
