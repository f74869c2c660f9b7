/- component.steps. Condition: the graph is valid, the die's numbers are numbers. -/
import Derived.Test.YtikfffojeakjoaaGreatDoorQueD
import Derived.Test.YtikfffojeakjoaaGreatDoorGroB
import Derived.Test.YtikfffojeakjoaaGreatDoorCovG
import Derived.Test.YtikfffojeakjoaaGreatDoorStepP
namespace Go.Proofs.YtikfffojeakjoaaGreatDoor
open Go.RowKit Go.Maps

/-- The links of a graph have numbers of dies. -/
def LinkWf (g : Graph) : Prop := ∀ x ∈ g.links, wfD (lA x) ∧ wfD (lB x)
theorem mem_snoc2 {β : Type} {l : List β} {k : Nat} {x : β} {P : β → Prop} (hx : l[k]? = some x) (h : ∀ y ∈ l.take k, P y) (hp : P x) : ∀ y ∈ l.take (k + 1), P y := fun y hy => by
  rw [take_snoc' hx] at hy
  rcases List.mem_append.1 hy with hy | hy
  · exact h y hy
  · rw [List.mem_singleton] at hy; subst hy; exact hp
def mapSz (w : World) (b : Nat) : Nat := match w.heap[b]? with | some (.map es _) => es.size | _ => 0
theorem mapSz_of {w : World} {b : Nat} {m : List (Die × Int)} (h : MapD w b m) : mapSz w b = m.length := by
  obtain ⟨⟨D, ⟨es, clock, hb, _, _, rfl⟩, _, hs, _⟩, _, _⟩ := h
  simp only [Maps.size, length_sorted] at hs
  simp only [mapSz, hb]
  simpa using hs
def qLen (v : Value) : Nat := match v with | .slice _ n _ => n | _ => 0
theorem acrD_wf {g : Graph} (h : LinkWf g) {x : Link} (hx : x ∈ g.links) (d : Die) : wfD (acrD x d) := by
  have := h x hx
  unfold acrD acrO
  split
  · exact this.2
  · split
    · exact this.1
    · exact ⟨wfN (n := 0) (by omega), wfN (n := 0) (by omega)⟩
set_option maxHeartbeats 8000000 in
set_option maxRecDepth 100000 in
theorem steps_ok (g : Graph) (hgl : LinkWf g) (hlen : g.links.length ≤ 64) (s : Die) (hs : wfD s) (v : Value) (w : World) (h : GraphAt w v g) :
    Calls Tryz.prog 75 #[v, vlD s] w fun e w' => ∃ b m, e = .returned (.map (some b)) ∧ MapD w' b m ∧ (∀ d, d ∈ m.map Prod.fst ↔ Con (edgesG g) s d) ∧ w.heap.size ≤ b ∧ Below w.heap.size w w' ∧ m.length ≤ 200 := by
  have hmm := @run_makeMap Tryz.prog
  have h0 := h
  obtain ⟨v1, v2, v3, rfl, ho, hr, hk⟩ := h
  obtain ⟨A1, c1, rfl, _, _, _⟩ := ho.cells
  obtain ⟨A2, c2, rfl, _, _, _⟩ := hr.cells
  obtain ⟨A3, c3, rfl, _, _, hck⟩ := hk.cells
  obtain ⟨W0, hW0, Hz0, hb0, hlt0, hc0⟩ := boxed w #[.slice A1 g.obv.length c1, .slice A2 g.rev.length c2, .slice A3 g.links.length c3] 68
  obtain ⟨W1, hW1, Hz1, hb1, hlt1, hc1⟩ := boxed W0 #[.int .i64 s.side, .int .i64 s.num] 43
  have a2 := cell_later hb1 (hc0 2 _ rfl)
  have b0 := hc1 0 _ rfl; have b1 := hc1 1 _ rfl
  have hw1 := below_trans hb0 hb1
  obtain ⟨M1, hM1⟩ : ∃ W, W1.alloc (.map #[] 0) = W := ⟨_, rfl⟩
  have hbM : Below W1.heap.size W1 M1 := by rw [← hM1]; exact (Below.refl _ _).alloc (Nat.le_refl _) _
  have hm1 : MapD M1 W1.heap.size [] := by rw [← hM1]; exact mapD_made W1
  obtain ⟨M2, hu, hm2, hg2⟩ := hm1.put (y := 0) hs (wfN (n := 0) (by omega)) (by simp [maxLen])
  have hm2' : MapD M2 W1.heap.size [(s, 0)] := hm2
  have b0' := cell_later hbM b0; have b1' := cell_later hbM b1
  have hne1 : some W0.heap.size ≠ some W1.heap.size := fun e => by have := Option.some.inj e; omega
  have hb2' : W0.heap.size < M1.heap.size := by have := hbM.size; omega
  have c0 : M2.cell? ⟨W0.heap.size, 0, none⟩ = some (.int .i64 s.side) := (World.cell?_of_block (hg2.block _ hb2' hne1)).trans b0'
  have c1 : M2.cell? ⟨W0.heap.size, 1, none⟩ = some (.int .i64 s.num) := (World.cell?_of_block (hg2.block _ hb2' hne1)).trans b1'
  have hwM : Below w.heap.size w M2 := (below_trans hw1 hbM).grown hg2 (below_trans hw1 hbM).size (fun j e => by cases e; exact hw1.size)
  have hMz : W1.heap.size < M2.heap.size := by have := hg2.size; have := hbM.size; have : M1.heap.size = W1.heap.size + 1 := by rw [← hM1]; simp
                                               omega
  have a2' : M2.cell? ⟨w.heap.size, 2, none⟩ = some (.slice A3 g.links.length c3) := (World.cell?_of_block (hg2.block _ (show w.heap.size < M1.heap.size by have := hbM.size; omega) (fun e => by have h9 : w.heap.size = W1.heap.size := Option.some.inj e; omega))).trans (cell_later hbM a2)
  obtain ⟨W2, hW2, Hz2, hb2, hlt2, _⟩ := boxed M2 #[.int .i64 s.side, .int .i64 s.num] 43
  have hkq : W2.heap[M2.heap.size]? = some (.cells (encD s).toArray 43 (0, 0)) := by rw [← hW2]; exact heap_alloc_new _ _
  have hq0 : QuD M2.heap.size W2 (.slice (some ⟨M2.heap.size, 0, none⟩) 1 1) [s] := Own.qu (own_one (lenD s) hkq (Nat.le_refl _))
  have hm3 := hm2'.below hb2
  have hT0 : Touch M2 W2 [W1.heap.size] := touch_below hb2 _
  obtain ⟨iD, hiD, hzD, hkD, hbD⟩ := info_parts infoD
  have hwz := hw1.size
  clear hc0 hc1 ho hr hk hm2 hm2' hkq b0 b1 hb2' a2
  go_enter Tryz.func75, Tryz.ntmps75
  go_wp2_with fail
  clear hmm hu hM1 hW2 hW1 hW0 b0' b1' c0 c1 hb2
  go_loopw [6] (fun q wr => ∃ (m : List (Die × Int)) (Q : List Die), Hid (Bfs g s m Q) ∧ MapD wr W1.heap.size m ∧ QuD M2.heap.size wr q Q ∧ Touch M2 wr [W1.heap.size] ∧ Hid (Q.length ≤ m.length)) (fun q wr => (130 - mapSz wr W1.heap.size) + qLen q)
  case atStart => exact ⟨[(s, 0)], [s], Lib.hid (bfs_start g s), hm3, hq0, hT0, Lib.hid (Nat.le_refl _)⟩
  case round =>
    clear hm3 hq0 hT0
    obtain ⟨m, Q, HB, hm, hq, hT, HQ⟩ := hrel
    have hwr : Below w.heap.size w wr := (touch_below hwM [W1.heap.size]).trans hT |>.below (by simp; omega) (Nat.le_refl _)
    have hml := HB.out.len
    have hMr := hT.size
    cases Q with
    | nil =>
      obtain ⟨Aq, cq, rfl⟩ := hq.nil
      have HD := Lib.hid HB.out.done
      clear hq hck
      go_wp2_with fail
      go_ret
      exact ⟨_, m, rfl, hm, HD.out, by omega, hwr, by omega⟩
    | cons d Q =>
      obtain ⟨gq, off, cap, rfl, hcm, hlc, hgq, hBg, hcells, _⟩ := hq.head lenD
      have q0 : wr.cell? ⟨gq, off, none⟩ = some (.int .i64 d.side) := hcells 0 _ rfl
      have q1 : wr.cell? ⟨gq, off + 1, none⟩ = some (.int .i64 d.num) := hcells 1 _ rfl
      have hlQ : Q.length + 1 ≤ 129 := by have := HQ.out; simp only [List.length_cons] at this; omega
      have hcap : (cap : Int) + 1 ≤ 9223372036854775807 := by simp only [maxLen] at hcm; omega
      obtain ⟨V1, V2, hV1, hV2, HzV2, hkV1, hkV2, hbV2, hltV2⟩ := fresh wr [.int .i64 0, .int .i64 0] [.int .i64 (d).side, .int .i64 (d).num] 43 rfl
      have hsV2 : (V1.setCell ⟨wr.heap.size, 0, none⟩ (.int .i64 (d).side)).setCell ⟨wr.heap.size, 1, none⟩ (.int .i64 (d).num) = V2 := hV2
      clear hV2
      obtain ⟨⟨z0, z1⟩, f0, f1⟩ := cells2 hkV1
      obtain ⟨⟨s0, s1⟩, _⟩ := cells2 hkV2
      clear hkV1
      have a2 := cell_later hbV2 (cell_off hT (by simp; omega) a2')
      have hm2 := hm.below hbV2; have hq2 := hq.below hbV2
      have HT := Lib.hid (hT.trans (touch_below hbV2 [W1.heap.size]))
      have Hsz := Lib.hid (mapSz_of hm)
      have hdk := HB.out.que d (by simp)
      have Hdk := Lib.hid hdk
      have hwd := (hm.good _ (List.mem_map.1 hdk).choose_spec.1).1
      rw [(List.mem_map.1 hdk).choose_spec.2] at hwd
      clear hq hm hT hcells hdk
      go_wp2_with fail
      clear q0 q1 z0 z1 f0 f1 hsV2 hV1
      obtain ⟨wo, hwo⟩ : ∃ z, z = wr := ⟨_, rfl⟩
      subst hwo
      go_loopw [6, 30] (fun q i wr => ∃ (j : Nat) (m' : List (Die × Int)) (Q' : List Die), j ≤ g.links.length ∧ i = .int .i64 j ∧ Hid (Bfs g s m' (d :: Q')) ∧ Hid (∀ x ∈ g.links.take j, ∀ e, acrO x d = some e → e ∈ m'.map Prod.fst) ∧ MapD wr W1.heap.size m' ∧ QuD M2.heap.size wr q (d :: Q') ∧ Touch M2 wr [W1.heap.size] ∧ (wr.cell? ⟨wo.heap.size, 0, none⟩ = some (.int .i64 d.side) ∧ wr.cell? ⟨wo.heap.size, 1, none⟩ = some (.int .i64 d.num)) ∧ Hid (q.ownBlock ≠ some wo.heap.size) ∧ Hid (m'.length + Q.length = m.length + Q'.length) ∧ Hid (Q'.length + 1 ≤ m'.length) ∧ V2.heap.size ≤ wr.heap.size) (fun _ i _ => g.links.length - (intOf i).toNat)
      case atStart => exact ⟨0, m, Q, Nat.zero_le _, rfl, HB, Lib.hid (fun x hx => by simp at hx), hm2, hq2, HT.out, ⟨s0, s1⟩, Lib.hid (by simp [Value.ownBlock]; omega), Lib.hid rfl, HQ, Nat.le_refl _⟩
      case round =>
        obtain ⟨j, m', Q', hj, rfl, HB', Hdone, hm', hq', hT', ⟨t0, t1⟩, Hne, Heq, HQ', hzz⟩ := hrel
        have hwr : Below w.heap.size w wr := (touch_below hwM [W1.heap.size]).trans hT' |>.below (by simp; omega) (Nat.le_refl _)
        have hml' := HB'.out.len
        by_cases hlt : j < g.links.length
        · obtain ⟨bo, o, rfl, _, hcb⟩ := hck j hlt
          obtain ⟨x, hx⟩ := get_of_lt hlt
          obtain ⟨y0, y1, y2⟩ := hcb wr hwr j x hx
          have hxm := List.mem_of_getElem? hx
          have Hx := Lib.hid hx
          obtain ⟨L1, L2, hL1, hL2, HzL2, hkL1, hkL2, hbL2, hltL2⟩ := fresh wr [.int .i64 0, .int .i64 0, .int .i64 0] [.int .i64 (x).id, .int .i64 (x).obv, .int .i64 (x).rev] 73 rfl
          have hsL2 : ((L1.setCell ⟨wr.heap.size, 0, none⟩ (.int .i64 (x).id)).setCell ⟨wr.heap.size, 1, none⟩ (.int .i64 (x).obv)).setCell ⟨wr.heap.size, 2, none⟩ (.int .i64 (x).rev) = L2 := hL2
          clear hL2
          obtain ⟨⟨z0a, z1a, z2a⟩, f0a, f1a, f2a⟩ := cells3 hkL1
          obtain ⟨⟨s0a, s1a, s2a⟩, _⟩ := cells3 hkL2
          clear hkL1
          have t0 := cell_later hbL2 t0; have t1 := cell_later hbL2 t1
          have hac := across_ok x d
          have hwy := acrD_wf hgl hxm d
          have hmL := hm'.below hbL2; have hqL := hq'.below hbL2
          have HTL := Lib.hid (hT'.trans (touch_below hbL2 [W1.heap.size]))
          have hwrz : wo.heap.size < wr.heap.size := by omega
          clear hcb hx hm' hq' hck hm2 hq2
          cases ha : acrO x d with
          | none =>
            rw [acrD, ha] at hac hwy
            have Hac := Lib.hid hac; clear hac
            have Hdone' : Hid (∀ x ∈ g.links.take (j + 1), ∀ e, acrO x d = some e → e ∈ m'.map Prod.fst) := Lib.hid (mem_snoc2 (P := fun x => ∀ e, acrO x d = some e → e ∈ m'.map Prod.fst) Hx.out (fun z hz => Hdone.out z hz) (fun e he => by rw [ha] at he; cases he))
            clear ha Hdone
            go_wp2_with fail
            refine (Hac.out _).mono ?_
            rintro e w5 ⟨rfl, hb5⟩
            have t0 := cell_later hb5 t0; have t1 := cell_later hb5 t1
            obtain ⟨N1, N2, hN1, hN2, HzN2, hkN1, hkN2, hbN2, hltN2⟩ := fresh w5 [.int .i64 0, .int .i64 0] [.int .i64 ((⟨0, 0⟩ : Die)).side, .int .i64 ((⟨0, 0⟩ : Die)).num] 43 rfl
            have hsN2 : (N1.setCell ⟨w5.heap.size, 0, none⟩ (.int .i64 ((⟨0, 0⟩ : Die)).side)).setCell ⟨w5.heap.size, 1, none⟩ (.int .i64 ((⟨0, 0⟩ : Die)).num) = N2 := hN2
            clear hN2
            obtain ⟨⟨z0b, z1b⟩, f0b, f1b⟩ := cells2 hkN1
            obtain ⟨⟨s0b, s1b⟩, _⟩ := cells2 hkN2
            clear hkN1
            have hb6 := below_trans hb5 hbN2
            have t0 := cell_later hbN2 t0; have t1 := cell_later hbN2 t1
            have hm6 := hmL.below hb6; have hq6 := hqL.below hb6
            have k1 := hm6.look_ok (x := ⟨0, 0⟩) hwy
            dsimp only at k1
            have HT6 := Lib.hid (HTL.out.trans (touch_below hb6 [W1.heap.size]))
            have hz6 := hb6.size
            generalize (lookM m' ⟨0, 0⟩).isSome = K at k1
            generalize (lookM m' ⟨0, 0⟩).getD 0 = K2 at k1
            go_wp2_with fail
            refine ⟨?rel, ?measure⟩
            case rel => exact ⟨j + 1, m', Q', by omega, by go_num, HB', Hdone', hm6, hq6, HT6.out, ⟨t0, t1⟩, Hne, Heq, HQ', by omega⟩
            case measure => first | (simp [intOf]; done) | (simp [intOf]; omega)
          | some y =>
            rw [acrD, ha] at hac hwy
            have Hac := Lib.hid hac; clear hac
            have Ha := Lib.hid ha
            have hwy : wfD y := hwy
            clear ha
            go_wp2_with fail
            refine (Hac.out _).mono ?_
            rintro e w5 ⟨rfl, hb5⟩
            have t0 := cell_later hb5 t0; have t1 := cell_later hb5 t1
            obtain ⟨N1, N2, hN1, hN2, HzN2, hkN1, hkN2, hbN2, hltN2⟩ := fresh w5 [.int .i64 0, .int .i64 0] [.int .i64 (y).side, .int .i64 (y).num] 43 rfl
            have hsN2 : (N1.setCell ⟨w5.heap.size, 0, none⟩ (.int .i64 (y).side)).setCell ⟨w5.heap.size, 1, none⟩ (.int .i64 (y).num) = N2 := hN2
            clear hN2
            obtain ⟨⟨z0b, z1b⟩, f0b, f1b⟩ := cells2 hkN1
            obtain ⟨⟨s0b, s1b⟩, _⟩ := cells2 hkN2
            clear hkN1
            have hb6 := below_trans hb5 hbN2
            have t0 := cell_later hbN2 t0; have t1 := cell_later hbN2 t1
            have hm6 := hmL.below hb6; have hq6 := hqL.below hb6
            have k1 := hm6.look_ok hwy
            have HT6 := Lib.hid (HTL.out.trans (touch_below hb6 [W1.heap.size]))
            have hz6 := hb6.size
            cases hl : lookM m' y with
            | some n =>
              rw [hl] at k1
              dsimp only [Option.getD, Option.isSome] at k1
              have Hdone' : Hid (∀ x ∈ g.links.take (j + 1), ∀ e, acrO x d = some e → e ∈ m'.map Prod.fst) := Lib.hid (mem_snoc2 (P := fun x => ∀ e, acrO x d = some e → e ∈ m'.map Prod.fst) Hx.out (fun z hz => Hdone.out z hz) (fun e he => by rw [Ha.out] at he; cases he; exact List.mem_map.2 ⟨_, lookM_some hl, rfl⟩))
              clear hl Hdone
              go_wp2_with fail
              refine ⟨?rel, ?measure⟩
              case rel => exact ⟨j + 1, m', Q', by omega, by go_num, HB', Hdone', hm6, hq6, HT6.out, ⟨t0, t1⟩, Hne, Heq, HQ', by omega⟩
              case measure => first | (simp [intOf]; done) | (simp [intOf]; omega)
            | none =>
              rw [hl] at k1
              dsimp only [Option.getD, Option.isSome] at k1
              have hny : y ∉ m'.map Prod.fst := lookM_none.1 hl
              obtain ⟨n, hn⟩ := Option.isSome_iff_exists.1 (look_mem.2 (HB'.out.que d (by simp)))
              have hnr := HB'.out.rng _ (lookM_some hn)
              simp only at hnr
              have HBadd := Lib.hid (HB'.out.add (HB'.out.que d (by simp)) hxm Ha.out hny (n := n + 1) (by omega))
              have Hpa := Lib.hid (putM_add (n := n + 1) hny)
              have Hdone' : Hid (∀ x ∈ g.links.take (j + 1), ∀ e, acrO x d = some e → e ∈ (m' ++ [(y, n + 1)]).map Prod.fst) := Lib.hid (mem_snoc2 (P := fun x => ∀ e, acrO x d = some e → e ∈ (m' ++ [(y, n + 1)]).map Prod.fst) Hx.out (fun z hz e he => by rw [List.map_append]; exact List.mem_append_left _ (Hdone.out z hz e he)) (fun e he => by rw [Ha.out] at he; cases he; simp))
              have hwn : wfI (n + 1) := by
                have e : n + 1 = ((n.toNat + 1 : Nat) : Int) := by omega
                rw [e]; exact wfN (by omega)
              have Hn := Lib.hid hn
              have n0 := hnr.1
              have n1 : n ≤ 200 := by omega
              clear hl Hdone hny hn hnr
              go_wp2_with fail
              have hba : Below N2.heap.size N2 N2.drew := (Below.refl _ _).drew
              obtain ⟨wa, hwa⟩ : ∃ W, N2.drew = W := ⟨_, rfl⟩
              rw [hwa] at hba
              have hm7 := hm6.below hba
              have k2 := hm7.look hwd
              rw [Hn.out] at k2
              dsimp only [Option.getD] at k2
              obtain ⟨w8, hu8, hm8, hg8⟩ := hm7.put hwy hwn (by simp only [maxLen]; omega)
              rw [Hpa.out] at hm8
              have u0 := cell_later hba t0; have u1 := cell_later hba t1
              have v0 := cell_later hba s0b; have v1 := cell_later hba s1b
              have hoff : ∀ b, b ≠ W1.heap.size → some b ≠ some W1.heap.size := fun b hb e => hb (Option.some.inj e)
              have hwaz := hba.size
              have n5 : w5.heap.size ≠ W1.heap.size := by have := hb5.size; have := hbL2.size; omega
              have n6 : wo.heap.size ≠ W1.heap.size := by omega
              have x0 : w8.cell? ⟨wo.heap.size, 0, none⟩ = some (.int .i64 d.side) := (World.cell?_of_block (hg8.block wo.heap.size (by omega) (hoff _ n6))).trans u0
              have x1 : w8.cell? ⟨wo.heap.size, 1, none⟩ = some (.int .i64 d.num) := (World.cell?_of_block (hg8.block wo.heap.size (by omega) (hoff _ n6))).trans u1
              have x2 : w8.cell? ⟨w5.heap.size, 0, none⟩ = some (.int .i64 y.side) := (World.cell?_of_block (hg8.block w5.heap.size (by omega) (hoff _ n5))).trans v0
              have x3 : w8.cell? ⟨w5.heap.size, 1, none⟩ = some (.int .i64 y.num) := (World.cell?_of_block (hg8.block w5.heap.size (by omega) (hoff _ n5))).trans v1
              have hq8 := (hq6.below hba).kept hg8 (.inr fun e => by have := (hq6.lt _ e).1; omega)
              have HT8 := Lib.hid ((HT6.out.trans (touch_below hba [W1.heap.size])).trans (grown_touch hg8 (by simp)))
              have hz8 : M2.heap.size ≤ w8.heap.size := HT8.out.size
              have hz8' : V2.heap.size ≤ w8.heap.size := by have := hg8.size; omega
              have hlq8 : Q'.length + 1 ≤ 129 := by have := HQ'.out; omega
              have HX := Lib.hid (⟨x0, x1⟩ : _ ∧ _)
              have hwr1 : IntKind.i64.wrap (n + 1) = n + 1 := IntWalk.i64_in _ (by omega)
              have hHeld : wa = wa := rfl
              refine wp_region_S 6 (fun w' => w' = wa) (by kernel_rfl) (by decide) ?_
              rw [hwa]
              clear hwa t0 t1 s0b s1b hm6 hq6 HT6 hm7 hba hg8 x0 x1
              refine wpAnyS_takeD 0 (some 51) (.map (some W1.heap.size)) (by rfl) (by rfl) (by kernel_rfl) (by exact fun _ _ _ h => h) (by rfl) (fun w' hS => by (subst hS; go_simp)) hHeld ?_
              simp only [Act.put, List.setIfInBounds_toArray, List.set_cons_succ, List.set_cons_zero]
              refine wpAnyS_takeD 1 (some 52) (vlD y) (by rfl) (by rfl) (by kernel_rfl) (by exact fun _ _ _ h => h) (by rfl) (fun w' hS => by (subst hS; go_simp)) hHeld ?_
              simp only [Act.put, List.setIfInBounds_toArray, List.set_cons_succ, List.set_cons_zero]
              refine wpAnyS_takeD 2 (some 53) (.map (some W1.heap.size)) (by rfl) (by rfl) (by kernel_rfl) (by exact fun _ _ _ h => h) (by rfl) (fun w' hS => by (subst hS; go_simp)) hHeld ?_
              simp only [Act.put, List.setIfInBounds_toArray, List.set_cons_succ, List.set_cons_zero]
              refine wpAnyS_takeD 3 (some 54) (vlD d) (by rfl) (by rfl) (by kernel_rfl) (by exact fun _ _ _ h => h) (by rfl) (fun w' hS => by (subst hS; go_simp)) hHeld ?_
              simp only [Act.put, List.setIfInBounds_toArray, List.set_cons_succ, List.set_cons_zero]
              refine wpAnyS_takeD 4 (some 55) (.int .i64 n) (by rfl) (by rfl) (by kernel_rfl) (by exact fun _ _ _ h => h) (by rfl) (fun w' hS => by (subst hS; go_simp)) hHeld ?_
              simp only [Act.put, List.setIfInBounds_toArray, List.set_cons_succ, List.set_cons_zero]
              refine wpAnyS_takeD 5 (some 56) (.int .i64 (n + 1)) (by rfl) (by rfl) (by kernel_rfl) (by exact fun _ _ _ h => h) (by rfl) (fun w' hS => by (subst hS; go_simp)) hHeld ?_
              simp only [Act.put, List.setIfInBounds_toArray, List.set_cons_succ, List.set_cons_zero]
              clear hHeld u0 u1 v0 v1 k2 hwr1
              refine (show tailOf _ _ _ _ _ _ _ _ from ⟨by kernel_rfl, ?_⟩)
              simp only [List.drop_succ_cons, List.drop_zero]
              have hlq9 : (d :: Q').length ≤ 129 := by simp; omega
              go_wp2_with (at_builtin; refine wpList_appendQu rfl (.tmp 57) (.tmp 59) _ rfl iD _ 16 Tryz.underlying110 hiD hzD hkD hbD rfl (by decide) lenD oneD rfl hq8 y _ rfl _ rfl rfl (by omega) (by omega) hz8 ?_; intro v' wf hqf hgf hat)
              have hnb : ∀ c, c < M2.heap.size → some c ≠ Value.ownBlock _ := fun c hc e => by have := (hq8.lt c e.symm).1; omega
              have hxo : wo.heap.size < w8.heap.size := by omega
              have hc0 := (World.cell?_of_block (a := ⟨wo.heap.size, 0, none⟩) (hgf.block wo.heap.size hxo (fun e => Hne.out e.symm))).trans HX.out.1
              have hc1 := (World.cell?_of_block (a := ⟨wo.heap.size, 1, none⟩) (hgf.block wo.heap.size hxo (fun e => Hne.out e.symm))).trans HX.out.2
              have Hne' : Hid (v'.ownBlock ≠ some wo.heap.size) := Lib.hid (by
                rcases hat with e | e
                · rw [e]; exact Hne.out
                · intro e2; have := e _ e2; omega)
              refine ⟨?rel, ?measure⟩
              case rel => exact ⟨j + 1, m' ++ [(y, n + 1)], Q' ++ [y], by omega, by go_num, HBadd, Hdone', hm8.kept hgf (hnb _ hMz), hqf, HT8.out.trans_own hgf (fun i e => (hq8.lt i e).1), ⟨hc0, hc1⟩, Hne', Lib.hid (by have := Heq.out; simp only [List.length_append, List.length_singleton]; omega), Lib.hid (by have := HQ'.out; simp only [List.length_append, List.length_singleton]; omega), by have := hgf.size; omega⟩
              case measure => first | (simp [intOf]; done) | (simp [intOf]; omega)
        · have e1 : g.links.take j = g.links := List.take_of_length_le (by omega)
          have HBp := Lib.hid (HB'.out.pop (fun x hx e he => Hdone.out x (by rw [e1]; exact hx) e he))
          obtain ⟨gq', off', cap', rfl, hcm', hlc', _, _, _, hcut, hcut0⟩ := hq'.head lenD
          have Hsz' := Lib.hid (mapSz_of hm')
          have hcap' : (cap' : Int) + 1 ≤ 9223372036854775807 := by simp only [maxLen] at hcm'; omega
          have HQp := Lib.hid (show Q'.length ≤ m'.length by have := HQ'.out; omega)
          have hml2 := hml'
          have hmlo := hml
          have HM' := Lib.hid hm'; have HT' := Lib.hid hT'
          clear e1 hq' hm' hT' hck hm2 hq2
          rcases Nat.eq_zero_or_pos cap' with h0 | h0
          · obtain ⟨e0, hQ2⟩ := hcut0 h0
            subst h0; subst e0
            clear hcut hcut0
            have HQ2 := Lib.hid hQ2; clear hQ2
            go_wp2_with fail
            refine ⟨?rel, ?measure⟩
            case rel => exact ⟨m', [], HBp, HM'.out, HQ2.out, HT'.out, HQp⟩
            case measure => rw [Hsz'.out, Hsz.out]; have := Heq.out; simp [qLen] at this ⊢; omega
          · have hQ2 := hcut h0
            clear hcut hcut0
            have HQ2 := Lib.hid hQ2; clear hQ2
            go_wp2_with fail
            refine ⟨?rel, ?measure⟩
            case rel => exact ⟨m', Q', HBp, HM'.out, HQ2.out, HT'.out, HQp⟩
            case measure => rw [Hsz'.out, Hsz.out]; have := Heq.out; simp only [qLen]; omega
end Go.Proofs.YtikfffojeakjoaaGreatDoor
/- component.in, away, Joined. Condition: the graph in its memory, the dies' numbers are numbers. -/
namespace Go.Proofs.YtikfffojeakjoaaGreatDoor
open Go.RowKit Go.Maps

theorem ascB_bounds {xs : List Int} {lo hi : Int} (h : ascB xs lo hi = true) : ∀ x ∈ xs, lo ≤ x ∧ x ≤ hi := by
  simp only [ascB, decide_eq_true_eq] at h
  exact h.1
theorem linkWf {g : Graph} (hg : graphB g = true) : LinkWf g := fun x hx => by
  have hok := (graphB_iff g).1 hg
  have hE := graphB_ends hg
  have h1 := ascB_bounds hok.ao _ (hE.1 x hx)
  have h2 := ascB_bounds hok.ar _ (hE.2 x hx)
  exact ⟨⟨wfN (n := 0) (by omega), show wfI x.obv from wf_small (by omega) (by omega)⟩, ⟨wfN (n := 1) (by omega), show wfI x.rev from wf_small (by omega) (by omega)⟩⟩
set_option maxHeartbeats 2000000 in
theorem cIn_ok (v : Value) (g : Graph) (d : Die) (w : World) (h : GraphAt w v g) :
    Calls Tryz.prog 74 #[v, vlD d] w fun e w' => e = .returned (.bool (decide (d ∈ diesG g))) ∧ Below w.heap.size w w' := by
  have h' := h
  obtain ⟨v1, v2, v3, rfl, ho, hr, hk⟩ := h
  obtain ⟨A1, c1, rfl, _, _, _⟩ := ho.cells
  obtain ⟨A2, c2, rfl, _, _, _⟩ := hr.cells
  obtain ⟨A3, c3, rfl, _, _, _⟩ := hk.cells
  obtain ⟨W0, hW0, Hz0, hb0, hlt0, hc0⟩ := boxed w #[.slice A1 g.obv.length c1, .slice A2 g.rev.length c2, .slice A3 g.links.length c3] 68
  obtain ⟨W1, hW1, Hz1, hb1, hlt1, hc1⟩ := boxed W0 #[.int .i64 d.side, .int .i64 d.num] 43
  have a0 := cell_later hb1 (hc0 0 _ rfl); have a1 := cell_later hb1 (hc0 1 _ rfl); have a2 := cell_later hb1 (hc0 2 _ rfl)
  have b0 := hc1 0 _ rfl; have b1 := hc1 1 _ rfl
  have hw1 := below_trans hb0 hb1
  have h1 := h'.below hw1
  clear hc0 hc1 ho hr hk
  generalize hD : decide (d ∈ diesG g) = D
  have HD := Lib.hid hD; clear hD
  go_enter Tryz.func74, Tryz.ntmps74
  go_wp2_with fail
  refine (Dies_ok _ g _ h1).mono ?_
  rintro e w2 ⟨u, rfl, hu, hb2⟩
  have b0 := cell_later hb2 b0; have b1 := cell_later hb2 b1
  clear a0 a1 a2 hW0 hW1
  obtain ⟨Au, cu, rfl, _, _, _⟩ := id hu
  have HC := containsD_ok _ (diesG g) d w2 hu
  rw [HD.out] at HC
  have HC' := Lib.hid HC; clear HC
  go_wp2_with fail
  refine HC'.out.mono ?_
  rintro e w3 ⟨rfl, hb3⟩
  go_wp2_with fail
  go_ret
  exact ⟨rfl, below_trans hw1 (below_trans hb2 hb3)⟩

noncomputable def awayE (g : Graph) (a b : Die) : Int := if graphB g = true then (if joinB (edgesG g) a b = true then 0 else 7) else 1
theorem away_1 {g : Graph} {a b : Die} (h : graphB g = false) : awayE g a b = 1 := by rw [awayE, if_neg (by simp [h])]
theorem away_7 {g : Graph} {a b : Die} (h : graphB g = true) (hj : ¬ JoinE (edgesG g) a b) : awayE g a b = 7 := by rw [awayE, if_pos h, if_neg (fun h => hj (joinB_iff.1 h))]
theorem away_0 {g : Graph} {a b : Die} (h : graphB g = true) (hj : JoinE (edgesG g) a b) : awayE g a b = 0 := by rw [awayE, if_pos h, if_pos (joinB_iff.2 hj)]
set_option maxHeartbeats 8000000 in
set_option maxRecDepth 100000 in
theorem away_ok (v : Value) (g : Graph) (da db : Die) (w : World) (h : GraphAt w v g) (hda : wfD da) (hdb : wfD db) :
    Calls Tryz.prog 40 #[v, vlD da, vlD db] w fun e w' => ∃ u, e = .returned (.tuple #[u, .int .i64 (awayE g da db)]) ∧ Below w.heap.size w w' := by
  have h' := h
  obtain ⟨v1, v2, v3, rfl, ho, hr, hk⟩ := h
  obtain ⟨A1, c1, rfl, _, _, _⟩ := ho.cells
  obtain ⟨A2, c2, rfl, _, _, _⟩ := hr.cells
  obtain ⟨A3, c3, rfl, _, _, _⟩ := hk.cells
  obtain ⟨W0, hW0, Hz0, hb0, hlt0, hc0⟩ := boxed w #[.slice A1 g.obv.length c1, .slice A2 g.rev.length c2, .slice A3 g.links.length c3] 68
  obtain ⟨W1, hW1, Hz1, hb1, hlt1, hc1⟩ := boxed W0 #[.int .i64 da.side, .int .i64 da.num] 43
  obtain ⟨W2, hW2, Hz2, hb2, hlt2, hc2⟩ := boxed W1 #[.int .i64 db.side, .int .i64 db.num] 43
  have hb12 := below_trans hb1 hb2
  have a0 := cell_later hb12 (hc0 0 _ rfl); have a1 := cell_later hb12 (hc0 1 _ rfl); have a2 := cell_later hb12 (hc0 2 _ rfl)
  have b0 := cell_later hb2 (hc1 0 _ rfl); have b1 := cell_later hb2 (hc1 1 _ rfl)
  have d0 := hc2 0 _ rfl; have d1 := hc2 1 _ rfl
  have hw2 := below_trans hb0 hb12
  clear hc0 hc1 hc2 ho hr hk
  have HV := Lib.hid (Valid_ok _ g _ (h'.below hw2))
  go_enter Tryz.func40, Tryz.ntmps40
  go_wp2_with fail
  refine HV.out.mono ?_
  rintro e w3 ⟨rfl, hb3⟩
  have a0 := cell_later hb3 a0; have a1 := cell_later hb3 a1; have a2 := cell_later hb3 a2; have b0 := cell_later hb3 b0; have b1 := cell_later hb3 b1; have d0 := cell_later hb3 d0; have d1 := cell_later hb3 d1
  have hw3 := below_trans hw2 hb3
  clear hW0 hW1 hW2 HV
  cases hg : graphB g
  · have HE := Lib.hid (away_1 (a := da) (b := db) hg)
    clear hg a0 a1 a2 b0 b1 d0 d1
    go_wp2_with fail
    exact bodyPost_ret (v := .tuple #[.map none, .int .i64 1]) (by simp [results, Tryz.results40, go_sem]) rfl ⟨_, by rw [HE.out], hw3⟩
  have Hg := Lib.hid hg
  have Hend := Lib.hid (fun d => dies_end hg d)
  have hlen := ((graphB_iff g).1 hg).ll
  clear hg
  go_wp2_with fail
  by_cases hA : da ∈ diesG g
  case neg =>
    have HI := cIn_ok _ g da w3 (h'.below hw3)
    rw [decide_eq_false hA] at HI
    have HI' := Lib.hid HI
    have HE := Lib.hid (away_7 (a := da) (b := db) Hg.out (fun hj => hA ((Hend.out da).2 hj.1)))
    clear HI hA
    refine HI'.out.mono ?_
    rintro e w4 ⟨rfl, hb4⟩
    clear a0 a1 a2 b0 b1 d0 d1
    go_wp2_with fail
    exact bodyPost_ret (v := .tuple #[.map none, .int .i64 7]) (by simp [results, Tryz.results40, go_sem]) rfl ⟨_, by rw [HE.out], (below_trans hw3 hb4)⟩
  have HI := cIn_ok _ g da w3 (h'.below hw3)
  rw [decide_eq_true hA] at HI
  have HI' := Lib.hid HI
  have HA := Lib.hid ((Hend.out da).1 hA)
  clear HI hA
  refine HI'.out.mono ?_
  rintro e w4 ⟨rfl, hb4⟩
  have hw4 := below_trans hw3 hb4
  have a0 := cell_later hb4 a0; have a1 := cell_later hb4 a1; have a2 := cell_later hb4 a2; have b0 := cell_later hb4 b0; have b1 := cell_later hb4 b1; have d0 := cell_later hb4 d0; have d1 := cell_later hb4 d1
  clear HI'
  by_cases hB : db ∈ diesG g
  case neg =>
    have HI := cIn_ok _ g db w4 (h'.below hw4)
    rw [decide_eq_false hB] at HI
    have HI' := Lib.hid HI
    have HE := Lib.hid (away_7 (a := da) (b := db) Hg.out (fun hj => hB ((Hend.out db).2 hj.2.1)))
    clear HI hB
    go_wp2_with fail
    refine HI'.out.mono ?_
    rintro e w5 ⟨rfl, hb5⟩
    clear a0 a1 a2 b0 b1 d0 d1
    go_wp2_with fail
    exact bodyPost_ret (v := .tuple #[.map none, .int .i64 7]) (by simp [results, Tryz.results40, go_sem]) rfl ⟨_, by rw [HE.out], (below_trans hw4 hb5)⟩
  have HI := cIn_ok _ g db w4 (h'.below hw4)
  rw [decide_eq_true hB] at HI
  have HI' := Lib.hid HI
  have HB := Lib.hid ((Hend.out db).1 hB)
  clear HI hB
  go_wp2_with fail
  refine HI'.out.mono ?_
  rintro e w5 ⟨rfl, hb5⟩
  have hw5 := below_trans hw4 hb5
  have a0 := cell_later hb5 a0; have a1 := cell_later hb5 a1; have a2 := cell_later hb5 a2; have b0 := cell_later hb5 b0; have b1 := cell_later hb5 b1; have d0 := cell_later hb5 d0; have d1 := cell_later hb5 d1
  clear HI'
  go_wp2_with fail
  refine (steps_ok g (linkWf Hg.out) hlen da hda _ w5 (h'.below hw5)).mono ?_
  rintro e w6 ⟨b, m, rfl, hm, hmem, hbz, hb6, hml⟩
  have d0 := cell_later hb6 d0; have d1 := cell_later hb6 d1
  have hw6 := below_trans hw5 hb6
  have Hmem := Lib.hid hmem
  have k1 := hm.look_ok hdb
  clear a0 a1 a2 b0 b1 hmem
  cases hl : (lookM m db).isSome
  · rw [hl] at k1
    have HE := Lib.hid (away_7 (a := da) (b := db) Hg.out (fun hj => by
      rw [look_mem.2 ((Hmem.out db).2 hj.2.2)] at hl; cases hl))
    clear hl
    generalize (lookM m db).getD 0 = K at k1
    go_wp2_with fail
    exact bodyPost_ret (v := .tuple #[.map none, .int .i64 7]) (by simp [results, Tryz.results40, go_sem]) rfl ⟨_, by rw [HE.out], hw6⟩
  · rw [hl] at k1
    have HE := Lib.hid (away_0 (a := da) (b := db) Hg.out ⟨HA.out, HB.out, (Hmem.out db).1 (look_mem.1 hl)⟩)
    clear hl
    generalize (lookM m db).getD 0 = K at k1
    go_wp2_with fail
    exact bodyPost_ret (v := .tuple #[.map (some b), .int .i64 0]) (by simp [results, Tryz.results40, go_sem]) rfl ⟨_, by rw [HE.out], hw6⟩
noncomputable def joinG (g : Graph) (a b : Die) : Bool := graphB g && joinB (edgesG g) a b
theorem away_join (g : Graph) (a b : Die) : (awayE g a b == 0) = joinG g a b := by
  unfold awayE joinG
  cases graphB g
  · simp
  · cases joinB (edgesG g) a b <;> simp
set_option maxHeartbeats 2000000 in
theorem cJoined_ok (v : Value) (g : Graph) (da db : Die) (w : World) (h : GraphAt w v g) (hda : wfD da) (hdb : wfD db) :
    Calls Tryz.prog 22 #[v, vlD da, vlD db] w fun e w' => e = .returned (.bool (joinG g da db)) ∧ Below w.heap.size w w' := by
  have h' := h
  obtain ⟨v1, v2, v3, rfl, ho, hr, hk⟩ := h
  obtain ⟨A1, c1, rfl, _, _, _⟩ := ho.cells
  obtain ⟨A2, c2, rfl, _, _, _⟩ := hr.cells
  obtain ⟨A3, c3, rfl, _, _, _⟩ := hk.cells
  obtain ⟨W0, hW0, Hz0, hb0, hlt0, hc0⟩ := boxed w #[.slice A1 g.obv.length c1, .slice A2 g.rev.length c2, .slice A3 g.links.length c3] 68
  obtain ⟨W1, hW1, Hz1, hb1, hlt1, hc1⟩ := boxed W0 #[.int .i64 da.side, .int .i64 da.num] 43
  obtain ⟨W2, hW2, Hz2, hb2, hlt2, hc2⟩ := boxed W1 #[.int .i64 db.side, .int .i64 db.num] 43
  have hb12 := below_trans hb1 hb2
  have a0 := cell_later hb12 (hc0 0 _ rfl); have a1 := cell_later hb12 (hc0 1 _ rfl); have a2 := cell_later hb12 (hc0 2 _ rfl)
  have b0 := cell_later hb2 (hc1 0 _ rfl); have b1 := cell_later hb2 (hc1 1 _ rfl)
  have d0 := hc2 0 _ rfl; have d1 := hc2 1 _ rfl
  have hw2 := below_trans hb0 hb12
  clear hc0 hc1 hc2 ho hr hk
  have HA := Lib.hid (away_ok _ g da db _ (h'.below hw2) hda hdb)
  rw [← away_join]
  generalize awayE g da db = E at HA ⊢
  go_enter Tryz.func22, Tryz.ntmps22
  go_wp2_with fail
  refine HA.out.mono ?_
  rintro e w3 ⟨u, rfl, hb3⟩
  clear a0 a1 a2 b0 b1 d0 d1
  go_wp2_with fail
  go_ret
  exact ⟨rfl, below_trans hw2 hb3⟩
end Go.Proofs.YtikfffojeakjoaaGreatDoor
/- component.Parts. Condition: the graph in its memory. -/
namespace Go.Proofs.YtikfffojeakjoaaGreatDoor
open Go.RowKit Go.Maps

noncomputable def partsG (g : Graph) : List Int := partsA (joinB (edgesG g)) (diesG g)
theorem dies_wf {g : Graph} (hg : graphB g = true) : ∀ d ∈ diesG g, wfD d := fun d hd => by
  have hok := (graphB_iff g).1 hg
  rw [diesG, if_pos hg] at hd
  rcases List.mem_append.1 hd with hd | hd
  · obtain ⟨n, hn, rfl⟩ := List.mem_map.1 hd
    have := ascB_bounds hok.ao n hn
    exact ⟨wfN (n := 0) (by omega), show wfI n from wf_small (by omega) (by omega)⟩
  · obtain ⟨n, hn, rfl⟩ := List.mem_map.1 hd
    have := ascB_bounds hok.ar n hn
    exact ⟨wfN (n := 1) (by omega), show wfI n from wf_small (by omega) (by omega)⟩
theorem dies_le {g : Graph} (hg : graphB g = true) : (diesG g).length ≤ 64 := by
  have hok := (graphB_iff g).1 hg
  rw [dies_len hg]
  have := hok.lo; have := hok.lr; omega
/-- What the map of numbers knows after some dies. -/
def NumAt (R : Die → Die → Bool) (rs : List Die) (mm : List (Die × Int)) : Prop := ∀ x, lookM mm x = if rs.any (fun r => R r x) then some ((partI R rs x : Nat) : Int) else none
theorem NumAt.len {g : Graph} (hg : graphB g = true) {rs : List Die} {mm : List (Die × Int)} (h : NumAt (joinB (edgesG g)) rs mm) (hn : (mm.map Prod.fst).Nodup) : mm.length ≤ 64 := by
  have := nodup_len (c := diesG g) hn (fun x hx => by
    have hs := look_mem.2 hx
    rw [h x] at hs
    split at hs
    · rename_i ha
      obtain ⟨r, _, hr⟩ := List.any_eq_true.1 ha
      exact (dies_end hg x).2 (joinB_iff.1 hr).2.1
    · cases hs)
  have := dies_le hg
  rw [List.length_map] at *
  omega
theorem numAt_nil (R : Die → Die → Bool) : NumAt R [] [] := fun _ => rfl
/-- A new component: what its dies are called. -/
theorem NumAt.new {g : Graph} (hg : graphB g = true) {ds : List Die} {mm mm' : List (Die × Int)} {d : Die} {K : List Die} (hd : d ∈ diesG g) (h : NumAt (joinB (edgesG g)) (repsA (joinB (edgesG g)) ds) mm)
    (hno : (repsA (joinB (edgesG g)) ds).any (fun r => joinB (edgesG g) r d) = false) (hK : ∀ x, x ∈ K ↔ Con (edgesG g) d x) (hmm : ∀ x, lookM mm' x = if x ∈ K then some ((repsA (joinB (edgesG g)) ds).length : Int) else lookM mm x) :
    NumAt (joinB (edgesG g)) (repsA (joinB (edgesG g)) (ds ++ [d])) mm' := fun x => by
  have hE := (dies_end hg d).1 hd
  have hR : ∀ x, joinB (edgesG g) d x = true ↔ x ∈ K := fun x => by
    rw [hK, joinB_iff]
    constructor
    · exact fun h => h.2.2
    · intro hc
      refine ⟨hE, ?_, hc⟩
      by_cases e : d = x
      · rw [← e]; exact hE
      · exact (con_end hc e).2
  rw [repsA_new hno, hmm x]
  by_cases hx : x ∈ K
  · have hdx := (hR x).2 hx
    have hnx : (repsA (joinB (edgesG g)) ds).any (fun r => joinB (edgesG g) r x) = false := by
      rw [← Bool.not_eq_true]
      intro ha
      obtain ⟨r, h1, h2⟩ := List.any_eq_true.1 ha
      have hs := rel_join (E := edgesG g) (ds := []) (fun d hd => by cases hd)
      have := hs.trans _ _ _ h2 (hs.symm _ _ hdx)
      rw [← Bool.not_eq_true] at hno
      exact hno (List.any_eq_true.2 ⟨r, h1, this⟩)
    rw [if_pos hx, if_pos (by rw [List.any_append]; simp [hdx])]
    congr 1
    rw [partI, findIdx_new hnx hdx]
  · have hdx : joinB (edgesG g) d x = false := by
      rw [← Bool.not_eq_true]; exact fun h => hx ((hR x).1 h)
    rw [if_neg hx, h x]
    cases ha : (repsA (joinB (edgesG g)) ds).any (fun r => joinB (edgesG g) r x)
    · rw [if_neg (by simp), if_neg (by rw [List.any_append, ha]; simp [hdx])]
    · rw [if_pos rfl, if_pos (by rw [List.any_append, ha]; rfl)]
      congr 1
      rw [partI, partI, findIdx_pre (List.prefix_append _ _) ha]
theorem partsA_snoc {R : Die → Die → Bool} {ds : List Die} {k : Nat} {d : Die} (hd : ds[k]? = some d) : (partsA R ds).take (k + 1) = (partsA R ds).take k ++ [((partI R (repsA R ds) d : Nat) : Int)] := by
  refine take_snoc' ?_
  rw [partsA, List.getElem?_map, hd]; rfl
theorem part_pre {R : Die → Die → Bool} {ds : List Die} {k : Nat} {d : Die} (h : (repsA R (ds.take k)).any (fun r => R r d) = true) : partI R (repsA R ds) d = partI R (repsA R (ds.take k)) d :=
  findIdx_pre (repsA_take ds k) h

end Go.Proofs.YtikfffojeakjoaaGreatDoor
/- component.Chains, Loops. Condition: the graph in its memory. -/
namespace Go.Proofs.YtikfffojeakjoaaGreatDoor
open Go.RowKit Go.Maps

/-! ### Chains, plain -/
section
variable {α : Type} {R : α → α → Bool} {ds : List α}
def chainsP (R : α → α → Bool) (ds : List α) (j : Nat) : List (List α) := (List.range (repsA R (ds.take j)).length).map fun k => (ds.take j).filter fun d => decide (partI R (repsA R ds) d = k)
theorem chainsP_len (j : Nat) : (chainsP R ds j).length = (repsA R (ds.take j)).length := by simp [chainsP]
theorem chainsP_all : chainsP R ds ds.length = chainsA R ds := by rw [chainsP, chainsA, List.take_length]
theorem chainsP_get {j k : Nat} (h : k < (repsA R (ds.take j)).length) : (chainsP R ds j)[k]? = some ((ds.take j).filter fun d => decide (partI R (repsA R ds) d = k)) := by
  rw [chainsP, List.getElem?_map, List.getElem?_range h]; rfl
theorem chainsP_row_len {j k : Nat} {r : List α} (h : (chainsP R ds j)[k]? = some r) : r.length ≤ j := by
  have hk := lt_of_get h
  rw [chainsP_len] at hk
  rw [chainsP_get hk] at h
  cases h
  refine Nat.le_trans (List.length_filter_le _ _) ?_
  rw [List.length_take]; omega
theorem part_old {j : Nat} {d : α} (ha : (repsA R (ds.take j)).any (fun r => R r d) = true) : partI R (repsA R ds) d < (repsA R (ds.take j)).length := by
  rw [show partI R (repsA R ds) d = partI R (repsA R (ds.take j)) d from findIdx_pre (repsA_take ds j) ha]
  exact part_lt ha
theorem part_new {j : Nat} {d : α} (hd : ds[j]? = some d) (hr : R d d = true) (ha : (repsA R (ds.take j)).any (fun r => R r d) = false) : partI R (repsA R ds) d = (repsA R (ds.take j)).length := by
  have h1 : (repsA R (ds.take (j + 1))).any (fun r => R r d) = true := by rw [take_snoc' hd, repsA_new ha, List.any_append]; simp [hr]
  rw [show partI R (repsA R ds) d = partI R (repsA R (ds.take (j + 1))) d from findIdx_pre (repsA_take ds (j + 1)) h1, take_snoc' hd, repsA_new ha, partI, findIdx_new ha hr]
theorem chainsP_old {j : Nat} {d : α} {r : List α} (hd : ds[j]? = some d) (ha : (repsA R (ds.take j)).any (fun r => R r d) = true) (hrow : (chainsP R ds j)[partI R (repsA R ds) d]? = some r) :
    chainsP R ds (j + 1) = (chainsP R ds j).set (partI R (repsA R ds) d) (r ++ [d]) := by
  have hp := part_old ha
  have hl : (repsA R (ds.take (j + 1))).length = (repsA R (ds.take j)).length := by rw [take_snoc' hd, repsA_old ha]
  rw [chainsP_get hp] at hrow
  cases hrow
  refine List.ext_getElem? fun i => ?_
  by_cases hi : i < (repsA R (ds.take j)).length
  · rw [chainsP_get (by omega), take_snoc' hd, List.filter_append, List.getElem?_set]
    by_cases e : partI R (repsA R ds) d = i
    · subst e
      rw [if_pos rfl, if_pos (by rw [chainsP_len]; exact hp)]
      simp
    · rw [if_neg e, chainsP_get hi]
      simp [e]
  · rw [List.getElem?_eq_none (by rw [chainsP_len]; omega), List.getElem?_eq_none (by rw [List.length_set, chainsP_len]; omega)]
theorem chainsP_new (hrel : Rel R ds) {j : Nat} {d : α} (hd : ds[j]? = some d) (hr : R d d = true) (ha : (repsA R (ds.take j)).any (fun r => R r d) = false) :
    chainsP R ds (j + 1) = (chainsP R ds j ++ [[]]).set (partI R (repsA R ds) d) ([] ++ [d]) := by
  have hp := part_new hd hr ha
  have hl : (repsA R (ds.take (j + 1))).length = (repsA R (ds.take j)).length + 1 := by rw [take_snoc' hd, repsA_new ha]; simp
  refine List.ext_getElem? fun i => ?_
  by_cases hi : i < (repsA R (ds.take j)).length + 1
  · rw [chainsP_get (by omega), take_snoc' hd, List.filter_append, List.getElem?_set]
    by_cases e : partI R (repsA R ds) d = i
    · rw [if_pos e, if_pos (by rw [List.length_append, chainsP_len]; simp; omega)]
      have hno : (ds.take j).filter (fun x => decide (partI R (repsA R ds) x = i)) = [] := by
        rw [List.filter_eq_nil_iff]
        intro x hx
        have h2 := part_old (ds := ds) (d := x) (reps_any (hrel.take j) x hx)
        simp only [decide_eq_true_eq]
        omega
      rw [hno]
      simp [e]
    · rw [if_neg e, List.getElem?_append_left (by rw [chainsP_len]; omega), chainsP_get (by omega)]
      simp [e]
  · rw [List.getElem?_eq_none (by rw [chainsP_len]; omega), List.getElem?_eq_none (by rw [List.length_set, List.length_append, chainsP_len]; simp; omega)]
end

/-! ### A slice of slices of dies that grow -/
structure Hdr where
  a : Option Addr
  n : Nat
  c : Nat
abbrev Hdr.v (h : Hdr) : Value := .slice h.a h.n h.c
def encH (h : Hdr) : List Value := [h.v]
theorem lenH (h : Hdr) : (encH h).length = 1 := rfl
theorem oneH (h : Hdr) : ∀ u ∈ encH h, u.oneCell' = true := by simp [encH, Value.oneCell']
theorem infoC : (Tryz.prog.info? 110).map (fun i => (i.zero, i.size, i.bytes)) = some (some (.slice none 0 0), 1, 24) := by kernel_rfl
abbrev OwnH (B : Nat) (w : World) (u : Value) (hs : List Hdr) : Prop := Own encH 1 110 B w u hs
structure ChSt (B : Nat) (w : World) (u : Value) (hs : List Hdr) (R : List (List Die)) : Prop where
  own : OwnH B w u hs
  len : hs.length = R.length
  row : ∀ (i : Nat) (h : Hdr) (r : List Die), hs[i]? = some h → R[i]? = some r → OwnD B w h.v r
  apart : ∀ (i j : Nat) (h k : Hdr), hs[i]? = some h → hs[j]? = some k → i ≠ j → Apart h.v k.v
section
variable {B : Nat} {w w' : World} {u : Value} {hs : List Hdr} {R : List (List Die)}
theorem row_ne {x : Value} {r : List Die} (h : OwnD B w x r) (ho : OwnH B w u hs) : x.ownBlock = none ∨ x.ownBlock ≠ u.ownBlock := by
  rcases h.2 with ⟨rfl, _⟩ | ⟨g, cap, cur, rfl, _, hg, _⟩
  · exact .inl rfl
  · exact .inr (own_block ho hg (by decide))
theorem ne_row {x : Value} {r : List Die} (h : OwnD B w x r) (ho : OwnH B w u hs) : u.ownBlock = none ∨ u.ownBlock ≠ x.ownBlock := by
  rcases row_ne h ho with e | e
  · rw [e]; cases u.ownBlock <;> simp
  · exact .inr fun e2 => e e2.symm
theorem chSt_nil (B : Nat) (w : World) : ChSt B w (.slice none 0 0) [] [] := ⟨own_nil _ _ _ _ _, rfl, fun i h r hh => by simp at hh, fun i j h k hh => by simp at hh⟩
theorem ChSt.below (h : ChSt B w u hs R) (hb : Below w.heap.size w w') : ChSt B w' u hs R := ⟨h.own.below hb, h.len, fun i x r h1 h2 => (h.row i x r h1 h2).below hb, h.apart⟩
theorem ChSt.push {v' : Value} (h : ChSt B w u hs R) (hown : OwnH B w' v' (hs ++ [⟨none, 0, 0⟩])) (hg : w.grownBy w' u.ownBlock) : ChSt B w' v' (hs ++ [⟨none, 0, 0⟩]) (R ++ [[]]) := by
  refine ⟨hown, by simp [h.len], fun i x r h1 h2 => ?_, fun i j x k h1 h2 hij => ?_⟩
  · rcases Nat.lt_or_ge i hs.length with hi | hi
    · rw [List.getElem?_append_left hi] at h1
      rw [List.getElem?_append_left (by rw [← h.len]; exact hi)] at h2
      have := h.row i x r h1 h2
      exact this.kept hg (row_ne this h.own)
    · have hl := lt_of_get h1
      simp at hl
      obtain rfl : i = hs.length := by omega
      rw [List.getElem?_append_right (Nat.le_refl _)] at h1
      rw [h.len, List.getElem?_append_right (Nat.le_refl _)] at h2
      simp at h1 h2
      subst h1; subst h2
      exact own_nil _ _ _ _ _
  · rcases Nat.lt_or_ge i hs.length with hi | hi
    · rw [List.getElem?_append_left hi] at h1
      rcases Nat.lt_or_ge j hs.length with hj | hj
      · rw [List.getElem?_append_left hj] at h2
        exact h.apart i j x k h1 h2 hij
      · have hl := lt_of_get h2
        simp at hl
        obtain rfl : j = hs.length := by omega
        rw [List.getElem?_append_right (Nat.le_refl _)] at h2
        simp at h2
        subst h2
        unfold Apart
        cases x.v.ownBlock <;> simp [Value.ownBlock]
    · have hl := lt_of_get h1
      simp at hl
      obtain rfl : i = hs.length := by omega
      rw [List.getElem?_append_right (Nat.le_refl _)] at h1
      simp at h1
      subst h1
      exact .inl rfl
theorem own_hdr {x : Value} {r : List Die} (h : OwnD B w x r) : ∃ k : Hdr, x = k.v := by
  rcases h.cases with ⟨rfl, rfl⟩ | ⟨g, cap, rfl, _⟩
  · exact ⟨⟨none, 0, 0⟩, rfl⟩
  · exact ⟨⟨_, _, _⟩, rfl⟩
theorem ChSt.put {gu n cap k : Nat} {h0 h1 : Hdr} {r0 r1 : List Die} (h : ChSt B w (.slice (some ⟨gu, 0, none⟩) n cap) hs R) (hn : n = hs.length) (hk : hs[k]? = some h0) (hr : R[k]? = some r0)
    (ho : OwnD B w' h1.v r1) (hg : w.grownBy w' h0.v.ownBlock) (hat : h1.v.ownBlock = h0.v.ownBlock ∨ h1.v.ownBlock = some w.heap.size) :
    ChSt B (w'.setCell ⟨gu, k, none⟩ h1.v) (.slice (some ⟨gu, 0, none⟩) n cap) (hs.set k h1) (R.set k r1) := by
  have hrow0 := h.row k h0 r0 hk hr
  have hu : OwnH B w' (.slice (some ⟨gu, 0, none⟩) n cap) hs := h.own.kept hg (ne_row hrow0 h.own)
  have hkl := lt_of_get hk
  have hset := setCells_grown gu (encH h1) w' (k * 1)
  have hput := hu.put lenH (by omega) hn (show k < n by omega) h1
  rw [show w'.setCell ⟨gu, k, none⟩ h1.v = w'.setCells gu (k * 1) (encH h1) by rw [Nat.mul_one]; rfl]
  have hlt : ∀ (i : Nat) (x : Hdr), hs[i]? = some x → ∀ g, x.v.ownBlock = some g → g < w.heap.size := fun i x hx g e => by
    obtain ⟨r, hr⟩ := get_of_lt (show i < R.length by rw [← h.len]; exact lt_of_get hx)
    exact ((h.row i x r hx hr).lt g e).2
  refine ⟨hput, by simp [h.len], fun i x r q1 q2 => ?_, fun i j x y q1 q2 hij => ?_⟩
  · by_cases e : k = i
    · subst e
      rw [List.getElem?_set_self hkl] at q1
      rw [List.getElem?_set_self (by rw [← h.len]; exact hkl)] at q2
      cases q1; cases q2
      exact ho.kept hset (row_ne ho hu)
    · rw [List.getElem?_set_ne e] at q1
      rw [List.getElem?_set_ne e] at q2
      have h3 := h.row i x r q1 q2
      have h4 := h3.kept hg (h.apart i k x h0 q1 hk (fun e2 => e e2.symm))
      exact h4.kept hset (row_ne h4 hu)
  · by_cases e : k = i
    · subst e
      rw [List.getElem?_set_self hkl] at q1
      cases q1
      rw [List.getElem?_set_ne hij] at q2
      exact (h.apart k j h0 y hk q2 hij).append hat (hlt j y q2)
    · rw [List.getElem?_set_ne e] at q1
      by_cases e2 : k = j
      · subst e2
        rw [List.getElem?_set_self hkl] at q2
        cases q2
        exact (h.apart i k x h0 q1 hk hij).append' hat (hlt i x q1)
      · rw [List.getElem?_set_ne e2] at q2
        exact h.apart i j x y q1 q2 hij
end
theorem ChSt.base {B B' : Nat} {w : World} {u : Value} {hs : List Hdr} {R : List (List Die)} (h : ChSt B w u hs R) (hB : B' ≤ B) : ChSt B' w u hs R := ⟨h.own.base hB, h.len, fun i x r h1 h2 => (h.row i x r h1 h2).base hB, h.apart⟩
theorem ChSt.len_le {B : Nat} {w : World} {u : Value} {hs : List Hdr} {R : List (List Die)} (h : ChSt B w u hs R) : ∃ A c, u = .slice A R.length c := by
  obtain ⟨A, c, e, _⟩ := h.own.slOf
  exact ⟨A, c, by rw [e, h.len]⟩
noncomputable def chainsG (g : Graph) : List (List Die) := chainsA (joinB (edgesG g)) (diesG g)
noncomputable def loopsG (g : Graph) : Int := if graphB g = true then (g.links.length : Int) - g.obv.length - g.rev.length + (chainsG g).length else 0
theorem chainsG_len (g : Graph) : (chainsG g).length = (repsA (joinB (edgesG g)) (diesG g)).length := by rw [chainsG, ← chainsP_all, chainsP_len, List.take_length]
end Go.Proofs.YtikfffojeakjoaaGreatDoor
