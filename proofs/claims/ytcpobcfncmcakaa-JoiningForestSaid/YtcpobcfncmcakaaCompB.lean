/- component.steps. Condition: the graph is valid, the die's numbers are numbers. -/
import Derived.Test.YtcpobcfncmcakaaCompA
import Derived.Test.YtcpobcfncmcakaaGroB
namespace Go.Proofs.Ytcpobcfncmcakaa
open Go.RowKit Go.Maps

/-- The links of a graph have numbers of dies. -/
def LinkWf (g : Graph) : Prop := ∀ x ∈ g.links, wfD (lA x) ∧ wfD (lB x)
theorem mem_snoc2 {β : Type} {l : List β} {k : Nat} {x : β} {P : β → Prop} (hx : l[k]? = some x) (h : ∀ y ∈ l.take k, P y) (hp : P x) : ∀ y ∈ l.take (k + 1), P y := fun y hy => by
  rw [take_snoc' hx] at hy
  rcases List.mem_append.1 hy with hy | hy
  · exact h y hy
  · rw [List.mem_singleton] at hy; subst hy; exact hp
def mapSz (w : World) (b : Nat) : Nat := match w.heap[b]? with | some (.map es _) => es.size | _ => 0
theorem mapSz_of {w : World} {b : Nat} {m : List (Die × Int)} (h : MapD w b m) : mapSz w b = m.length := by
  obtain ⟨⟨D, ⟨es, clock, hb, _, _, rfl⟩, _, hs, _⟩, _, _⟩ := h
  simp only [Maps.size, length_sorted] at hs
  simp only [mapSz, hb]
  simpa using hs
def qLen (v : Value) : Nat := match v with | .slice _ n _ => n | _ => 0
theorem acrD_wf {g : Graph} (h : LinkWf g) {x : Link} (hx : x ∈ g.links) (d : Die) : wfD (acrD x d) := by
  have := h x hx
  unfold acrD acrO
  split
  · exact this.2
  · split
    · exact this.1
    · exact ⟨wfN (n := 0) (by omega), wfN (n := 0) (by omega)⟩
set_option maxHeartbeats 8000000 in
set_option maxRecDepth 100000 in
theorem steps_ok (g : Graph) (hgl : LinkWf g) (hlen : g.links.length ≤ 64) (s : Die) (hs : wfD s) (v : Value) (w : World) (h : GraphAt w v g) :
    Calls Try.prog 58 #[v, vlD s] w fun e w' => ∃ b m, e = .returned (.map (some b)) ∧ MapD w' b m ∧ (∀ d, d ∈ m.map Prod.fst ↔ Con (edgesG g) s d) ∧ w.heap.size ≤ b ∧ Below w.heap.size w w' ∧ m.length ≤ 200 := by
  have hmm := @run_makeMap Try.prog
  have h0 := h
  obtain ⟨v1, v2, v3, rfl, ho, hr, hk⟩ := h
  obtain ⟨A1, c1, rfl, _, _, _⟩ := ho.cells
  obtain ⟨A2, c2, rfl, _, _, _⟩ := hr.cells
  obtain ⟨A3, c3, rfl, _, _, hck⟩ := hk.cells
  obtain ⟨W0, hW0, Hz0, hb0, hlt0, hc0⟩ := boxed w #[.slice A1 g.obv.length c1, .slice A2 g.rev.length c2, .slice A3 g.links.length c3] 49
  obtain ⟨W1, hW1, Hz1, hb1, hlt1, hc1⟩ := boxed W0 #[.int .i64 s.side, .int .i64 s.num] 40
  have a2 := cell_later hb1 (hc0 2 _ rfl)
  have b0 := hc1 0 _ rfl; have b1 := hc1 1 _ rfl
  have hw1 := below_trans hb0 hb1
  obtain ⟨M1, hM1⟩ : ∃ W, W1.alloc (.map #[] 0) = W := ⟨_, rfl⟩
  have hbM : Below W1.heap.size W1 M1 := by rw [← hM1]; exact (Below.refl _ _).alloc (Nat.le_refl _) _
  have hm1 : MapD M1 W1.heap.size [] := by rw [← hM1]; exact mapD_made W1
  obtain ⟨M2, hu, hm2, hg2⟩ := hm1.put (y := 0) hs (wfN (n := 0) (by omega)) (by simp [maxLen])
  have hm2' : MapD M2 W1.heap.size [(s, 0)] := hm2
  have b0' := cell_later hbM b0; have b1' := cell_later hbM b1
  have hne1 : some W0.heap.size ≠ some W1.heap.size := fun e => by have := Option.some.inj e; omega
  have hb2' : W0.heap.size < M1.heap.size := by have := hbM.size; omega
  have c0 : M2.cell? ⟨W0.heap.size, 0, none⟩ = some (.int .i64 s.side) := (World.cell?_of_block (hg2.block _ hb2' hne1)).trans b0'
  have c1 : M2.cell? ⟨W0.heap.size, 1, none⟩ = some (.int .i64 s.num) := (World.cell?_of_block (hg2.block _ hb2' hne1)).trans b1'
  have hwM : Below w.heap.size w M2 := (below_trans hw1 hbM).grown hg2 (below_trans hw1 hbM).size (fun j e => by cases e; exact hw1.size)
  have hMz : W1.heap.size < M2.heap.size := by have := hg2.size; have := hbM.size; have : M1.heap.size = W1.heap.size + 1 := by rw [← hM1]; simp
                                               omega
  have a2' : M2.cell? ⟨w.heap.size, 2, none⟩ = some (.slice A3 g.links.length c3) := (World.cell?_of_block (hg2.block _ (show w.heap.size < M1.heap.size by have := hbM.size; omega) (fun e => by have h9 : w.heap.size = W1.heap.size := Option.some.inj e; omega))).trans (cell_later hbM a2)
  obtain ⟨W2, hW2, Hz2, hb2, hlt2, _⟩ := boxed M2 #[.int .i64 s.side, .int .i64 s.num] 40
  have hkq : W2.heap[M2.heap.size]? = some (.cells (encD s).toArray 40 (0, 0)) := by rw [← hW2]; exact heap_alloc_new _ _
  have hq0 : QuD M2.heap.size W2 (.slice (some ⟨M2.heap.size, 0, none⟩) 1 1) [s] := Own.qu (own_one (lenD s) hkq (Nat.le_refl _))
  have hm3 := hm2'.below hb2
  have hT0 : Touch M2 W2 [W1.heap.size] := touch_below hb2 _
  obtain ⟨iD, hiD, hzD, hkD, hbD⟩ := info_parts infoD
  have hwz := hw1.size
  clear hc0 hc1 ho hr hk hm2 hm2' hkq b0 b1 hb2' a2
  go_enter Try.func58, Try.ntmps58
  go_wp2_with fail
  clear hmm hu hM1 hW2 hW1 hW0 b0' b1' c0 c1 hb2
  go_loopw [6] (fun q wr => ∃ (m : List (Die × Int)) (Q : List Die), Hid (Bfs g s m Q) ∧ MapD wr W1.heap.size m ∧ QuD M2.heap.size wr q Q ∧ Touch M2 wr [W1.heap.size] ∧ Hid (Q.length ≤ m.length)) (fun q wr => (130 - mapSz wr W1.heap.size) + qLen q)
  case atStart => exact ⟨[(s, 0)], [s], Lib.hid (bfs_start g s), hm3, hq0, hT0, Lib.hid (Nat.le_refl _)⟩
  case round =>
    clear hm3 hq0 hT0
    obtain ⟨m, Q, HB, hm, hq, hT, HQ⟩ := hrel
    have hwr : Below w.heap.size w wr := (touch_below hwM [W1.heap.size]).trans hT |>.below (by simp; omega) (Nat.le_refl _)
    have hml := HB.out.len
    have hMr := hT.size
    cases Q with
    | nil =>
      obtain ⟨Aq, cq, rfl⟩ := hq.nil
      have HD := Lib.hid HB.out.done
      clear hq hck
      go_wp2_with fail
      go_ret
      exact ⟨_, m, rfl, hm, HD.out, by omega, hwr, by omega⟩
    | cons d Q =>
      obtain ⟨gq, off, cap, rfl, hcm, hlc, hgq, hBg, hcells, _⟩ := hq.head lenD
      have q0 : wr.cell? ⟨gq, off, none⟩ = some (.int .i64 d.side) := hcells 0 _ rfl
      have q1 : wr.cell? ⟨gq, off + 1, none⟩ = some (.int .i64 d.num) := hcells 1 _ rfl
      have hlQ : Q.length + 1 ≤ 129 := by have := HQ.out; simp only [List.length_cons] at this; omega
      have hcap : (cap : Int) + 1 ≤ 9223372036854775807 := by simp only [maxLen] at hcm; omega
      obtain ⟨V1, V2, hV1, hV2, HzV2, hkV1, hkV2, hbV2, hltV2⟩ := fresh wr [.int .i64 0, .int .i64 0] [.int .i64 (d).side, .int .i64 (d).num] 40 rfl
      have hsV2 : (V1.setCell ⟨wr.heap.size, 0, none⟩ (.int .i64 (d).side)).setCell ⟨wr.heap.size, 1, none⟩ (.int .i64 (d).num) = V2 := hV2
      clear hV2
      obtain ⟨⟨z0, z1⟩, f0, f1⟩ := cells2 hkV1
      obtain ⟨⟨s0, s1⟩, _⟩ := cells2 hkV2
      clear hkV1
      have a2 := cell_later hbV2 (cell_off hT (by simp; omega) a2')
      have hm2 := hm.below hbV2; have hq2 := hq.below hbV2
      have HT := Lib.hid (hT.trans (touch_below hbV2 [W1.heap.size]))
      have Hsz := Lib.hid (mapSz_of hm)
      have hdk := HB.out.que d (by simp)
      have Hdk := Lib.hid hdk
      have hwd := (hm.good _ (List.mem_map.1 hdk).choose_spec.1).1
      rw [(List.mem_map.1 hdk).choose_spec.2] at hwd
      clear hq hm hT hcells hdk
      go_wp2_with fail
      clear q0 q1 z0 z1 f0 f1 hsV2 hV1
      obtain ⟨wo, hwo⟩ : ∃ z, z = wr := ⟨_, rfl⟩
      subst hwo
      go_loopw [6, 30] (fun q i wr => ∃ (j : Nat) (m' : List (Die × Int)) (Q' : List Die), j ≤ g.links.length ∧ i = .int .i64 j ∧ Hid (Bfs g s m' (d :: Q')) ∧ Hid (∀ x ∈ g.links.take j, ∀ e, acrO x d = some e → e ∈ m'.map Prod.fst) ∧ MapD wr W1.heap.size m' ∧ QuD M2.heap.size wr q (d :: Q') ∧ Touch M2 wr [W1.heap.size] ∧ (wr.cell? ⟨wo.heap.size, 0, none⟩ = some (.int .i64 d.side) ∧ wr.cell? ⟨wo.heap.size, 1, none⟩ = some (.int .i64 d.num)) ∧ Hid (q.ownBlock ≠ some wo.heap.size) ∧ Hid (m'.length + Q.length = m.length + Q'.length) ∧ Hid (Q'.length + 1 ≤ m'.length) ∧ V2.heap.size ≤ wr.heap.size) (fun _ i _ => g.links.length - (intOf i).toNat)
      case atStart => exact ⟨0, m, Q, Nat.zero_le _, rfl, HB, Lib.hid (fun x hx => by simp at hx), hm2, hq2, HT.out, ⟨s0, s1⟩, Lib.hid (by simp [Value.ownBlock]; omega), Lib.hid rfl, HQ, Nat.le_refl _⟩
      case round =>
        obtain ⟨j, m', Q', hj, rfl, HB', Hdone, hm', hq', hT', ⟨t0, t1⟩, Hne, Heq, HQ', hzz⟩ := hrel
        have hwr : Below w.heap.size w wr := (touch_below hwM [W1.heap.size]).trans hT' |>.below (by simp; omega) (Nat.le_refl _)
        have hml' := HB'.out.len
        by_cases hlt : j < g.links.length
        · obtain ⟨bo, o, rfl, _, hcb⟩ := hck j hlt
          obtain ⟨x, hx⟩ := get_of_lt hlt
          obtain ⟨y0, y1, y2⟩ := hcb wr hwr j x hx
          have hxm := List.mem_of_getElem? hx
          have Hx := Lib.hid hx
          obtain ⟨L1, L2, hL1, hL2, HzL2, hkL1, hkL2, hbL2, hltL2⟩ := fresh wr [.int .i64 0, .int .i64 0, .int .i64 0] [.int .i64 (x).id, .int .i64 (x).obv, .int .i64 (x).rev] 79 rfl
          have hsL2 : ((L1.setCell ⟨wr.heap.size, 0, none⟩ (.int .i64 (x).id)).setCell ⟨wr.heap.size, 1, none⟩ (.int .i64 (x).obv)).setCell ⟨wr.heap.size, 2, none⟩ (.int .i64 (x).rev) = L2 := hL2
          clear hL2
          obtain ⟨⟨z0a, z1a, z2a⟩, f0a, f1a, f2a⟩ := cells3 hkL1
          obtain ⟨⟨s0a, s1a, s2a⟩, _⟩ := cells3 hkL2
          clear hkL1
          have t0 := cell_later hbL2 t0; have t1 := cell_later hbL2 t1
          have hac := across_ok x d
          have hwy := acrD_wf hgl hxm d
          have hmL := hm'.below hbL2; have hqL := hq'.below hbL2
          have HTL := Lib.hid (hT'.trans (touch_below hbL2 [W1.heap.size]))
          have hwrz : wo.heap.size < wr.heap.size := by omega
          clear hcb hx hm' hq' hck hm2 hq2
          cases ha : acrO x d with
          | none =>
            rw [acrD, ha] at hac hwy
            have Hac := Lib.hid hac; clear hac
            have Hdone' : Hid (∀ x ∈ g.links.take (j + 1), ∀ e, acrO x d = some e → e ∈ m'.map Prod.fst) := Lib.hid (mem_snoc2 (P := fun x => ∀ e, acrO x d = some e → e ∈ m'.map Prod.fst) Hx.out (fun z hz => Hdone.out z hz) (fun e he => by rw [ha] at he; cases he))
            clear ha Hdone
            go_wp2_with fail
            refine (Hac.out _).mono ?_
            rintro e w5 ⟨rfl, hb5⟩
            have t0 := cell_later hb5 t0; have t1 := cell_later hb5 t1
            obtain ⟨N1, N2, hN1, hN2, HzN2, hkN1, hkN2, hbN2, hltN2⟩ := fresh w5 [.int .i64 0, .int .i64 0] [.int .i64 ((⟨0, 0⟩ : Die)).side, .int .i64 ((⟨0, 0⟩ : Die)).num] 40 rfl
            have hsN2 : (N1.setCell ⟨w5.heap.size, 0, none⟩ (.int .i64 ((⟨0, 0⟩ : Die)).side)).setCell ⟨w5.heap.size, 1, none⟩ (.int .i64 ((⟨0, 0⟩ : Die)).num) = N2 := hN2
            clear hN2
            obtain ⟨⟨z0b, z1b⟩, f0b, f1b⟩ := cells2 hkN1
            obtain ⟨⟨s0b, s1b⟩, _⟩ := cells2 hkN2
            clear hkN1
            have hb6 := below_trans hb5 hbN2
            have t0 := cell_later hbN2 t0; have t1 := cell_later hbN2 t1
            have hm6 := hmL.below hb6; have hq6 := hqL.below hb6
            have k1 := hm6.look_ok (x := ⟨0, 0⟩) hwy
            dsimp only at k1
            have HT6 := Lib.hid (HTL.out.trans (touch_below hb6 [W1.heap.size]))
            have hz6 := hb6.size
            generalize (lookM m' ⟨0, 0⟩).isSome = K at k1
            generalize (lookM m' ⟨0, 0⟩).getD 0 = K2 at k1
            go_wp2_with fail
            refine ⟨?rel, ?measure⟩
            case rel => exact ⟨j + 1, m', Q', by omega, by go_num, HB', Hdone', hm6, hq6, HT6.out, ⟨t0, t1⟩, Hne, Heq, HQ', by omega⟩
            case measure => first | (simp [intOf]; done) | (simp [intOf]; omega)
          | some y =>
            rw [acrD, ha] at hac hwy
            have Hac := Lib.hid hac; clear hac
            have Ha := Lib.hid ha
            have hwy : wfD y := hwy
            clear ha
            go_wp2_with fail
            refine (Hac.out _).mono ?_
            rintro e w5 ⟨rfl, hb5⟩
            have t0 := cell_later hb5 t0; have t1 := cell_later hb5 t1
            obtain ⟨N1, N2, hN1, hN2, HzN2, hkN1, hkN2, hbN2, hltN2⟩ := fresh w5 [.int .i64 0, .int .i64 0] [.int .i64 (y).side, .int .i64 (y).num] 40 rfl
            have hsN2 : (N1.setCell ⟨w5.heap.size, 0, none⟩ (.int .i64 (y).side)).setCell ⟨w5.heap.size, 1, none⟩ (.int .i64 (y).num) = N2 := hN2
            clear hN2
            obtain ⟨⟨z0b, z1b⟩, f0b, f1b⟩ := cells2 hkN1
            obtain ⟨⟨s0b, s1b⟩, _⟩ := cells2 hkN2
            clear hkN1
            have hb6 := below_trans hb5 hbN2
            have t0 := cell_later hbN2 t0; have t1 := cell_later hbN2 t1
            have hm6 := hmL.below hb6; have hq6 := hqL.below hb6
            have k1 := hm6.look_ok hwy
            have HT6 := Lib.hid (HTL.out.trans (touch_below hb6 [W1.heap.size]))
            have hz6 := hb6.size
            cases hl : lookM m' y with
            | some n =>
              rw [hl] at k1
              dsimp only [Option.getD, Option.isSome] at k1
              have Hdone' : Hid (∀ x ∈ g.links.take (j + 1), ∀ e, acrO x d = some e → e ∈ m'.map Prod.fst) := Lib.hid (mem_snoc2 (P := fun x => ∀ e, acrO x d = some e → e ∈ m'.map Prod.fst) Hx.out (fun z hz => Hdone.out z hz) (fun e he => by rw [Ha.out] at he; cases he; exact List.mem_map.2 ⟨_, lookM_some hl, rfl⟩))
              clear hl Hdone
              go_wp2_with fail
              refine ⟨?rel, ?measure⟩
              case rel => exact ⟨j + 1, m', Q', by omega, by go_num, HB', Hdone', hm6, hq6, HT6.out, ⟨t0, t1⟩, Hne, Heq, HQ', by omega⟩
              case measure => first | (simp [intOf]; done) | (simp [intOf]; omega)
            | none =>
              rw [hl] at k1
              dsimp only [Option.getD, Option.isSome] at k1
              have hny : y ∉ m'.map Prod.fst := lookM_none.1 hl
              obtain ⟨n, hn⟩ := Option.isSome_iff_exists.1 (look_mem.2 (HB'.out.que d (by simp)))
              have hnr := HB'.out.rng _ (lookM_some hn)
              simp only at hnr
              have HBadd := Lib.hid (HB'.out.add (HB'.out.que d (by simp)) hxm Ha.out hny (n := n + 1) (by omega))
              have Hpa := Lib.hid (putM_add (n := n + 1) hny)
              have Hdone' : Hid (∀ x ∈ g.links.take (j + 1), ∀ e, acrO x d = some e → e ∈ (m' ++ [(y, n + 1)]).map Prod.fst) := Lib.hid (mem_snoc2 (P := fun x => ∀ e, acrO x d = some e → e ∈ (m' ++ [(y, n + 1)]).map Prod.fst) Hx.out (fun z hz e he => by rw [List.map_append]; exact List.mem_append_left _ (Hdone.out z hz e he)) (fun e he => by rw [Ha.out] at he; cases he; simp))
              have hwn : wfI (n + 1) := by
                have e : n + 1 = ((n.toNat + 1 : Nat) : Int) := by omega
                rw [e]; exact wfN (by omega)
              have Hn := Lib.hid hn
              have n0 := hnr.1
              have n1 : n ≤ 200 := by omega
              clear hl Hdone hny hn hnr
              go_wp2_with fail
              have hba : Below N2.heap.size N2 N2.drew := (Below.refl _ _).drew
              obtain ⟨wa, hwa⟩ : ∃ W, N2.drew = W := ⟨_, rfl⟩
              rw [hwa] at hba
              have hm7 := hm6.below hba
              have k2 := hm7.look hwd
              rw [Hn.out] at k2
              dsimp only [Option.getD] at k2
              obtain ⟨w8, hu8, hm8, hg8⟩ := hm7.put hwy hwn (by simp only [maxLen]; omega)
              rw [Hpa.out] at hm8
              have u0 := cell_later hba t0; have u1 := cell_later hba t1
              have v0 := cell_later hba s0b; have v1 := cell_later hba s1b
              have hoff : ∀ b, b ≠ W1.heap.size → some b ≠ some W1.heap.size := fun b hb e => hb (Option.some.inj e)
              have hwaz := hba.size
              have n5 : w5.heap.size ≠ W1.heap.size := by have := hb5.size; have := hbL2.size; omega
              have n6 : wo.heap.size ≠ W1.heap.size := by omega
              have x0 : w8.cell? ⟨wo.heap.size, 0, none⟩ = some (.int .i64 d.side) := (World.cell?_of_block (hg8.block wo.heap.size (by omega) (hoff _ n6))).trans u0
              have x1 : w8.cell? ⟨wo.heap.size, 1, none⟩ = some (.int .i64 d.num) := (World.cell?_of_block (hg8.block wo.heap.size (by omega) (hoff _ n6))).trans u1
              have x2 : w8.cell? ⟨w5.heap.size, 0, none⟩ = some (.int .i64 y.side) := (World.cell?_of_block (hg8.block w5.heap.size (by omega) (hoff _ n5))).trans v0
              have x3 : w8.cell? ⟨w5.heap.size, 1, none⟩ = some (.int .i64 y.num) := (World.cell?_of_block (hg8.block w5.heap.size (by omega) (hoff _ n5))).trans v1
              have hq8 := (hq6.below hba).kept hg8 (.inr fun e => by have := (hq6.lt _ e).1; omega)
              have HT8 := Lib.hid ((HT6.out.trans (touch_below hba [W1.heap.size])).trans (grown_touch hg8 (by simp)))
              have hz8 : M2.heap.size ≤ w8.heap.size := HT8.out.size
              have hz8' : V2.heap.size ≤ w8.heap.size := by have := hg8.size; omega
              have hlq8 : Q'.length + 1 ≤ 129 := by have := HQ'.out; omega
              have HX := Lib.hid (⟨x0, x1⟩ : _ ∧ _)
              have hwr1 : IntKind.i64.wrap (n + 1) = n + 1 := IntWalk.i64_in _ (by omega)
              have hHeld : wa = wa := rfl
              refine wp_region_S 6 (fun w' => w' = wa) (by kernel_rfl) (by decide) ?_
              rw [hwa]
              clear hwa t0 t1 s0b s1b hm6 hq6 HT6 hm7 hba hg8 x0 x1
              refine wpAnyS_takeD 0 (some 51) (.map (some W1.heap.size)) (by rfl) (by rfl) (by kernel_rfl) (by exact fun _ _ _ h => h) (by rfl) (fun w' hS => by (subst hS; go_simp)) hHeld ?_
              simp only [Act.put, List.setIfInBounds_toArray, List.set_cons_succ, List.set_cons_zero]
              refine wpAnyS_takeD 1 (some 52) (vlD y) (by rfl) (by rfl) (by kernel_rfl) (by exact fun _ _ _ h => h) (by rfl) (fun w' hS => by (subst hS; go_simp)) hHeld ?_
              simp only [Act.put, List.setIfInBounds_toArray, List.set_cons_succ, List.set_cons_zero]
              refine wpAnyS_takeD 2 (some 53) (.map (some W1.heap.size)) (by rfl) (by rfl) (by kernel_rfl) (by exact fun _ _ _ h => h) (by rfl) (fun w' hS => by (subst hS; go_simp)) hHeld ?_
              simp only [Act.put, List.setIfInBounds_toArray, List.set_cons_succ, List.set_cons_zero]
              refine wpAnyS_takeD 3 (some 54) (vlD d) (by rfl) (by rfl) (by kernel_rfl) (by exact fun _ _ _ h => h) (by rfl) (fun w' hS => by (subst hS; go_simp)) hHeld ?_
              simp only [Act.put, List.setIfInBounds_toArray, List.set_cons_succ, List.set_cons_zero]
              refine wpAnyS_takeD 4 (some 55) (.int .i64 n) (by rfl) (by rfl) (by kernel_rfl) (by exact fun _ _ _ h => h) (by rfl) (fun w' hS => by (subst hS; go_simp)) hHeld ?_
              simp only [Act.put, List.setIfInBounds_toArray, List.set_cons_succ, List.set_cons_zero]
              refine wpAnyS_takeD 5 (some 56) (.int .i64 (n + 1)) (by rfl) (by rfl) (by kernel_rfl) (by exact fun _ _ _ h => h) (by rfl) (fun w' hS => by (subst hS; go_simp)) hHeld ?_
              simp only [Act.put, List.setIfInBounds_toArray, List.set_cons_succ, List.set_cons_zero]
              clear hHeld u0 u1 v0 v1 k2 hwr1
              refine (show tailOf _ _ _ _ _ _ _ _ from ⟨by kernel_rfl, ?_⟩)
              simp only [List.drop_succ_cons, List.drop_zero]
              have hlq9 : (d :: Q').length ≤ 129 := by simp; omega
              go_wp2_with (at_builtin; refine wpList_appendQu rfl (.tmp 57) (.tmp 59) _ rfl iD _ 16 Try.underlying84 hiD hzD hkD hbD rfl (by decide) lenD oneD rfl hq8 y _ rfl _ rfl rfl (by omega) (by omega) hz8 ?_; intro v' wf hqf hgf hat)
              have hnb : ∀ c, c < M2.heap.size → some c ≠ Value.ownBlock _ := fun c hc e => by have := (hq8.lt c e.symm).1; omega
              have hxo : wo.heap.size < w8.heap.size := by omega
              have hc0 := (World.cell?_of_block (a := ⟨wo.heap.size, 0, none⟩) (hgf.block wo.heap.size hxo (fun e => Hne.out e.symm))).trans HX.out.1
              have hc1 := (World.cell?_of_block (a := ⟨wo.heap.size, 1, none⟩) (hgf.block wo.heap.size hxo (fun e => Hne.out e.symm))).trans HX.out.2
              have Hne' : Hid (v'.ownBlock ≠ some wo.heap.size) := Lib.hid (by
                rcases hat with e | e
                · rw [e]; exact Hne.out
                · intro e2; have := e _ e2; omega)
              refine ⟨?rel, ?measure⟩
              case rel => exact ⟨j + 1, m' ++ [(y, n + 1)], Q' ++ [y], by omega, by go_num, HBadd, Hdone', hm8.kept hgf (hnb _ hMz), hqf, HT8.out.trans_own hgf (fun i e => (hq8.lt i e).1), ⟨hc0, hc1⟩, Hne', Lib.hid (by have := Heq.out; simp only [List.length_append, List.length_singleton]; omega), Lib.hid (by have := HQ'.out; simp only [List.length_append, List.length_singleton]; omega), by have := hgf.size; omega⟩
              case measure => first | (simp [intOf]; done) | (simp [intOf]; omega)
        · have e1 : g.links.take j = g.links := List.take_of_length_le (by omega)
          have HBp := Lib.hid (HB'.out.pop (fun x hx e he => Hdone.out x (by rw [e1]; exact hx) e he))
          obtain ⟨gq', off', cap', rfl, hcm', hlc', _, _, _, hcut, hcut0⟩ := hq'.head lenD
          have Hsz' := Lib.hid (mapSz_of hm')
          have hcap' : (cap' : Int) + 1 ≤ 9223372036854775807 := by simp only [maxLen] at hcm'; omega
          have HQp := Lib.hid (show Q'.length ≤ m'.length by have := HQ'.out; omega)
          have hml2 := hml'
          have hmlo := hml
          have HM' := Lib.hid hm'; have HT' := Lib.hid hT'
          clear e1 hq' hm' hT' hck hm2 hq2
          rcases Nat.eq_zero_or_pos cap' with h0 | h0
          · obtain ⟨e0, hQ2⟩ := hcut0 h0
            subst h0; subst e0
            clear hcut hcut0
            have HQ2 := Lib.hid hQ2; clear hQ2
            go_wp2_with fail
            refine ⟨?rel, ?measure⟩
            case rel => exact ⟨m', [], HBp, HM'.out, HQ2.out, HT'.out, HQp⟩
            case measure => rw [Hsz'.out, Hsz.out]; have := Heq.out; simp [qLen] at this ⊢; omega
          · have hQ2 := hcut h0
            clear hcut hcut0
            have HQ2 := Lib.hid hQ2; clear hQ2
            go_wp2_with fail
            refine ⟨?rel, ?measure⟩
            case rel => exact ⟨m', Q', HBp, HM'.out, HQ2.out, HT'.out, HQp⟩
            case measure => rw [Hsz'.out, Hsz.out]; have := Heq.out; simp only [qLen]; omega
end Go.Proofs.Ytcpobcfncmcakaa
