/- component.steps. Condition: the graph is valid, the die's numbers are numbers. -/
import Derived.Test.YthnckicnnhkkaaaGreatQueD
import Derived.Test.YthnckicnnhkkaaaGreatGroA
import Derived.Test.YthnckicnnhkkaaaGreatCovA
import Derived.Test.YthnckicnnhkkaaaGreatGroD
namespace Go.Proofs.YthnckicnnhkkaaaGreat
open Go.RowKit Go.Maps

/-- The links of a graph have numbers of dies. -/
def LinkWf (g : Graph) : Prop := ∀ x ∈ g.links, wfD (lA x) ∧ wfD (lB x)
theorem mem_snoc2 {β : Type} {l : List β} {k : Nat} {x : β} {P : β → Prop} (hx : l[k]? = some x) (h : ∀ y ∈ l.take k, P y) (hp : P x) : ∀ y ∈ l.take (k + 1), P y := fun y hy => by
  rw [take_snoc' hx] at hy
  rcases List.mem_append.1 hy with hy | hy
  · exact h y hy
  · rw [List.mem_singleton] at hy; subst hy; exact hp
def mapSz (w : World) (b : Nat) : Nat := match w.heap[b]? with | some (.map es _) => es.size | _ => 0
theorem mapSz_of {w : World} {b : Nat} {m : List (Die × Int)} (h : MapD w b m) : mapSz w b = m.length := by
  obtain ⟨⟨D, ⟨es, clock, hb, _, _, rfl⟩, _, hs, _⟩, _, _⟩ := h
  simp only [Maps.size, length_sorted] at hs
  simp only [mapSz, hb]
  simpa using hs
def qLen (v : Value) : Nat := match v with | .slice _ n _ => n | _ => 0
theorem acrD_wf {g : Graph} (h : LinkWf g) {x : Link} (hx : x ∈ g.links) (d : Die) : wfD (acrD x d) := by
  have := h x hx
  unfold acrD acrO
  split
  · exact this.2
  · split
    · exact this.1
    · exact ⟨wfN (n := 0) (by omega), wfN (n := 0) (by omega)⟩
set_option maxHeartbeats 8000000 in
set_option maxRecDepth 100000 in
theorem steps_ok (g : Graph) (hgl : LinkWf g) (hlen : g.links.length ≤ 64) (s : Die) (hs : wfD s) (v : Value) (w : World) (h : GraphAt w v g) :
    Calls Tryz.prog 161 #[v, vlD s] w fun e w' => ∃ b m, e = .returned (.map (some b)) ∧ MapD w' b m ∧ (∀ d, d ∈ m.map Prod.fst ↔ Con (edgesG g) s d) ∧ w.heap.size ≤ b ∧ Below w.heap.size w w' ∧ m.length ≤ 200 := by
  have hmm := @run_makeMap Tryz.prog
  have h0 := h
  obtain ⟨v1, v2, v3, rfl, ho, hr, hk⟩ := h
  obtain ⟨A1, c1, rfl, _, _, _⟩ := ho.cells
  obtain ⟨A2, c2, rfl, _, _, _⟩ := hr.cells
  obtain ⟨A3, c3, rfl, _, _, hck⟩ := hk.cells
  obtain ⟨W0, hW0, Hz0, hb0, hlt0, hc0⟩ := boxed w #[.slice A1 g.obv.length c1, .slice A2 g.rev.length c2, .slice A3 g.links.length c3] 76
  obtain ⟨W1, hW1, Hz1, hb1, hlt1, hc1⟩ := boxed W0 #[.int .i64 s.side, .int .i64 s.num] 143
  have a2 := cell_later hb1 (hc0 2 _ rfl)
  have b0 := hc1 0 _ rfl; have b1 := hc1 1 _ rfl
  have hw1 := below_trans hb0 hb1
  obtain ⟨M1, hM1⟩ : ∃ W, W1.alloc (.map #[] 0) = W := ⟨_, rfl⟩
  have hbM : Below W1.heap.size W1 M1 := by rw [← hM1]; exact (Below.refl _ _).alloc (Nat.le_refl _) _
  have hm1 : MapD M1 W1.heap.size [] := by rw [← hM1]; exact mapD_made W1
  obtain ⟨M2, hu, hm2, hg2⟩ := hm1.put (y := 0) hs (wfN (n := 0) (by omega)) (by simp [maxLen])
  have hm2' : MapD M2 W1.heap.size [(s, 0)] := hm2
  have b0' := cell_later hbM b0; have b1' := cell_later hbM b1
  have hne1 : some W0.heap.size ≠ some W1.heap.size := fun e => by have := Option.some.inj e; omega
  have hb2' : W0.heap.size < M1.heap.size := by have := hbM.size; omega
  have c0 : M2.cell? ⟨W0.heap.size, 0, none⟩ = some (.int .i64 s.side) := (World.cell?_of_block (hg2.block _ hb2' hne1)).trans b0'
  have c1 : M2.cell? ⟨W0.heap.size, 1, none⟩ = some (.int .i64 s.num) := (World.cell?_of_block (hg2.block _ hb2' hne1)).trans b1'
  have hwM : Below w.heap.size w M2 := (below_trans hw1 hbM).grown hg2 (below_trans hw1 hbM).size (fun j e => by cases e; exact hw1.size)
  have hMz : W1.heap.size < M2.heap.size := by have := hg2.size; have := hbM.size; have : M1.heap.size = W1.heap.size + 1 := by rw [← hM1]; simp
                                               omega
  have a2' : M2.cell? ⟨w.heap.size, 2, none⟩ = some (.slice A3 g.links.length c3) := (World.cell?_of_block (hg2.block _ (show w.heap.size < M1.heap.size by have := hbM.size; omega) (fun e => by have h9 : w.heap.size = W1.heap.size := Option.some.inj e; omega))).trans (cell_later hbM a2)
  obtain ⟨W2, hW2, Hz2, hb2, hlt2, _⟩ := boxed M2 #[.int .i64 s.side, .int .i64 s.num] 143
  have hkq : W2.heap[M2.heap.size]? = some (.cells (encD s).toArray 143 (0, 0)) := by rw [← hW2]; exact heap_alloc_new _ _
  have hq0 : QuD M2.heap.size W2 (.slice (some ⟨M2.heap.size, 0, none⟩) 1 1) [s] := Own.qu (own_one (lenD s) hkq (Nat.le_refl _))
  have hm3 := hm2'.below hb2
  have hT0 : Touch M2 W2 [W1.heap.size] := touch_below hb2 _
  obtain ⟨iD, hiD, hzD, hkD, hbD⟩ := info_parts infoD
  have hwz := hw1.size
  clear hc0 hc1 ho hr hk hm2 hm2' hkq b0 b1 hb2' a2
  go_enter Tryz.func161, Tryz.ntmps161
  go_wp2_with fail
  clear hmm hu hM1 hW2 hW1 hW0 b0' b1' c0 c1 hb2
  go_loopw [6] (fun q wr => ∃ (m : List (Die × Int)) (Q : List Die), Hid (Bfs g s m Q) ∧ MapD wr W1.heap.size m ∧ QuD M2.heap.size wr q Q ∧ Touch M2 wr [W1.heap.size] ∧ Hid (Q.length ≤ m.length)) (fun q wr => (130 - mapSz wr W1.heap.size) + qLen q)
  case atStart => exact ⟨[(s, 0)], [s], Lib.hid (bfs_start g s), hm3, hq0, hT0, Lib.hid (Nat.le_refl _)⟩
  case round =>
    clear hm3 hq0 hT0
    obtain ⟨m, Q, HB, hm, hq, hT, HQ⟩ := hrel
    have hwr : Below w.heap.size w wr := (touch_below hwM [W1.heap.size]).trans hT |>.below (by simp; omega) (Nat.le_refl _)
    have hml := HB.out.len
    have hMr := hT.size
    cases Q with
    | nil =>
      obtain ⟨Aq, cq, rfl⟩ := hq.nil
      have HD := Lib.hid HB.out.done
      clear hq hck
      go_wp2_with fail
      go_ret
      exact ⟨_, m, rfl, hm, HD.out, by omega, hwr, by omega⟩
    | cons d Q =>
      obtain ⟨gq, off, cap, rfl, hcm, hlc, hgq, hBg, hcells, _⟩ := hq.head lenD
      have q0 : wr.cell? ⟨gq, off, none⟩ = some (.int .i64 d.side) := hcells 0 _ rfl
      have q1 : wr.cell? ⟨gq, off + 1, none⟩ = some (.int .i64 d.num) := hcells 1 _ rfl
      have hlQ : Q.length + 1 ≤ 129 := by have := HQ.out; simp only [List.length_cons] at this; omega
      have hcap : (cap : Int) + 1 ≤ 9223372036854775807 := by simp only [maxLen] at hcm; omega
      obtain ⟨V1, V2, hV1, hV2, HzV2, hkV1, hkV2, hbV2, hltV2⟩ := fresh wr [.int .i64 0, .int .i64 0] [.int .i64 (d).side, .int .i64 (d).num] 143 rfl
      have hsV2 : (V1.setCell ⟨wr.heap.size, 0, none⟩ (.int .i64 (d).side)).setCell ⟨wr.heap.size, 1, none⟩ (.int .i64 (d).num) = V2 := hV2
      clear hV2
      obtain ⟨⟨z0, z1⟩, f0, f1⟩ := cells2 hkV1
      obtain ⟨⟨s0, s1⟩, _⟩ := cells2 hkV2
      clear hkV1
      have a2 := cell_later hbV2 (cell_off hT (by simp; omega) a2')
      have hm2 := hm.below hbV2; have hq2 := hq.below hbV2
      have HT := Lib.hid (hT.trans (touch_below hbV2 [W1.heap.size]))
      have Hsz := Lib.hid (mapSz_of hm)
      have hdk := HB.out.que d (by simp)
      have Hdk := Lib.hid hdk
      have hwd := (hm.good _ (List.mem_map.1 hdk).choose_spec.1).1
      rw [(List.mem_map.1 hdk).choose_spec.2] at hwd
      clear hq hm hT hcells hdk
      go_wp2_with fail
      clear q0 q1 z0 z1 f0 f1 hsV2 hV1
      obtain ⟨wo, hwo⟩ : ∃ z, z = wr := ⟨_, rfl⟩
      subst hwo
      go_loopw [6, 30] (fun q i wr => ∃ (j : Nat) (m' : List (Die × Int)) (Q' : List Die), j ≤ g.links.length ∧ i = .int .i64 j ∧ Hid (Bfs g s m' (d :: Q')) ∧ Hid (∀ x ∈ g.links.take j, ∀ e, acrO x d = some e → e ∈ m'.map Prod.fst) ∧ MapD wr W1.heap.size m' ∧ QuD M2.heap.size wr q (d :: Q') ∧ Touch M2 wr [W1.heap.size] ∧ (wr.cell? ⟨wo.heap.size, 0, none⟩ = some (.int .i64 d.side) ∧ wr.cell? ⟨wo.heap.size, 1, none⟩ = some (.int .i64 d.num)) ∧ Hid (q.ownBlock ≠ some wo.heap.size) ∧ Hid (m'.length + Q.length = m.length + Q'.length) ∧ Hid (Q'.length + 1 ≤ m'.length) ∧ V2.heap.size ≤ wr.heap.size) (fun _ i _ => g.links.length - (intOf i).toNat)
      case atStart => exact ⟨0, m, Q, Nat.zero_le _, rfl, HB, Lib.hid (fun x hx => by simp at hx), hm2, hq2, HT.out, ⟨s0, s1⟩, Lib.hid (by simp [Value.ownBlock]; omega), Lib.hid rfl, HQ, Nat.le_refl _⟩
      case round =>
        obtain ⟨j, m', Q', hj, rfl, HB', Hdone, hm', hq', hT', ⟨t0, t1⟩, Hne, Heq, HQ', hzz⟩ := hrel
        have hwr : Below w.heap.size w wr := (touch_below hwM [W1.heap.size]).trans hT' |>.below (by simp; omega) (Nat.le_refl _)
        have hml' := HB'.out.len
        by_cases hlt : j < g.links.length
        · obtain ⟨bo, o, rfl, _, hcb⟩ := hck j hlt
          obtain ⟨x, hx⟩ := get_of_lt hlt
          obtain ⟨y0, y1, y2⟩ := hcb wr hwr j x hx
          have hxm := List.mem_of_getElem? hx
          have Hx := Lib.hid hx
          obtain ⟨L1, L2, hL1, hL2, HzL2, hkL1, hkL2, hbL2, hltL2⟩ := fresh wr [.int .i64 0, .int .i64 0, .int .i64 0] [.int .i64 (x).id, .int .i64 (x).obv, .int .i64 (x).rev] 135 rfl
          have hsL2 : ((L1.setCell ⟨wr.heap.size, 0, none⟩ (.int .i64 (x).id)).setCell ⟨wr.heap.size, 1, none⟩ (.int .i64 (x).obv)).setCell ⟨wr.heap.size, 2, none⟩ (.int .i64 (x).rev) = L2 := hL2
          clear hL2
          obtain ⟨⟨z0a, z1a, z2a⟩, f0a, f1a, f2a⟩ := cells3 hkL1
          obtain ⟨⟨s0a, s1a, s2a⟩, _⟩ := cells3 hkL2
          clear hkL1
          have t0 := cell_later hbL2 t0; have t1 := cell_later hbL2 t1
          have hac := across_ok x d
          have hwy := acrD_wf hgl hxm d
          have hmL := hm'.below hbL2; have hqL := hq'.below hbL2
          have HTL := Lib.hid (hT'.trans (touch_below hbL2 [W1.heap.size]))
          have hwrz : wo.heap.size < wr.heap.size := by omega
          clear hcb hx hm' hq' hck hm2 hq2
          cases ha : acrO x d with
          | none =>
            rw [acrD, ha] at hac hwy
            have Hac := Lib.hid hac; clear hac
            have Hdone' : Hid (∀ x ∈ g.links.take (j + 1), ∀ e, acrO x d = some e → e ∈ m'.map Prod.fst) := Lib.hid (mem_snoc2 (P := fun x => ∀ e, acrO x d = some e → e ∈ m'.map Prod.fst) Hx.out (fun z hz => Hdone.out z hz) (fun e he => by rw [ha] at he; cases he))
            clear ha Hdone
            go_wp2_with fail
            refine (Hac.out _).mono ?_
            rintro e w5 ⟨rfl, hb5⟩
            have t0 := cell_later hb5 t0; have t1 := cell_later hb5 t1
            obtain ⟨N1, N2, hN1, hN2, HzN2, hkN1, hkN2, hbN2, hltN2⟩ := fresh w5 [.int .i64 0, .int .i64 0] [.int .i64 ((⟨0, 0⟩ : Die)).side, .int .i64 ((⟨0, 0⟩ : Die)).num] 143 rfl
            have hsN2 : (N1.setCell ⟨w5.heap.size, 0, none⟩ (.int .i64 ((⟨0, 0⟩ : Die)).side)).setCell ⟨w5.heap.size, 1, none⟩ (.int .i64 ((⟨0, 0⟩ : Die)).num) = N2 := hN2
            clear hN2
            obtain ⟨⟨z0b, z1b⟩, f0b, f1b⟩ := cells2 hkN1
            obtain ⟨⟨s0b, s1b⟩, _⟩ := cells2 hkN2
            clear hkN1
            have hb6 := below_trans hb5 hbN2
            have t0 := cell_later hbN2 t0; have t1 := cell_later hbN2 t1
            have hm6 := hmL.below hb6; have hq6 := hqL.below hb6
            have k1 := hm6.look_ok (x := ⟨0, 0⟩) hwy
            dsimp only at k1
            have HT6 := Lib.hid (HTL.out.trans (touch_below hb6 [W1.heap.size]))
            have hz6 := hb6.size
            generalize (lookM m' ⟨0, 0⟩).isSome = K at k1
            generalize (lookM m' ⟨0, 0⟩).getD 0 = K2 at k1
            go_wp2_with fail
            refine ⟨?rel, ?measure⟩
            case rel => exact ⟨j + 1, m', Q', by omega, by go_num, HB', Hdone', hm6, hq6, HT6.out, ⟨t0, t1⟩, Hne, Heq, HQ', by omega⟩
            case measure => first | (simp [intOf]; done) | (simp [intOf]; omega)
          | some y =>
            rw [acrD, ha] at hac hwy
            have Hac := Lib.hid hac; clear hac
            have Ha := Lib.hid ha
            have hwy : wfD y := hwy
            clear ha
            go_wp2_with fail
            refine (Hac.out _).mono ?_
            rintro e w5 ⟨rfl, hb5⟩
            have t0 := cell_later hb5 t0; have t1 := cell_later hb5 t1
            obtain ⟨N1, N2, hN1, hN2, HzN2, hkN1, hkN2, hbN2, hltN2⟩ := fresh w5 [.int .i64 0, .int .i64 0] [.int .i64 (y).side, .int .i64 (y).num] 143 rfl
            have hsN2 : (N1.setCell ⟨w5.heap.size, 0, none⟩ (.int .i64 (y).side)).setCell ⟨w5.heap.size, 1, none⟩ (.int .i64 (y).num) = N2 := hN2
            clear hN2
            obtain ⟨⟨z0b, z1b⟩, f0b, f1b⟩ := cells2 hkN1
            obtain ⟨⟨s0b, s1b⟩, _⟩ := cells2 hkN2
            clear hkN1
            have hb6 := below_trans hb5 hbN2
            have t0 := cell_later hbN2 t0; have t1 := cell_later hbN2 t1
            have hm6 := hmL.below hb6; have hq6 := hqL.below hb6
            have k1 := hm6.look_ok hwy
            have HT6 := Lib.hid (HTL.out.trans (touch_below hb6 [W1.heap.size]))
            have hz6 := hb6.size
            cases hl : lookM m' y with
            | some n =>
              rw [hl] at k1
              dsimp only [Option.getD, Option.isSome] at k1
              have Hdone' : Hid (∀ x ∈ g.links.take (j + 1), ∀ e, acrO x d = some e → e ∈ m'.map Prod.fst) := Lib.hid (mem_snoc2 (P := fun x => ∀ e, acrO x d = some e → e ∈ m'.map Prod.fst) Hx.out (fun z hz => Hdone.out z hz) (fun e he => by rw [Ha.out] at he; cases he; exact List.mem_map.2 ⟨_, lookM_some hl, rfl⟩))
              clear hl Hdone
              go_wp2_with fail
              refine ⟨?rel, ?measure⟩
              case rel => exact ⟨j + 1, m', Q', by omega, by go_num, HB', Hdone', hm6, hq6, HT6.out, ⟨t0, t1⟩, Hne, Heq, HQ', by omega⟩
              case measure => first | (simp [intOf]; done) | (simp [intOf]; omega)
            | none =>
              rw [hl] at k1
              dsimp only [Option.getD, Option.isSome] at k1
              have hny : y ∉ m'.map Prod.fst := lookM_none.1 hl
              obtain ⟨n, hn⟩ := Option.isSome_iff_exists.1 (look_mem.2 (HB'.out.que d (by simp)))
              have hnr := HB'.out.rng _ (lookM_some hn)
              simp only at hnr
              have HBadd := Lib.hid (HB'.out.add (HB'.out.que d (by simp)) hxm Ha.out hny (n := n + 1) (by omega))
              have Hpa := Lib.hid (putM_add (n := n + 1) hny)
              have Hdone' : Hid (∀ x ∈ g.links.take (j + 1), ∀ e, acrO x d = some e → e ∈ (m' ++ [(y, n + 1)]).map Prod.fst) := Lib.hid (mem_snoc2 (P := fun x => ∀ e, acrO x d = some e → e ∈ (m' ++ [(y, n + 1)]).map Prod.fst) Hx.out (fun z hz e he => by rw [List.map_append]; exact List.mem_append_left _ (Hdone.out z hz e he)) (fun e he => by rw [Ha.out] at he; cases he; simp))
              have hwn : wfI (n + 1) := by
                have e : n + 1 = ((n.toNat + 1 : Nat) : Int) := by omega
                rw [e]; exact wfN (by omega)
              have Hn := Lib.hid hn
              have n0 := hnr.1
              have n1 : n ≤ 200 := by omega
              clear hl Hdone hny hn hnr
              go_wp2_with fail
              have hba : Below N2.heap.size N2 N2.drew := (Below.refl _ _).drew
              obtain ⟨wa, hwa⟩ : ∃ W, N2.drew = W := ⟨_, rfl⟩
              rw [hwa] at hba
              have hm7 := hm6.below hba
              have k2 := hm7.look hwd
              rw [Hn.out] at k2
              dsimp only [Option.getD] at k2
              obtain ⟨w8, hu8, hm8, hg8⟩ := hm7.put hwy hwn (by simp only [maxLen]; omega)
              rw [Hpa.out] at hm8
              have u0 := cell_later hba t0; have u1 := cell_later hba t1
              have v0 := cell_later hba s0b; have v1 := cell_later hba s1b
              have hoff : ∀ b, b ≠ W1.heap.size → some b ≠ some W1.heap.size := fun b hb e => hb (Option.some.inj e)
              have hwaz := hba.size
              have n5 : w5.heap.size ≠ W1.heap.size := by have := hb5.size; have := hbL2.size; omega
              have n6 : wo.heap.size ≠ W1.heap.size := by omega
              have x0 : w8.cell? ⟨wo.heap.size, 0, none⟩ = some (.int .i64 d.side) := (World.cell?_of_block (hg8.block wo.heap.size (by omega) (hoff _ n6))).trans u0
              have x1 : w8.cell? ⟨wo.heap.size, 1, none⟩ = some (.int .i64 d.num) := (World.cell?_of_block (hg8.block wo.heap.size (by omega) (hoff _ n6))).trans u1
              have x2 : w8.cell? ⟨w5.heap.size, 0, none⟩ = some (.int .i64 y.side) := (World.cell?_of_block (hg8.block w5.heap.size (by omega) (hoff _ n5))).trans v0
              have x3 : w8.cell? ⟨w5.heap.size, 1, none⟩ = some (.int .i64 y.num) := (World.cell?_of_block (hg8.block w5.heap.size (by omega) (hoff _ n5))).trans v1
              have hq8 := (hq6.below hba).kept hg8 (.inr fun e => by have := (hq6.lt _ e).1; omega)
              have HT8 := Lib.hid ((HT6.out.trans (touch_below hba [W1.heap.size])).trans (grown_touch hg8 (by simp)))
              have hz8 : M2.heap.size ≤ w8.heap.size := HT8.out.size
              have hz8' : V2.heap.size ≤ w8.heap.size := by have := hg8.size; omega
              have hlq8 : Q'.length + 1 ≤ 129 := by have := HQ'.out; omega
              have HX := Lib.hid (⟨x0, x1⟩ : _ ∧ _)
              have hwr1 : IntKind.i64.wrap (n + 1) = n + 1 := IntWalk.i64_in _ (by omega)
              have hHeld : wa = wa := rfl
              refine wp_region_S 6 (fun w' => w' = wa) (by kernel_rfl) (by decide) ?_
              rw [hwa]
              clear hwa t0 t1 s0b s1b hm6 hq6 HT6 hm7 hba hg8 x0 x1
              refine wpAnyS_takeD 0 (some 51) (.map (some W1.heap.size)) (by rfl) (by rfl) (by kernel_rfl) (by exact fun _ _ _ h => h) (by rfl) (fun w' hS => by (subst hS; go_simp)) hHeld ?_
              simp only [Act.put, List.setIfInBounds_toArray, List.set_cons_succ, List.set_cons_zero]
              refine wpAnyS_takeD 1 (some 52) (vlD y) (by rfl) (by rfl) (by kernel_rfl) (by exact fun _ _ _ h => h) (by rfl) (fun w' hS => by (subst hS; go_simp)) hHeld ?_
              simp only [Act.put, List.setIfInBounds_toArray, List.set_cons_succ, List.set_cons_zero]
              refine wpAnyS_takeD 2 (some 53) (.map (some W1.heap.size)) (by rfl) (by rfl) (by kernel_rfl) (by exact fun _ _ _ h => h) (by rfl) (fun w' hS => by (subst hS; go_simp)) hHeld ?_
              simp only [Act.put, List.setIfInBounds_toArray, List.set_cons_succ, List.set_cons_zero]
              refine wpAnyS_takeD 3 (some 54) (vlD d) (by rfl) (by rfl) (by kernel_rfl) (by exact fun _ _ _ h => h) (by rfl) (fun w' hS => by (subst hS; go_simp)) hHeld ?_
              simp only [Act.put, List.setIfInBounds_toArray, List.set_cons_succ, List.set_cons_zero]
              refine wpAnyS_takeD 4 (some 55) (.int .i64 n) (by rfl) (by rfl) (by kernel_rfl) (by exact fun _ _ _ h => h) (by rfl) (fun w' hS => by (subst hS; go_simp)) hHeld ?_
              simp only [Act.put, List.setIfInBounds_toArray, List.set_cons_succ, List.set_cons_zero]
              refine wpAnyS_takeD 5 (some 56) (.int .i64 (n + 1)) (by rfl) (by rfl) (by kernel_rfl) (by exact fun _ _ _ h => h) (by rfl) (fun w' hS => by (subst hS; go_simp)) hHeld ?_
              simp only [Act.put, List.setIfInBounds_toArray, List.set_cons_succ, List.set_cons_zero]
              clear hHeld u0 u1 v0 v1 k2 hwr1
              refine (show tailOf _ _ _ _ _ _ _ _ from ⟨by kernel_rfl, ?_⟩)
              simp only [List.drop_succ_cons, List.drop_zero]
              have hlq9 : (d :: Q').length ≤ 129 := by simp; omega
              go_wp2_with (at_builtin; refine wpList_appendQu rfl (.tmp 57) (.tmp 59) _ rfl iD _ 16 Tryz.underlying126 hiD hzD hkD hbD rfl (by decide) lenD oneD rfl hq8 y _ rfl _ rfl rfl (by omega) (by omega) hz8 ?_; intro v' wf hqf hgf hat)
              have hnb : ∀ c, c < M2.heap.size → some c ≠ Value.ownBlock _ := fun c hc e => by have := (hq8.lt c e.symm).1; omega
              have hxo : wo.heap.size < w8.heap.size := by omega
              have hc0 := (World.cell?_of_block (a := ⟨wo.heap.size, 0, none⟩) (hgf.block wo.heap.size hxo (fun e => Hne.out e.symm))).trans HX.out.1
              have hc1 := (World.cell?_of_block (a := ⟨wo.heap.size, 1, none⟩) (hgf.block wo.heap.size hxo (fun e => Hne.out e.symm))).trans HX.out.2
              have Hne' : Hid (v'.ownBlock ≠ some wo.heap.size) := Lib.hid (by
                rcases hat with e | e
                · rw [e]; exact Hne.out
                · intro e2; have := e _ e2; omega)
              refine ⟨?rel, ?measure⟩
              case rel => exact ⟨j + 1, m' ++ [(y, n + 1)], Q' ++ [y], by omega, by go_num, HBadd, Hdone', hm8.kept hgf (hnb _ hMz), hqf, HT8.out.trans_own hgf (fun i e => (hq8.lt i e).1), ⟨hc0, hc1⟩, Hne', Lib.hid (by have := Heq.out; simp only [List.length_append, List.length_singleton]; omega), Lib.hid (by have := HQ'.out; simp only [List.length_append, List.length_singleton]; omega), by have := hgf.size; omega⟩
              case measure => first | (simp [intOf]; done) | (simp [intOf]; omega)
        · have e1 : g.links.take j = g.links := List.take_of_length_le (by omega)
          have HBp := Lib.hid (HB'.out.pop (fun x hx e he => Hdone.out x (by rw [e1]; exact hx) e he))
          obtain ⟨gq', off', cap', rfl, hcm', hlc', _, _, _, hcut, hcut0⟩ := hq'.head lenD
          have Hsz' := Lib.hid (mapSz_of hm')
          have hcap' : (cap' : Int) + 1 ≤ 9223372036854775807 := by simp only [maxLen] at hcm'; omega
          have HQp := Lib.hid (show Q'.length ≤ m'.length by have := HQ'.out; omega)
          have hml2 := hml'
          have hmlo := hml
          have HM' := Lib.hid hm'; have HT' := Lib.hid hT'
          clear e1 hq' hm' hT' hck hm2 hq2
          rcases Nat.eq_zero_or_pos cap' with h0 | h0
          · obtain ⟨e0, hQ2⟩ := hcut0 h0
            subst h0; subst e0
            clear hcut hcut0
            have HQ2 := Lib.hid hQ2; clear hQ2
            go_wp2_with fail
            refine ⟨?rel, ?measure⟩
            case rel => exact ⟨m', [], HBp, HM'.out, HQ2.out, HT'.out, HQp⟩
            case measure => rw [Hsz'.out, Hsz.out]; have := Heq.out; simp [qLen] at this ⊢; omega
          · have hQ2 := hcut h0
            clear hcut hcut0
            have HQ2 := Lib.hid hQ2; clear hQ2
            go_wp2_with fail
            refine ⟨?rel, ?measure⟩
            case rel => exact ⟨m', Q', HBp, HM'.out, HQ2.out, HT'.out, HQp⟩
            case measure => rw [Hsz'.out, Hsz.out]; have := Heq.out; simp only [qLen]; omega
end Go.Proofs.YthnckicnnhkkaaaGreat
/- component.in, away, Joined. Condition: the graph in its memory, the dies' numbers are numbers. -/
namespace Go.Proofs.YthnckicnnhkkaaaGreat
open Go.RowKit Go.Maps

theorem ascB_bounds {xs : List Int} {lo hi : Int} (h : ascB xs lo hi = true) : ∀ x ∈ xs, lo ≤ x ∧ x ≤ hi := by
  simp only [ascB, decide_eq_true_eq] at h
  exact h.1
theorem linkWf {g : Graph} (hg : graphB g = true) : LinkWf g := fun x hx => by
  have hok := (graphB_iff g).1 hg
  have hE := graphB_ends hg
  have h1 := ascB_bounds hok.ao _ (hE.1 x hx)
  have h2 := ascB_bounds hok.ar _ (hE.2 x hx)
  exact ⟨⟨wfN (n := 0) (by omega), show wfI x.obv from wf_small (by omega) (by omega)⟩, ⟨wfN (n := 1) (by omega), show wfI x.rev from wf_small (by omega) (by omega)⟩⟩
end Go.Proofs.YthnckicnnhkkaaaGreat
/- component.Parts. Condition: the graph in its memory. -/
namespace Go.Proofs.YthnckicnnhkkaaaGreat
open Go.RowKit Go.Maps

noncomputable def partsG (g : Graph) : List Int := partsA (joinB (edgesG g)) (diesG g)
theorem dies_wf {g : Graph} (hg : graphB g = true) : ∀ d ∈ diesG g, wfD d := fun d hd => by
  have hok := (graphB_iff g).1 hg
  rw [diesG, if_pos hg] at hd
  rcases List.mem_append.1 hd with hd | hd
  · obtain ⟨n, hn, rfl⟩ := List.mem_map.1 hd
    have := ascB_bounds hok.ao n hn
    exact ⟨wfN (n := 0) (by omega), show wfI n from wf_small (by omega) (by omega)⟩
  · obtain ⟨n, hn, rfl⟩ := List.mem_map.1 hd
    have := ascB_bounds hok.ar n hn
    exact ⟨wfN (n := 1) (by omega), show wfI n from wf_small (by omega) (by omega)⟩
theorem dies_le {g : Graph} (hg : graphB g = true) : (diesG g).length ≤ 64 := by
  have hok := (graphB_iff g).1 hg
  rw [dies_len hg]
  have := hok.lo; have := hok.lr; omega
/-- What the map of numbers knows after some dies. -/
def NumAt (R : Die → Die → Bool) (rs : List Die) (mm : List (Die × Int)) : Prop := ∀ x, lookM mm x = if rs.any (fun r => R r x) then some ((partI R rs x : Nat) : Int) else none
theorem NumAt.len {g : Graph} (hg : graphB g = true) {rs : List Die} {mm : List (Die × Int)} (h : NumAt (joinB (edgesG g)) rs mm) (hn : (mm.map Prod.fst).Nodup) : mm.length ≤ 64 := by
  have := nodup_len (c := diesG g) hn (fun x hx => by
    have hs := look_mem.2 hx
    rw [h x] at hs
    split at hs
    · rename_i ha
      obtain ⟨r, _, hr⟩ := List.any_eq_true.1 ha
      exact (dies_end hg x).2 (joinB_iff.1 hr).2.1
    · cases hs)
  have := dies_le hg
  rw [List.length_map] at *
  omega
theorem numAt_nil (R : Die → Die → Bool) : NumAt R [] [] := fun _ => rfl
/-- A new component: what its dies are called. -/
theorem NumAt.new {g : Graph} (hg : graphB g = true) {ds : List Die} {mm mm' : List (Die × Int)} {d : Die} {K : List Die} (hd : d ∈ diesG g) (h : NumAt (joinB (edgesG g)) (repsA (joinB (edgesG g)) ds) mm)
    (hno : (repsA (joinB (edgesG g)) ds).any (fun r => joinB (edgesG g) r d) = false) (hK : ∀ x, x ∈ K ↔ Con (edgesG g) d x) (hmm : ∀ x, lookM mm' x = if x ∈ K then some ((repsA (joinB (edgesG g)) ds).length : Int) else lookM mm x) :
    NumAt (joinB (edgesG g)) (repsA (joinB (edgesG g)) (ds ++ [d])) mm' := fun x => by
  have hE := (dies_end hg d).1 hd
  have hR : ∀ x, joinB (edgesG g) d x = true ↔ x ∈ K := fun x => by
    rw [hK, joinB_iff]
    constructor
    · exact fun h => h.2.2
    · intro hc
      refine ⟨hE, ?_, hc⟩
      by_cases e : d = x
      · rw [← e]; exact hE
      · exact (con_end hc e).2
  rw [repsA_new hno, hmm x]
  by_cases hx : x ∈ K
  · have hdx := (hR x).2 hx
    have hnx : (repsA (joinB (edgesG g)) ds).any (fun r => joinB (edgesG g) r x) = false := by
      rw [← Bool.not_eq_true]
      intro ha
      obtain ⟨r, h1, h2⟩ := List.any_eq_true.1 ha
      have hs := rel_join (E := edgesG g) (ds := []) (fun d hd => by cases hd)
      have := hs.trans _ _ _ h2 (hs.symm _ _ hdx)
      rw [← Bool.not_eq_true] at hno
      exact hno (List.any_eq_true.2 ⟨r, h1, this⟩)
    rw [if_pos hx, if_pos (by rw [List.any_append]; simp [hdx])]
    congr 1
    rw [partI, findIdx_new hnx hdx]
  · have hdx : joinB (edgesG g) d x = false := by
      rw [← Bool.not_eq_true]; exact fun h => hx ((hR x).1 h)
    rw [if_neg hx, h x]
    cases ha : (repsA (joinB (edgesG g)) ds).any (fun r => joinB (edgesG g) r x)
    · rw [if_neg (by simp), if_neg (by rw [List.any_append, ha]; simp [hdx])]
    · rw [if_pos rfl, if_pos (by rw [List.any_append, ha]; rfl)]
      congr 1
      rw [partI, partI, findIdx_pre (List.prefix_append _ _) ha]
theorem partsA_snoc {R : Die → Die → Bool} {ds : List Die} {k : Nat} {d : Die} (hd : ds[k]? = some d) : (partsA R ds).take (k + 1) = (partsA R ds).take k ++ [((partI R (repsA R ds) d : Nat) : Int)] := by
  refine take_snoc' ?_
  rw [partsA, List.getElem?_map, hd]; rfl
theorem part_pre {R : Die → Die → Bool} {ds : List Die} {k : Nat} {d : Die} (h : (repsA R (ds.take k)).any (fun r => R r d) = true) : partI R (repsA R ds) d = partI R (repsA R (ds.take k)) d :=
  findIdx_pre (repsA_take ds k) h

set_option maxHeartbeats 8000000 in
set_option maxRecDepth 100000 in
theorem cParts_ok (v : Value) (g : Graph) (w : World) (h : GraphAt w v g) :
    Calls Tryz.prog 123 #[v] w fun e w' => ∃ u, e = .returned (.tuple #[u, .int .i64 (validE g)]) ∧ OwnI w.heap.size w' u (partsG g) ∧ Below w.heap.size w w' := by
  have hmm := @run_makeMap Tryz.prog
  have h' := h
  obtain ⟨v1, v2, v3, rfl, ho, hr, hk⟩ := h
  obtain ⟨A1, c1, rfl, _, _, _⟩ := ho.cells
  obtain ⟨A2, c2, rfl, _, _, _⟩ := hr.cells
  obtain ⟨A3, c3, rfl, _, _, _⟩ := hk.cells
  obtain ⟨W0, hW0, Hz0, hb0, hlt0, hc0⟩ := boxed w #[.slice A1 g.obv.length c1, .slice A2 g.rev.length c2, .slice A3 g.links.length c3] 76
  have a0 := hc0 0 _ rfl; have a1 := hc0 1 _ rfl; have a2 := hc0 2 _ rfl
  have h1 := h'.below hb0
  clear hc0 ho hr hk
  go_enter Tryz.func123, Tryz.ntmps123
  go_wp2_with fail
  refine (Dies_ok _ g _ h1).mono ?_
  rintro e w2 ⟨ud, rfl, hd, hb2⟩
  obtain ⟨Ad, cd, rfl, _, _, hdc⟩ := hd.cells
  have hw2 := below_trans hb0 hb2
  have a0 := cell_later hb2 a0; have a1 := cell_later hb2 a1; have a2 := cell_later hb2 a2
  clear hW0
  cases hg : graphB g
  · have hv : validE g = 1 := by simp [validE, hg]
    have hp : partsG g = [] := by rw [partsG, diesG, if_neg (by simp [hg])]; rfl
    have HP := Lib.hid hp; have HV := Lib.hid hv
    rw [hv]
    clear hp hv hg hdc a0 a1 a2
    go_wp2_with fail
    exact bodyPost_ret (v := .tuple #[.slice none 0 0, .int .i64 1]) (by simp [results, Tryz.results123, go_sem]) rfl ⟨_, by rw [HV.out], by rw [HP.out]; exact own_nil _ _ _ _ _, hw2⟩
  have hv : validE g = 0 := by simp [validE, hg]
  have HV := Lib.hid hv
  rw [hv]
  have Hg := Lib.hid hg
  have hll := ((graphB_iff g).1 hg).ll
  have hdl := dies_le hg
  have Hwf := Lib.hid (dies_wf hg)
  obtain ⟨R, hR⟩ : ∃ R, joinB (edgesG g) = R := ⟨_, rfl⟩
  obtain ⟨ds, hds⟩ : ∃ ds, diesG g = ds := ⟨_, rfl⟩
  rw [hds] at hd hdc hdl Hwf ⊢
  have HRd := Lib.hid hR; have HDs := Lib.hid hds
  obtain ⟨M1, hM1⟩ : ∃ W, w2.alloc (.map #[] 0) = W := ⟨_, rfl⟩
  have hbM : Below w2.heap.size w2 M1 := by rw [← hM1]; exact (Below.refl _ _).alloc (Nat.le_refl _) _
  have hMz : w2.heap.size < M1.heap.size := by rw [← hM1]; simp
  have hm1 : MapD M1 w2.heap.size [] := by rw [← hM1]; exact mapD_made w2
  have hT0 := Touch.refl M1 [w2.heap.size]
  have a0' := cell_later hbM a0; have a1' := cell_later hbM a1; have a2' := cell_later hbM a2
  have hwM := below_trans hw2 hbM
  have hw2z := hw2.size
  obtain ⟨iI, hiI, hzI, hkI, hbI⟩ := info_parts infoI
  clear hv hg hR hds a0 a1 a2
  go_wp2_with fail
  clear hmm hM1
  go_loopw [7, 8, 25] (fun u p i wr => ∃ (k : Nat) (mm : List (Die × Int)), k ≤ ds.length ∧ i = .int .i64 k ∧ p = .int .i64 ((repsA R (ds.take k)).length : Nat) ∧ OwnI M1.heap.size wr u ((partsA R ds).take k) ∧ MapD wr w2.heap.size mm ∧ Hid (NumAt R (repsA R (ds.take k)) mm) ∧ Touch M1 wr [w2.heap.size]) (fun _ _ i _ => ds.length - (intOf i).toNat)
  case atStart => exact ⟨0, [], Nat.zero_le _, rfl, rfl, own_nil _ _ _ _ _, hm1, Lib.hid (numAt_nil R), hT0⟩
  case round =>
    clear hm1 hT0
    obtain ⟨k, mm, hk, rfl, rfl, hown, hm, HN, hT⟩ := hrel
    have hwr : Below w.heap.size w wr := (touch_below hwM [w2.heap.size]).trans hT |>.below (by simp; omega) (Nat.le_refl _)
    have hMr := hT.size
    have hw2r : Below w2.heap.size w2 wr := (touch_below hbM [w2.heap.size]).trans hT |>.below (by simp) (Nat.le_refl _)
    have hbw0 : w.heap.size ∉ [w2.heap.size] := by simp; have := hb2.size; omega
    have a0 := cell_off hT hbw0 a0'; have a1 := cell_off hT hbw0 a1'; have a2 := cell_off hT hbw0 a2'
    have hlen7 : ((partsA R ds).take k).length ≤ 64 := by rw [List.length_take]; omega
    have hrl := repsA_len (R := R) (ds.take k)
    rw [List.length_take] at hrl
    by_cases hlt : k < ds.length
    · obtain ⟨bo, o, rfl, _, hcb⟩ := hdc k hlt
      obtain ⟨d, hdk⟩ := get_of_lt hlt
      obtain ⟨y0, y1⟩ := hcb wr hw2r k d hdk
      have hdm := List.mem_of_getElem? hdk
      have hwd := Hwf.out d hdm
      obtain ⟨wo, hwo⟩ : ∃ z, z = wr := ⟨_, rfl⟩
      subst hwo
      obtain ⟨V1, V2, hV1, hV2, HzV2, hkV1, hkV2, hbV2, hltV2⟩ := fresh wo [.int .i64 0, .int .i64 0] [.int .i64 (d).side, .int .i64 (d).num] 143 rfl
      have hsV2 : (V1.setCell ⟨wo.heap.size, 0, none⟩ (.int .i64 (d).side)).setCell ⟨wo.heap.size, 1, none⟩ (.int .i64 (d).num) = V2 := hV2
      clear hV2
      obtain ⟨⟨z0, z1⟩, f0, f1⟩ := cells2 hkV1
      obtain ⟨⟨s0, s1⟩, _⟩ := cells2 hkV2
      clear hkV1
      have a0 := cell_later hbV2 a0; have a1 := cell_later hbV2 a1; have a2 := cell_later hbV2 a2
      have hmV := hm.below hbV2
      have hownV := hown.below hbV2
      have HTV := Lib.hid (hT.trans (touch_below hbV2 [w2.heap.size]))
      have k1 := hmV.look_ok hwd
      have hN := HN.out d
      have Hdk := Lib.hid hdk
      have Htk := Lib.hid (partsA_snoc (R := R) hdk)
      have hwV := below_trans hwr hbV2
      clear hcb hdk hm hown hT
      cases ha : (repsA R (ds.take k)).any (fun r => R r d)
      case true =>
        have Hpp := Lib.hid (part_pre (ds := ds) ha)
        have Hre := Lib.hid (repsA_old ha)
        rw [ha, if_pos rfl] at hN
        have Ha := Lib.hid ha
        rw [hN] at k1
        have k2 := hmV.look hwd
        rw [hN] at k2
        dsimp only [Option.getD, Option.isSome] at k1 k2
        obtain ⟨P, hP⟩ : ∃ P, partI R (repsA R (ds.take k)) d = P := ⟨_, rfl⟩
        rw [hP] at k1 k2 Hpp
        clear hN ha hP a0 a1 a2
        have hz3 := HTV.out.size
        go_wp2_with (at_builtin; refine wpList_append1 (enc := encI) (size := 1) (B := M1.heap.size) rfl (.tmp 50) (.tmp 54) _ rfl 3 iI _ 8 Tryz.underlying68 hiI hzI hkI hbI rfl (by decide) rfl hownV (P : Int) _ rfl lenI oneI _ rfl rfl (by omega) (by omega) hz3 ?_; intro v' w7 hown' hgrow hat)
        have hnb : ∀ c, c < M1.heap.size → some c ≠ Value.ownBlock _ := fun c hc e => by have := (hownV.lt c e.symm).1; omega
        refine ⟨?rel, ?measure⟩
        case rel => exact ⟨k + 1, mm, by omega, by go_num, by rw [take_snoc' Hdk.out, Hre.out], by rw [Htk.out, Hpp.out]; exact hown', hmV.kept hgrow (hnb _ hMz), by rw [take_snoc' Hdk.out, Hre.out]; exact HN, HTV.out.trans_own hgrow (fun j e => (hownV.lt j e).1)⟩
        case measure => first | (simp [intOf]; done) | (simp [intOf]; omega)
      case false =>
        have Ha := Lib.hid ha
        rw [ha, if_neg (by simp)] at hN
        rw [hN] at k1
        dsimp only [Option.getD, Option.isSome] at k1
        have hml0 := Lib.hid (NumAt.len Hg.out (rs := repsA R (ds.take k)) (by rw [HRd.out]; exact HN.out) hmV.nodup)
        clear hN ha
        go_wp2_with fail
        refine (steps_ok g (linkWf Hg.out) hll d hwd _ V2 (h'.below hwV)).mono ?_
        rintro e w5 ⟨b, m, rfl, hms, hmem, hbz, hb5, hml⟩
        have Hmem := Lib.hid hmem
        have s0 := cell_later hb5 s0; have s1 := cell_later hb5 s1
        have hm5 := hmV.below hb5
        have hmN := hmV
        have hml9 := hml
        have hown5 := hownV.below hb5
        have HT5 := Lib.hid (HTV.out.trans (touch_below hb5 [w2.heap.size]))
        have hnd := Lib.hid (hms.nodup)
        clear a0 a1 a2 hmem k1 hownV hmV
        go_wp2_with (first | (at_range; refine wpList_rangeAt rfl _ rfl Tryz.underlying196 hms rfl ?_; intro w6 hr6 hb6 hz6))
        go_frame
        have hm6 := hm5.below hb6
        have s01 := Lib.hid (⟨s0, s1⟩ : _ ∧ _)
        have HT6 := Lib.hid ((Touch.refl w5 [w2.heap.size]).trans (touch_below hb6 [w2.heap.size]))
        have hne : w2.heap.size ≠ w5.heap.size := by have := hm5.lt; omega
        have hnb5 : w2.heap.size ≠ b := by have := hmN.lt; omega
        have hbl := hms.lt
        have hwow : wo.heap.size < w5.heap.size := by have := hb5.size; omega
        obtain ⟨p, hp⟩ : ∃ p, (repsA R (ds.take k)).length = p := ⟨_, rfl⟩
        have Hp := Lib.hid hp
        rw [hp] at hrl ⊢
        have hpw : wfI (p : Int) := wfN (by omega)
        have hz56 : w5.heap.size < w6.heap.size := by omega
        clear hp hms hb6 hz6 s0 s1
        go_loopw [] (fun wr => ∃ (todo : List Die) (mm' : List (Die × Int)), RangeD wr b w5.heap.size m todo ∧ MapD wr w2.heap.size mm' ∧ Hid (∀ x, lookM mm' x = if x ∈ m.map Prod.fst ∧ x ∉ todo then some (p : Int) else lookM mm x) ∧ Touch w5 wr [w2.heap.size] ∧ w6.heap.size ≤ wr.heap.size) (fun wr => wr.rangeLeft b w5.heap.size)
        case atStart => exact ⟨m.map Prod.fst, mm, hr6, hm6, Lib.hid (fun x => by rw [if_neg (fun hh => hh.2 hh.1)]), HT6.out, Nat.le_refl _⟩
        case round =>
          obtain ⟨todo, mm', hr, hm', Hlk, hT', hz'⟩ := hrel
          have Hr := Lib.hid hr; have HT' := Lib.hid hT'; have Hm' := Lib.hid hm'
          clear hr6 hm6 hT' hm'
          go_wp2_with (at_next; refine wpList_nextAt rfl _ rfl hr rfl ?_ ?_)
          · rintro rfl
            have hNn := NumAt.new (K := m.map Prod.fst) Hg.out (by rw [HDs.out]; exact hdm) (by rw [HRd.out]; exact HN.out) (by rw [HRd.out]; exact Ha.out) Hmem.out (mm' := mm') (fun x => by
              rw [HRd.out, Hp.out, Hlk.out x]
              by_cases hx : x ∈ m.map Prod.fst
              · rw [if_pos ⟨hx, by simp⟩, if_pos hx]
              · rw [if_neg (fun h => hx h.1), if_neg hx])
            rw [HRd.out, ← take_snoc' Hdk.out] at hNn
            have HNn := Lib.hid hNn
            have hself : R d d = true := by
              rw [← HRd.out, joinB_iff]
              have hE := (dies_end Hg.out d).1 (by rw [HDs.out]; exact hdm)
              exact ⟨hE, hE, .refl _⟩
            have hanyd : (repsA R (ds.take (k + 1))).any (fun r => R r d) = true := by
              rw [take_snoc' Hdk.out, repsA_new Ha.out, List.any_append]; simp [hself]
            have hrlen : (repsA R (ds.take (k + 1))).length = p + 1 := by
              rw [take_snoc' Hdk.out, repsA_new Ha.out, List.length_append, Hp.out]; rfl
            have hpart : partI R (repsA R ds) d = p := by
              rw [part_pre hanyd, take_snoc' Hdk.out, repsA_new Ha.out, partI, findIdx_new Ha.out hself, Hp.out]
            have hlkd : lookM mm' d = some (p : Int) := by
              rw [Hlk.out d, if_pos ⟨(Hmem.out d).2 (.refl _), by simp⟩]
            have Hrlen := Lib.hid hrlen
            rw [hpart] at Htk
            have k2 := Hm'.out.look hwd
            rw [hlkd] at k2
            dsimp only [Option.getD] at k2
            have t0 := cell_off HT'.out (show wo.heap.size ∉ [w2.heap.size] by simp; omega) s01.out.1
            have t1 := cell_off HT'.out (show wo.heap.size ∉ [w2.heap.size] by simp; omega) s01.out.2
            have hownR := hown5.touch HT'.out (by simp; omega)
            have HTR := Lib.hid (HT5.out.trans HT'.out)
            have hz3 := HTR.out.size
            have hp0 : (0 : Int) ≤ (p : Int) := by omega
            have hp1 : (p : Int) ≤ 64 := by omega
            clear hr hNn hself hanyd hrlen hpart hlkd Hlk
            go_wp2_with (at_builtin; refine wpList_append1 (enc := encI) (size := 1) (B := M1.heap.size) rfl (.tmp 50) (.tmp 54) _ rfl 3 iI _ 8 Tryz.underlying68 hiI hzI hkI hbI rfl (by decide) rfl hownR (p : Int) _ rfl lenI oneI _ rfl rfl (by omega) (by omega) hz3 ?_; intro v' w7 hown' hgrow hat)
            have hnb : ∀ c, c < M1.heap.size → some c ≠ Value.ownBlock _ := fun c hc e => by have := (hownR.lt c e.symm).1; omega
            refine ⟨?rel, ?measure⟩
            case rel => exact ⟨k + 1, mm', by omega, by go_num, by rw [Hrlen.out]; go_num, by rw [Htk.out]; exact hown', Hm'.out.kept hgrow (hnb _ hMz), HNn, HTR.out.trans_own hgrow (fun j e => (hownR.lt j e).1)⟩
            case measure => first | (simp [intOf]; done) | (simp [intOf]; omega)
          · intro x y w7 hx hlk hr7 hlt7 hg7 hz7 hen
            have ek : keyDie.val x = vlD x := rfl
            have ee : (elInt Tryz.underlying3 zInt).val y = .int .i64 y := rfl
            rw [ek, ee] at hen
            rw [ek, ee]
            clear ek ee
            have hxk := hr7.sub
            have hxK : x ∈ m.map Prod.fst := Hr.out.sub x hx
            have hwx : wfD x := mem_ok Hr.out.map hxK
            have hm7 := Hm'.out.kept hg7 (fun e => hne (Option.some.inj e))
            have hnd' := hm7.nodup
            obtain ⟨X1, X2, hX1, hX2, HzX2, hkX1, hkX2, hbX2, hltX2⟩ := fresh w7 [.int .i64 0, .int .i64 0] [.int .i64 (x).side, .int .i64 (x).num] 143 rfl
            have hsX2 : (X1.setCell ⟨w7.heap.size, 0, none⟩ (.int .i64 (x).side)).setCell ⟨w7.heap.size, 1, none⟩ (.int .i64 (x).num) = X2 := hX2
            clear hX2
            obtain ⟨⟨z0q, z1q⟩, f0q, f1q⟩ := cells2 hkX1
            obtain ⟨⟨s0q, s1q⟩, _⟩ := cells2 hkX2
            clear hkX1
            have hgX1 : w7.grownBy X1 none := by rw [← hX1]; exact World.grownBy_alloc _ _ none
            have hgX2 : X1.grownBy X2 (some w7.heap.size) := by rw [← hsX2]; exact setCells_grown w7.heap.size [.int .i64 x.side, .int .i64 x.num] X1 0
            have hmX := hm7.below hbX2
            have hmlen : mm'.length ≤ 300 := by
              have h1 := nodup_len (c := m.map Prod.fst ++ mm.map Prod.fst) hnd' (fun z hz => by
                have h2 := look_mem.2 hz
                rw [Hlk.out z] at h2
                rw [List.mem_append]
                split at h2
                · rename_i h3; exact .inl h3.1
                · exact .inr (look_mem.1 h2))
              have h4 := hml0.out
              rw [List.length_append, List.length_map, List.length_map, List.length_map] at h1
              omega
            obtain ⟨w8, hu8, hm8, hg8⟩ := hmX.put hwx hpw (by simp only [maxLen]; omega)
            have hbr' : b < w7.heap.size := by omega
            have hrr' : w5.heap.size < w7.heap.size := by omega
            have n1 : some b ≠ some w7.heap.size := fun e => by have := Option.some.inj e; omega
            have n2 : some w5.heap.size ≠ some w7.heap.size := fun e => by have := Option.some.inj e; omega
            have n3 : some b ≠ some w2.heap.size := fun e => hnb5 (Option.some.inj e).symm
            have n4 : some w5.heap.size ≠ some w2.heap.size := fun e => hne (Option.some.inj e).symm
            have hr8 := RangeAt.kept (RangeAt.kept (RangeAt.kept hr7 hgX1 (by simp) (by simp)) hgX2 n1 n2) hg8 n3 n4
            have hl8 := (RangeAt.left_kept (RangeAt.kept (RangeAt.kept hr7 hgX1 (by simp) (by simp)) hgX2 n1 n2) hg8 n3 n4).trans ((RangeAt.left_kept (RangeAt.kept hr7 hgX1 (by simp) (by simp)) hgX2 n1 n2).trans (RangeAt.left_kept hr7 hgX1 (by simp) (by simp)))
            have HL8 := Lib.hid (show w8.rangeLeft b w5.heap.size < wr.rangeLeft b w5.heap.size by rw [hl8]; exact hlt7)
            have hT8 : Touch w5 w8 [w2.heap.size] := (((HT'.out.trans_own hg7 (fun j e => by cases e; exact Nat.le_refl _)).trans_own hgX1 (fun j e => by cases e)).trans_own hgX2 (fun j e => by cases e; omega)).trans (grown_touch hg8 (by simp))
            have hz8 : w6.heap.size ≤ w8.heap.size := by have := hg8.size; have := hgX2.size; have := hgX1.size; omega
            have Hlk8 : Hid (∀ z, lookM (putM mm' x (p : Int)) z = if z ∈ m.map Prod.fst ∧ z ∉ todo.filter (fun z => !decide (z = x)) then some (p : Int) else lookM mm z) := Lib.hid (fun z => by
              rw [lookM_putM]
              by_cases e : x = z
              · subst e
                rw [if_pos rfl, if_pos ⟨hxK, by simp⟩]
              · rw [if_neg e, Hlk.out z]
                have e2 : z ∈ todo.filter (fun z => !decide (z = x)) ↔ z ∈ todo := by
                  simp only [List.mem_filter, Bool.not_eq_true', decide_eq_false_iff_not]
                  exact ⟨fun h => h.1, fun h => ⟨h, fun e3 => e e3.symm⟩⟩
                simp only [e2])
            have HR8 := Lib.hid hr8; have HM8 := Lib.hid hm8; have HT8 := Lib.hid hT8
            clear hr hr7 hr8 hl8 hm7 hmX hg7 hgX1 hgX2 hg8 hT8 hm8 hlk Hlk hxk hnd' hz7
            go_wp2_with fail
            exact ⟨⟨_, _, HR8.out, HM8.out, Hlk8, HT8.out, hz8⟩, HL8.out⟩
    · have e1 : k = ds.length := by omega
      subst e1
      have hfull : (partsA R ds).take ds.length = partsG g := by
        rw [partsG, HRd.out, HDs.out, List.take_of_length_le (by rw [partsA, List.length_map]; omega)]
      have HO := Lib.hid (hown.base (show w.heap.size ≤ M1.heap.size by omega))
      rw [hfull] at HO
      clear hfull hown hdc a0 a1 a2
      go_wp2_with fail
      exact bodyPost_ret (v := .tuple #[u7, .int .i64 0]) (by simp [results, Tryz.results123, go_sem]) rfl ⟨_, by rw [HV.out], HO.out, hwr⟩
end Go.Proofs.YthnckicnnhkkaaaGreat
/- component.Chains, Loops. Condition: the graph in its memory. -/
namespace Go.Proofs.YthnckicnnhkkaaaGreat
open Go.RowKit Go.Maps

/-! ### Chains, plain -/
section
variable {α : Type} {R : α → α → Bool} {ds : List α}
def chainsP (R : α → α → Bool) (ds : List α) (j : Nat) : List (List α) := (List.range (repsA R (ds.take j)).length).map fun k => (ds.take j).filter fun d => decide (partI R (repsA R ds) d = k)
theorem chainsP_len (j : Nat) : (chainsP R ds j).length = (repsA R (ds.take j)).length := by simp [chainsP]
theorem chainsP_all : chainsP R ds ds.length = chainsA R ds := by rw [chainsP, chainsA, List.take_length]
theorem chainsP_get {j k : Nat} (h : k < (repsA R (ds.take j)).length) : (chainsP R ds j)[k]? = some ((ds.take j).filter fun d => decide (partI R (repsA R ds) d = k)) := by
  rw [chainsP, List.getElem?_map, List.getElem?_range h]; rfl
theorem chainsP_row_len {j k : Nat} {r : List α} (h : (chainsP R ds j)[k]? = some r) : r.length ≤ j := by
  have hk := lt_of_get h
  rw [chainsP_len] at hk
  rw [chainsP_get hk] at h
  cases h
  refine Nat.le_trans (List.length_filter_le _ _) ?_
  rw [List.length_take]; omega
theorem part_old {j : Nat} {d : α} (ha : (repsA R (ds.take j)).any (fun r => R r d) = true) : partI R (repsA R ds) d < (repsA R (ds.take j)).length := by
  rw [show partI R (repsA R ds) d = partI R (repsA R (ds.take j)) d from findIdx_pre (repsA_take ds j) ha]
  exact part_lt ha
theorem part_new {j : Nat} {d : α} (hd : ds[j]? = some d) (hr : R d d = true) (ha : (repsA R (ds.take j)).any (fun r => R r d) = false) : partI R (repsA R ds) d = (repsA R (ds.take j)).length := by
  have h1 : (repsA R (ds.take (j + 1))).any (fun r => R r d) = true := by rw [take_snoc' hd, repsA_new ha, List.any_append]; simp [hr]
  rw [show partI R (repsA R ds) d = partI R (repsA R (ds.take (j + 1))) d from findIdx_pre (repsA_take ds (j + 1)) h1, take_snoc' hd, repsA_new ha, partI, findIdx_new ha hr]
theorem chainsP_old {j : Nat} {d : α} {r : List α} (hd : ds[j]? = some d) (ha : (repsA R (ds.take j)).any (fun r => R r d) = true) (hrow : (chainsP R ds j)[partI R (repsA R ds) d]? = some r) :
    chainsP R ds (j + 1) = (chainsP R ds j).set (partI R (repsA R ds) d) (r ++ [d]) := by
  have hp := part_old ha
  have hl : (repsA R (ds.take (j + 1))).length = (repsA R (ds.take j)).length := by rw [take_snoc' hd, repsA_old ha]
  rw [chainsP_get hp] at hrow
  cases hrow
  refine List.ext_getElem? fun i => ?_
  by_cases hi : i < (repsA R (ds.take j)).length
  · rw [chainsP_get (by omega), take_snoc' hd, List.filter_append, List.getElem?_set]
    by_cases e : partI R (repsA R ds) d = i
    · subst e
      rw [if_pos rfl, if_pos (by rw [chainsP_len]; exact hp)]
      simp
    · rw [if_neg e, chainsP_get hi]
      simp [e]
  · rw [List.getElem?_eq_none (by rw [chainsP_len]; omega), List.getElem?_eq_none (by rw [List.length_set, chainsP_len]; omega)]
theorem chainsP_new (hrel : Rel R ds) {j : Nat} {d : α} (hd : ds[j]? = some d) (hr : R d d = true) (ha : (repsA R (ds.take j)).any (fun r => R r d) = false) :
    chainsP R ds (j + 1) = (chainsP R ds j ++ [[]]).set (partI R (repsA R ds) d) ([] ++ [d]) := by
  have hp := part_new hd hr ha
  have hl : (repsA R (ds.take (j + 1))).length = (repsA R (ds.take j)).length + 1 := by rw [take_snoc' hd, repsA_new ha]; simp
  refine List.ext_getElem? fun i => ?_
  by_cases hi : i < (repsA R (ds.take j)).length + 1
  · rw [chainsP_get (by omega), take_snoc' hd, List.filter_append, List.getElem?_set]
    by_cases e : partI R (repsA R ds) d = i
    · rw [if_pos e, if_pos (by rw [List.length_append, chainsP_len]; simp; omega)]
      have hno : (ds.take j).filter (fun x => decide (partI R (repsA R ds) x = i)) = [] := by
        rw [List.filter_eq_nil_iff]
        intro x hx
        have h2 := part_old (ds := ds) (d := x) (reps_any (hrel.take j) x hx)
        simp only [decide_eq_true_eq]
        omega
      rw [hno]
      simp [e]
    · rw [if_neg e, List.getElem?_append_left (by rw [chainsP_len]; omega), chainsP_get (by omega)]
      simp [e]
  · rw [List.getElem?_eq_none (by rw [chainsP_len]; omega), List.getElem?_eq_none (by rw [List.length_set, List.length_append, chainsP_len]; simp; omega)]
end

/-! ### A slice of slices of dies that grow -/
structure Hdr where
  a : Option Addr
  n : Nat
  c : Nat
abbrev Hdr.v (h : Hdr) : Value := .slice h.a h.n h.c
def encH (h : Hdr) : List Value := [h.v]
theorem lenH (h : Hdr) : (encH h).length = 1 := rfl
theorem oneH (h : Hdr) : ∀ u ∈ encH h, u.oneCell' = true := by simp [encH, Value.oneCell']
theorem infoC : (Tryz.prog.info? 126).map (fun i => (i.zero, i.size, i.bytes)) = some (some (.slice none 0 0), 1, 24) := by kernel_rfl
abbrev OwnH (B : Nat) (w : World) (u : Value) (hs : List Hdr) : Prop := Own encH 1 126 B w u hs
structure ChSt (B : Nat) (w : World) (u : Value) (hs : List Hdr) (R : List (List Die)) : Prop where
  own : OwnH B w u hs
  len : hs.length = R.length
  row : ∀ (i : Nat) (h : Hdr) (r : List Die), hs[i]? = some h → R[i]? = some r → OwnD B w h.v r
  apart : ∀ (i j : Nat) (h k : Hdr), hs[i]? = some h → hs[j]? = some k → i ≠ j → Apart h.v k.v
section
variable {B : Nat} {w w' : World} {u : Value} {hs : List Hdr} {R : List (List Die)}
theorem row_ne {x : Value} {r : List Die} (h : OwnD B w x r) (ho : OwnH B w u hs) : x.ownBlock = none ∨ x.ownBlock ≠ u.ownBlock := by
  rcases h.2 with ⟨rfl, _⟩ | ⟨g, cap, cur, rfl, _, hg, _⟩
  · exact .inl rfl
  · exact .inr (own_block ho hg (by decide))
theorem ne_row {x : Value} {r : List Die} (h : OwnD B w x r) (ho : OwnH B w u hs) : u.ownBlock = none ∨ u.ownBlock ≠ x.ownBlock := by
  rcases row_ne h ho with e | e
  · rw [e]; cases u.ownBlock <;> simp
  · exact .inr fun e2 => e e2.symm
theorem chSt_nil (B : Nat) (w : World) : ChSt B w (.slice none 0 0) [] [] := ⟨own_nil _ _ _ _ _, rfl, fun i h r hh => by simp at hh, fun i j h k hh => by simp at hh⟩
theorem ChSt.below (h : ChSt B w u hs R) (hb : Below w.heap.size w w') : ChSt B w' u hs R := ⟨h.own.below hb, h.len, fun i x r h1 h2 => (h.row i x r h1 h2).below hb, h.apart⟩
theorem ChSt.push {v' : Value} (h : ChSt B w u hs R) (hown : OwnH B w' v' (hs ++ [⟨none, 0, 0⟩])) (hg : w.grownBy w' u.ownBlock) : ChSt B w' v' (hs ++ [⟨none, 0, 0⟩]) (R ++ [[]]) := by
  refine ⟨hown, by simp [h.len], fun i x r h1 h2 => ?_, fun i j x k h1 h2 hij => ?_⟩
  · rcases Nat.lt_or_ge i hs.length with hi | hi
    · rw [List.getElem?_append_left hi] at h1
      rw [List.getElem?_append_left (by rw [← h.len]; exact hi)] at h2
      have := h.row i x r h1 h2
      exact this.kept hg (row_ne this h.own)
    · have hl := lt_of_get h1
      simp at hl
      obtain rfl : i = hs.length := by omega
      rw [List.getElem?_append_right (Nat.le_refl _)] at h1
      rw [h.len, List.getElem?_append_right (Nat.le_refl _)] at h2
      simp at h1 h2
      subst h1; subst h2
      exact own_nil _ _ _ _ _
  · rcases Nat.lt_or_ge i hs.length with hi | hi
    · rw [List.getElem?_append_left hi] at h1
      rcases Nat.lt_or_ge j hs.length with hj | hj
      · rw [List.getElem?_append_left hj] at h2
        exact h.apart i j x k h1 h2 hij
      · have hl := lt_of_get h2
        simp at hl
        obtain rfl : j = hs.length := by omega
        rw [List.getElem?_append_right (Nat.le_refl _)] at h2
        simp at h2
        subst h2
        unfold Apart
        cases x.v.ownBlock <;> simp [Value.ownBlock]
    · have hl := lt_of_get h1
      simp at hl
      obtain rfl : i = hs.length := by omega
      rw [List.getElem?_append_right (Nat.le_refl _)] at h1
      simp at h1
      subst h1
      exact .inl rfl
theorem own_hdr {x : Value} {r : List Die} (h : OwnD B w x r) : ∃ k : Hdr, x = k.v := by
  rcases h.cases with ⟨rfl, rfl⟩ | ⟨g, cap, rfl, _⟩
  · exact ⟨⟨none, 0, 0⟩, rfl⟩
  · exact ⟨⟨_, _, _⟩, rfl⟩
theorem ChSt.put {gu n cap k : Nat} {h0 h1 : Hdr} {r0 r1 : List Die} (h : ChSt B w (.slice (some ⟨gu, 0, none⟩) n cap) hs R) (hn : n = hs.length) (hk : hs[k]? = some h0) (hr : R[k]? = some r0)
    (ho : OwnD B w' h1.v r1) (hg : w.grownBy w' h0.v.ownBlock) (hat : h1.v.ownBlock = h0.v.ownBlock ∨ h1.v.ownBlock = some w.heap.size) :
    ChSt B (w'.setCell ⟨gu, k, none⟩ h1.v) (.slice (some ⟨gu, 0, none⟩) n cap) (hs.set k h1) (R.set k r1) := by
  have hrow0 := h.row k h0 r0 hk hr
  have hu : OwnH B w' (.slice (some ⟨gu, 0, none⟩) n cap) hs := h.own.kept hg (ne_row hrow0 h.own)
  have hkl := lt_of_get hk
  have hset := setCells_grown gu (encH h1) w' (k * 1)
  have hput := hu.put lenH (by omega) hn (show k < n by omega) h1
  rw [show w'.setCell ⟨gu, k, none⟩ h1.v = w'.setCells gu (k * 1) (encH h1) by rw [Nat.mul_one]; rfl]
  have hlt : ∀ (i : Nat) (x : Hdr), hs[i]? = some x → ∀ g, x.v.ownBlock = some g → g < w.heap.size := fun i x hx g e => by
    obtain ⟨r, hr⟩ := get_of_lt (show i < R.length by rw [← h.len]; exact lt_of_get hx)
    exact ((h.row i x r hx hr).lt g e).2
  refine ⟨hput, by simp [h.len], fun i x r q1 q2 => ?_, fun i j x y q1 q2 hij => ?_⟩
  · by_cases e : k = i
    · subst e
      rw [List.getElem?_set_self hkl] at q1
      rw [List.getElem?_set_self (by rw [← h.len]; exact hkl)] at q2
      cases q1; cases q2
      exact ho.kept hset (row_ne ho hu)
    · rw [List.getElem?_set_ne e] at q1
      rw [List.getElem?_set_ne e] at q2
      have h3 := h.row i x r q1 q2
      have h4 := h3.kept hg (h.apart i k x h0 q1 hk (fun e2 => e e2.symm))
      exact h4.kept hset (row_ne h4 hu)
  · by_cases e : k = i
    · subst e
      rw [List.getElem?_set_self hkl] at q1
      cases q1
      rw [List.getElem?_set_ne hij] at q2
      exact (h.apart k j h0 y hk q2 hij).append hat (hlt j y q2)
    · rw [List.getElem?_set_ne e] at q1
      by_cases e2 : k = j
      · subst e2
        rw [List.getElem?_set_self hkl] at q2
        cases q2
        exact (h.apart i k x h0 q1 hk hij).append' hat (hlt i x q1)
      · rw [List.getElem?_set_ne e2] at q2
        exact h.apart i j x y q1 q2 hij
end
theorem ChSt.base {B B' : Nat} {w : World} {u : Value} {hs : List Hdr} {R : List (List Die)} (h : ChSt B w u hs R) (hB : B' ≤ B) : ChSt B' w u hs R := ⟨h.own.base hB, h.len, fun i x r h1 h2 => (h.row i x r h1 h2).base hB, h.apart⟩
theorem ChSt.len_le {B : Nat} {w : World} {u : Value} {hs : List Hdr} {R : List (List Die)} (h : ChSt B w u hs R) : ∃ A c, u = .slice A R.length c := by
  obtain ⟨A, c, e, _⟩ := h.own.slOf
  exact ⟨A, c, by rw [e, h.len]⟩
noncomputable def chainsG (g : Graph) : List (List Die) := chainsA (joinB (edgesG g)) (diesG g)
set_option maxHeartbeats 8000000 in
set_option maxRecDepth 100000 in
theorem Chains_ok (v : Value) (g : Graph) (w : World) (h : GraphAt w v g) :
    Calls Tryz.prog 74 #[v] w fun e w' => ∃ u hs, e = .returned (.tuple #[u, .int .i64 (validE g)]) ∧ ChSt w.heap.size w' u hs (chainsG g) ∧ Below w.heap.size w w' := by
  have h' := h
  obtain ⟨v1, v2, v3, rfl, ho, hr, hk⟩ := h
  obtain ⟨A1, c1, rfl, _, _, _⟩ := ho.cells
  obtain ⟨A2, c2, rfl, _, _, _⟩ := hr.cells
  obtain ⟨A3, c3, rfl, _, _, _⟩ := hk.cells
  obtain ⟨W0, hW0, Hz0, hb0, hlt0, hc0⟩ := boxed w #[.slice A1 g.obv.length c1, .slice A2 g.rev.length c2, .slice A3 g.links.length c3] 76
  have a0 := hc0 0 _ rfl; have a1 := hc0 1 _ rfl; have a2 := hc0 2 _ rfl
  have h1 := h'.below hb0
  clear hc0 ho hr hk
  go_enter Tryz.func74, Tryz.ntmps74
  go_wp2_with fail
  refine (cParts_ok _ g _ h1).mono ?_
  rintro e w2 ⟨up, rfl, hpo, hb2⟩
  have hp : Ints w2 up (partsG g) := hpo.slOf
  obtain ⟨Ap, cp, rfl, _, _, hpc⟩ := hp.cells
  have hw2 := below_trans hb0 hb2
  have a0 := cell_later hb2 a0; have a1 := cell_later hb2 a1; have a2 := cell_later hb2 a2
  have h2 := h1.below hb2
  clear hW0
  cases hg : graphB g
  · have hv : validE g = 1 := by simp [validE, hg]
    have hp0 : (partsG g).length = 0 := by rw [partsG, diesG, if_neg (by simp [hg])]; rfl
    have hq : chainsG g = [] := by rw [chainsG, diesG, if_neg (by simp [hg])]; rfl
    have HQ := Lib.hid hq; have HV := Lib.hid hv
    rw [hv, hp0]
    clear hp0 hq hv hg hpc a0 a1 a2 hp hpo
    go_wp2_with fail
    exact bodyPost_ret (v := .tuple #[.slice none 0 0, .int .i64 1]) (by simp [results, Tryz.results74, go_sem]) rfl ⟨_, _, by rw [HV.out], by rw [HQ.out]; exact chSt_nil _ _, hw2⟩
  have hv : validE g = 0 := by simp [validE, hg]
  have HV := Lib.hid hv
  rw [hv]
  have Hg := Lib.hid hg
  have hdl := dies_le hg
  have Hrel := Lib.hid (rel_join (E := edgesG g) (fun d hd => (dies_end hg d).1 hd))
  have HC : Hid (chainsG g = chainsA (joinB (edgesG g)) (diesG g)) := Lib.hid rfl
  have hpl : (partsG g).length = (diesG g).length := by rw [partsG, partsA, List.length_map]
  have Hpg := Lib.hid (fun (k : Nat) (d : Die) (hd : (diesG g)[k]? = some d) => show (partsG g)[k]? = some ((partI (joinB (edgesG g)) (repsA (joinB (edgesG g)) (diesG g)) d : Nat) : Int) by rw [partsG, partsA, List.getElem?_map, hd]; rfl)
  rw [hpl] at hpc ⊢
  clear hpl hv hg hp hpo
  go_wp2_with fail
  refine (Dies_ok _ g _ h2).mono ?_
  rintro e M ⟨ud, rfl, hd, hb3⟩
  obtain ⟨Ad, cd, rfl, _, _, hdc⟩ := hd.cells
  have hw3 := below_trans hw2 hb3
  rw [(show validE g = 0 from HV.out)]
  generalize hR : joinB (edgesG g) = R at Hrel HC Hpg
  generalize hds : diesG g = ds at Hrel HC Hpg hdl hpc hdc ⊢
  obtain ⟨iC, hiC, hzC, hkC, hbC⟩ := info_parts infoC
  obtain ⟨iD, hiD, hzD, hkD, hbD⟩ := info_parts infoD
  clear a0 a1 a2 hd hR hds
  go_wp2_with fail
  go_loopw [8, 26] (fun u i wr => ∃ (j : Nat) (hs : List Hdr), j ≤ ds.length ∧ i = .int .i64 j ∧ ChSt M.heap.size wr u hs (chainsP R ds j) ∧ Below M.heap.size M wr) (fun _ i _ => ds.length - (intOf i).toNat)
  case atStart => exact ⟨0, [], Nat.zero_le _, rfl, chSt_nil _ _, Below.refl _ _⟩
  case round =>
    obtain ⟨j, hs, hj, rfl, hCh, hb⟩ := hrel
    have hb2r := below_trans hb3 hb
    obtain ⟨Au, cu, rfl⟩ := hCh.len_le
    have hrl := repsA_len (R := R) (ds.take j)
    rw [List.length_take] at hrl
    by_cases hlt : j < ds.length
    · obtain ⟨bd, od, rfl, _, hdcell⟩ := hdc j hlt
      obtain ⟨bp, op, rfl, _, hpcell⟩ := hpc j hlt
      obtain ⟨d, hdj⟩ := get_of_lt hlt
      have HY := Lib.hid (fun w' hb' => hdcell w' hb' j d hdj)
      have z0 := hpcell wr hb2r j _ (Hpg.out j d hdj)
      have hrefl := Hrel.out.refl d (List.mem_of_getElem? hdj)
      have hlenP := chainsP_len (R := R) (ds := ds) j
      obtain ⟨P, hP⟩ : ∃ P, partI R (repsA R ds) d = P := ⟨_, rfl⟩
      obtain ⟨L, hL⟩ : ∃ L, (chainsP R ds j).length = L := ⟨_, rfl⟩
      rw [hP] at z0
      rw [hL] at hlenP hCh ⊢
      have hCL : hs.length = L := by rw [hCh.len, hL]
      have hMr := hb.size
      clear hdc hpc hdcell hpcell
      cases ha : (repsA R (ds.take j)).any (fun r => R r d)
      · have hpn := part_new hdj hrefl ha
        have hcn := Lib.hid (chainsP_new Hrel.out hdj hrefl ha)
        rw [hP] at hpn hcn
        have ePL : P = L := by omega
        subst ePL
        have HCL := Lib.hid hCL; have HL := Lib.hid hL
        have hl2 : hs.length ≤ 64 := by omega
        clear ha hpn hP hCL hL hlenP hdj hrefl
        go_wp2_with (at_builtin; refine wpList_append1 (enc := encH) (size := 1) (B := M.heap.size) rfl (.tmp 35) (.tmp 36) _ rfl 126 iC _ 24 Tryz.underlying54 hiC hzC hkC hbC rfl (by decide) rfl hCh.own ⟨none, 0, 0⟩ _ rfl lenH oneH _ rfl rfl (by omega) (by omega) hMr ?_; intro v' w5 hown' hgrow hat)
        have hCh1 := hCh.push hown' hgrow
        have hb5 := hb.grown hgrow hMr (fun g e => (hCh.own.lt g e).1)
        have hp1' : (hs ++ [(⟨none, 0, 0⟩ : Hdr)])[P]? = some ⟨none, 0, 0⟩ := by rw [← HCL.out, List.getElem?_append_right (Nat.le_refl _)]; simp
        have hr1' : (chainsP R ds j ++ [([] : List Die)])[P]? = some [] := by rw [← HL.out, List.getElem?_append_right (Nat.le_refl _)]; simp
        obtain ⟨r0, hr0⟩ : ∃ r0 : List Die, [] = r0 := ⟨_, rfl⟩
        obtain ⟨h0, hh0⟩ : ∃ h0 : Hdr, ⟨none, 0, 0⟩ = h0 := ⟨_, rfl⟩
        have hrl0 : r0.length ≤ j := by rw [← hr0]; simp
        have hco : Hid (chainsP R ds (j + 1) = (chainsP R ds j ++ [([] : List Die)]).set P (r0 ++ [d])) := Lib.hid (by rw [← hr0]; exact hcn.out)
        rw [hh0] at hp1' hCh1
        obtain ⟨R1, hR1⟩ : ∃ R1, chainsP R ds j ++ [([] : List Die)] = R1 := ⟨_, rfl⟩
        rw [hR1] at hCh1 hr1' hco
        rw [hr0] at hr1'
        obtain ⟨hs1, hhs1⟩ : ∃ hs1, hs ++ [h0] = hs1 := ⟨_, rfl⟩
        rw [hhs1] at hCh1 hp1'
        have hp1 := hp1'; have hr1 := hr1'
        clear hp1' hr1' hr0 hh0 hR1 hhs1 hown' hgrow hat hCh
        obtain ⟨gu, cu1, hue, hgu, hgul, hcn1, hcm1⟩ : ∃ gu cu1, v' = Value.slice (some ⟨gu, 0, none⟩) hs1.length cu1 ∧ M.heap.size ≤ gu ∧ gu < (w5).heap.size ∧ hs1.length ≤ cu1 ∧ cu1 ≤ maxLen := by
          rcases hCh1.own.cases with ⟨_, e⟩ | h
          · rw [e] at hp1; simp at hp1
          · exact h
        rw [hue] at hCh1 ⊢
        clear hue
        obtain ⟨N, hN⟩ : ∃ N, hs1.length = N := ⟨_, rfl⟩
        have HN := Lib.hid hN.symm
        rw [hN] at hCh1 hcn1 ⊢
        have hPN : P < N := by rw [← hN]; exact lt_of_get hp1
        have hPN1 : (P : Int) < (N : Int) := by omega
        have hP0 : (0 : Int) ≤ (P : Int) := by omega
        have hj1 : (j : Int) < (ds.length : Int) := by omega
        have hj0 : (0 : Int) ≤ (j : Int) := by omega
        have hcm2 : (cu1 : Int) ≤ 9223372036854775807 := by simp only [maxLen] at hcm1; omega
        have hb0 : Below M.heap.size M (w5) := hb5
        have hba : Below (w5).heap.size (w5) (w5).drew := (Below.refl _ _).drew
        obtain ⟨wa, hwa⟩ : ∃ W, (w5).drew = W := ⟨_, rfl⟩
        rw [hwa] at hba
        have hChA := hCh1.below hba
        have c0 : wa.cell? ⟨gu, P, none⟩ = some h0.v := by
          have := (hChA.own.cellsAt lenH HN.out hp1 (j := 0) rfl).1
          simpa using this
        have hbMa := hb0.trans (hba.mono hb0.size)
        obtain ⟨y0, y1⟩ := HY.out wa hbMa
        have hHeld : (fun w' : World => w'.cell? ⟨gu, P, none⟩ = some h0.v ∧ w'.cell? ⟨bd, od + j * 2, none⟩ = some (.int .i64 d.side) ∧ w'.cell? ⟨bd, od + j * 2 + 1, none⟩ = some (.int .i64 d.num)) wa := ⟨c0, y0, y1⟩
        have HH := Lib.hid hHeld
        obtain ⟨ha0, hn0, hc0⟩ := h0
        have hrow := hChA.row P _ r0 hp1 hr1
        refine wp_region_S 13 (fun w' => w'.cell? ⟨gu, P, none⟩ = some (.slice ha0 hn0 hc0) ∧ w'.cell? ⟨bd, od + j * 2, none⟩ = some (.int .i64 d.side) ∧ w'.cell? ⟨bd, od + j * 2 + 1, none⟩ = some (.int .i64 d.num)) (by kernel_rfl) (by decide) ?_
        rw [hwa]
        clear hwa c0 y0 y1 hN
        refine wpAnyS_takeD 0 (some 38) (.slice (some ⟨gu, 0, none⟩) N cu1) (by rfl) (by rfl) (by kernel_rfl) (by exact fun _ _ _ h => h) (by rfl) (fun w' hS => by go_simp) hHeld ?_
        simp only [Act.put, List.setIfInBounds_toArray, List.set_cons_succ, List.set_cons_zero]
        refine wpAnyS_takeD 1 (some 39) (.int .i64 (P : Int)) (by rfl) (by rfl) (by kernel_rfl) (by exact fun _ _ _ h => h) (by rfl) (fun w' hS => by go_simp) hHeld ?_
        simp only [Act.put, List.setIfInBounds_toArray, List.set_cons_succ, List.set_cons_zero]
        refine wpAnyS_takeD 2 (some 40) (.slice (some ⟨gu, 0, none⟩) N cu1) (by rfl) (by rfl) (by kernel_rfl) (by exact fun _ _ _ h => h) (by rfl) (fun w' hS => by go_simp) hHeld ?_
        simp only [Act.put, List.setIfInBounds_toArray, List.set_cons_succ, List.set_cons_zero]
        refine wpAnyS_takeD 3 (some 41) (.int .i64 (P : Int)) (by rfl) (by rfl) (by kernel_rfl) (by exact fun _ _ _ h => h) (by rfl) (fun w' hS => by go_simp) hHeld ?_
        simp only [Act.put, List.setIfInBounds_toArray, List.set_cons_succ, List.set_cons_zero]
        refine wpAnyS_takeD 4 (some 42) (.pointer (some ⟨gu, P, none⟩)) (by rfl) (by rfl) (by kernel_rfl) (by exact fun _ _ _ h => h) (by rfl) (fun w' hS => by go_simp) hHeld ?_
        simp only [Act.put, List.setIfInBounds_toArray, List.set_cons_succ, List.set_cons_zero]
        refine wpAnyS_takeD 5 (some 43) (.slice ha0 hn0 hc0) (by rfl) (by rfl) (by kernel_rfl) (by exact fun _ _ _ h => h) (by rfl) (fun w' hS => by (obtain ⟨x0, x1, x2⟩ := hS; go_simp)) hHeld ?_
        simp only [Act.put, List.setIfInBounds_toArray, List.set_cons_succ, List.set_cons_zero]
        refine wpAnyS_takeD 6 (some 44) (.slice (some ⟨bd, od, none⟩) ds.length cd) (by rfl) (by rfl) (by kernel_rfl) (by exact fun _ _ _ h => h) (by rfl) (fun w' hS => by go_simp) hHeld ?_
        simp only [Act.put, List.setIfInBounds_toArray, List.set_cons_succ, List.set_cons_zero]
        refine wpAnyS_takeD 7 (some 45) (.int .i64 (j : Int)) (by rfl) (by rfl) (by kernel_rfl) (by exact fun _ _ _ h => h) (by rfl) (fun w' hS => by go_simp) hHeld ?_
        simp only [Act.put, List.setIfInBounds_toArray, List.set_cons_succ, List.set_cons_zero]
        refine wpAnyS_takeD 8 (some 46) (.pointer (some ⟨bd, od + j * 2, none⟩)) (by rfl) (by rfl) (by kernel_rfl) (by exact fun _ _ _ h => h) (by rfl) (fun w' hS => by go_simp) hHeld ?_
        simp only [Act.put, List.setIfInBounds_toArray, List.set_cons_succ, List.set_cons_zero]
        refine wpAnyS_takeD 9 (some 47) (vlD d) (by rfl) (by rfl) (by kernel_rfl) (by exact fun _ _ _ h => h) (by rfl) (fun w' hS => by (obtain ⟨x0, x1, x2⟩ := hS; go_simp)) hHeld ?_
        simp only [Act.put, List.setIfInBounds_toArray, List.set_cons_succ, List.set_cons_zero]
        clear hHeld
        obtain ⟨V, hV, HzV, hbV, hltV, _⟩ := boxed wa #[.int .i64 d.side, .int .i64 d.num] 143
        have hkV : V.heap[wa.heap.size]? = some (.cells (encD d).toArray 143 (0, 0)) := by rw [← hV]; exact heap_alloc_new _ _
        have hChV := hChA.below hbV
        have hrowV := hrow.below hbV
        have hbMV := hbMa.trans (hbV.mono hbMa.size)
        have hVs := hbMV.size
        refine wpAnyS_one 10 (by kernel_rfl) (by rfl) (by decide) (fun K hK => ?_)
        have HK := Lib.hid hK; clear hK
        rw [if_pos (by rfl)]
        go_simp
        refine HK.out _ _ ⟨cell_later hbV HH.out.1, cell_later hbV HH.out.2.1, cell_later hbV HH.out.2.2⟩ ?_
        clear HK
        refine wpAnyS_one 11 (by kernel_rfl) (by rfl) (by decide) (fun K hK => ?_)
        have HK := Lib.hid hK; clear hK
        refine step_append_sl (by rfl) (.tmp 43) (.tmp 48) _ (by rfl) iD _ 16 Tryz.underlying126 hiD hzD hkD hbD (by rfl) (by decide) oneD (by rfl) hrowV _ 1 1 [d] (by rfl) (by rfl) (sl_one (by rfl) hkV) (by simp; omega) (by simp; omega) hVs ?_
        intro v'' w7 ho7 hg7 hat7
        have hbM7 := hbMV.grown hg7 hVs (fun g e => (hrowV.lt g e).1)
        obtain ⟨cgu, hfree⟩ : w7.cell? ⟨gu, P, none⟩ = some (.slice ha0 hn0 hc0) ∧ w7.frozen? ⟨gu, P, none⟩ = false := by
          have := (hChV.own.kept hg7 (ne_row hrowV hChV.own)).cellsAt lenH HN.out hp1 (j := 0) rfl
          simpa using this
        have hHeld : (fun w' : World => w'.cell? ⟨gu, P, none⟩ = some (.slice ha0 hn0 hc0) ∧ w'.cell? ⟨bd, od + j * 2, none⟩ = some (.int .i64 d.side) ∧ w'.cell? ⟨bd, od + j * 2 + 1, none⟩ = some (.int .i64 d.num)) w7 := ⟨cgu, (HY.out w7 hbM7).1, (HY.out w7 hbM7).2⟩
        refine HK.out _ _ hHeld ?_
        clear HK
        refine wpAnyS_takeD 12 (some 50) (.pointer (some ⟨gu, P, none⟩)) (by rfl) (by rfl) (by kernel_rfl) (by exact fun _ _ _ h => h) (by rfl) (fun w' hS => by go_simp) hHeld ?_
        simp only [Act.put, List.setIfInBounds_toArray]
        clear hHeld
        obtain ⟨h1, rfl⟩ := own_hdr ho7
        have hfin := hChV.put HN.out hp1 hr1 ho7 hg7 hat7
        have hbF : Below M.heap.size M (w7.setCell ⟨gu, P, none⟩ h1.v) := hbM7.grown (setCells_grown gu [h1.v] w7 P) hbM7.size (fun g e => by cases e; exact hgu)
        have HF := Lib.hid hfin; have HB := Lib.hid hbF
        refine (show tailOf _ _ _ _ _ _ _ _ from ⟨by kernel_rfl, ?_⟩)
        simp only [List.drop_succ_cons, List.drop_zero]
        go_wp2_with fail
        refine ⟨?rel, ?measure⟩
        case rel => exact ⟨j + 1, _, by omega, by go_num, by rw [hco.out]; exact HF.out, HB.out⟩
        case measure => first | (simp [intOf]; done) | (simp [intOf]; omega)
      · have hpo := part_old (ds := ds) (d := d) ha
        obtain ⟨r0, hr0⟩ := get_of_lt (show P < (chainsP R ds j).length by rw [hL, hlenP, ← hP]; exact hpo)
        have hco := Lib.hid (chainsP_old hdj ha (by rw [hP]; exact hr0))
        rw [hP] at hco
        obtain ⟨h0, hh0⟩ := get_of_lt (show P < hs.length by rw [hCL, hlenP, ← hP]; exact hpo)
        have hrl0 := chainsP_row_len hr0
        have hne1 : ((P : Int) == (L : Int)) = false := by simp; omega
        have hne2 : (P == L) = false := by simp; omega
        obtain ⟨hs1, rfl⟩ : ∃ hs1, hs1 = hs := ⟨_, rfl⟩
        have hp1 := hh0; have hr1 := hr0
        have Hp1 := Lib.hid hp1; have Hr1 := Lib.hid hr1; have HCL := Lib.hid hCL
        clear ha hpo hP hCL hL hdj hrefl hp1 hr1 hh0 hr0
        go_wp2_with fail
        have hp1 := Hp1.out; have hr1 := Hr1.out
        have hCh1 := hCh
        obtain ⟨gu, cu1, hue, hgu, hgul, hcn1, hcm1⟩ : ∃ gu cu1, (Value.slice Au L cu) = Value.slice (some ⟨gu, 0, none⟩) hs1.length cu1 ∧ M.heap.size ≤ gu ∧ gu < (wr).heap.size ∧ hs1.length ≤ cu1 ∧ cu1 ≤ maxLen := by
          rcases hCh1.own.cases with ⟨_, e⟩ | h
          · rw [e] at hp1; simp at hp1
          · exact h
        rw [hue] at hCh1 ⊢
        clear hue
        obtain ⟨N, hN⟩ : ∃ N, hs1.length = N := ⟨_, rfl⟩
        have HN := Lib.hid hN.symm
        rw [hN] at hCh1 hcn1 ⊢
        have hPN : P < N := by rw [← hN]; exact lt_of_get hp1
        have hPN1 : (P : Int) < (N : Int) := by omega
        have hP0 : (0 : Int) ≤ (P : Int) := by omega
        have hj1 : (j : Int) < (ds.length : Int) := by omega
        have hj0 : (0 : Int) ≤ (j : Int) := by omega
        have hcm2 : (cu1 : Int) ≤ 9223372036854775807 := by simp only [maxLen] at hcm1; omega
        have hb0 : Below M.heap.size M (wr) := hb
        have hba : Below (wr).heap.size (wr) (wr).drew := (Below.refl _ _).drew
        obtain ⟨wa, hwa⟩ : ∃ W, (wr).drew = W := ⟨_, rfl⟩
        rw [hwa] at hba
        have hChA := hCh1.below hba
        have c0 : wa.cell? ⟨gu, P, none⟩ = some h0.v := by
          have := (hChA.own.cellsAt lenH HN.out hp1 (j := 0) rfl).1
          simpa using this
        have hbMa := hb0.trans (hba.mono hb0.size)
        obtain ⟨y0, y1⟩ := HY.out wa hbMa
        have hHeld : (fun w' : World => w'.cell? ⟨gu, P, none⟩ = some h0.v ∧ w'.cell? ⟨bd, od + j * 2, none⟩ = some (.int .i64 d.side) ∧ w'.cell? ⟨bd, od + j * 2 + 1, none⟩ = some (.int .i64 d.num)) wa := ⟨c0, y0, y1⟩
        have HH := Lib.hid hHeld
        obtain ⟨ha0, hn0, hc0⟩ := h0
        have hrow := hChA.row P _ r0 hp1 hr1
        refine wp_region_S 13 (fun w' => w'.cell? ⟨gu, P, none⟩ = some (.slice ha0 hn0 hc0) ∧ w'.cell? ⟨bd, od + j * 2, none⟩ = some (.int .i64 d.side) ∧ w'.cell? ⟨bd, od + j * 2 + 1, none⟩ = some (.int .i64 d.num)) (by kernel_rfl) (by decide) ?_
        rw [hwa]
        clear hwa c0 y0 y1 hN
        refine wpAnyS_takeD 0 (some 38) (.slice (some ⟨gu, 0, none⟩) N cu1) (by rfl) (by rfl) (by kernel_rfl) (by exact fun _ _ _ h => h) (by rfl) (fun w' hS => by go_simp) hHeld ?_
        simp only [Act.put, List.setIfInBounds_toArray, List.set_cons_succ, List.set_cons_zero]
        refine wpAnyS_takeD 1 (some 39) (.int .i64 (P : Int)) (by rfl) (by rfl) (by kernel_rfl) (by exact fun _ _ _ h => h) (by rfl) (fun w' hS => by go_simp) hHeld ?_
        simp only [Act.put, List.setIfInBounds_toArray, List.set_cons_succ, List.set_cons_zero]
        refine wpAnyS_takeD 2 (some 40) (.slice (some ⟨gu, 0, none⟩) N cu1) (by rfl) (by rfl) (by kernel_rfl) (by exact fun _ _ _ h => h) (by rfl) (fun w' hS => by go_simp) hHeld ?_
        simp only [Act.put, List.setIfInBounds_toArray, List.set_cons_succ, List.set_cons_zero]
        refine wpAnyS_takeD 3 (some 41) (.int .i64 (P : Int)) (by rfl) (by rfl) (by kernel_rfl) (by exact fun _ _ _ h => h) (by rfl) (fun w' hS => by go_simp) hHeld ?_
        simp only [Act.put, List.setIfInBounds_toArray, List.set_cons_succ, List.set_cons_zero]
        refine wpAnyS_takeD 4 (some 42) (.pointer (some ⟨gu, P, none⟩)) (by rfl) (by rfl) (by kernel_rfl) (by exact fun _ _ _ h => h) (by rfl) (fun w' hS => by go_simp) hHeld ?_
        simp only [Act.put, List.setIfInBounds_toArray, List.set_cons_succ, List.set_cons_zero]
        refine wpAnyS_takeD 5 (some 43) (.slice ha0 hn0 hc0) (by rfl) (by rfl) (by kernel_rfl) (by exact fun _ _ _ h => h) (by rfl) (fun w' hS => by (obtain ⟨x0, x1, x2⟩ := hS; go_simp)) hHeld ?_
        simp only [Act.put, List.setIfInBounds_toArray, List.set_cons_succ, List.set_cons_zero]
        refine wpAnyS_takeD 6 (some 44) (.slice (some ⟨bd, od, none⟩) ds.length cd) (by rfl) (by rfl) (by kernel_rfl) (by exact fun _ _ _ h => h) (by rfl) (fun w' hS => by go_simp) hHeld ?_
        simp only [Act.put, List.setIfInBounds_toArray, List.set_cons_succ, List.set_cons_zero]
        refine wpAnyS_takeD 7 (some 45) (.int .i64 (j : Int)) (by rfl) (by rfl) (by kernel_rfl) (by exact fun _ _ _ h => h) (by rfl) (fun w' hS => by go_simp) hHeld ?_
        simp only [Act.put, List.setIfInBounds_toArray, List.set_cons_succ, List.set_cons_zero]
        refine wpAnyS_takeD 8 (some 46) (.pointer (some ⟨bd, od + j * 2, none⟩)) (by rfl) (by rfl) (by kernel_rfl) (by exact fun _ _ _ h => h) (by rfl) (fun w' hS => by go_simp) hHeld ?_
        simp only [Act.put, List.setIfInBounds_toArray, List.set_cons_succ, List.set_cons_zero]
        refine wpAnyS_takeD 9 (some 47) (vlD d) (by rfl) (by rfl) (by kernel_rfl) (by exact fun _ _ _ h => h) (by rfl) (fun w' hS => by (obtain ⟨x0, x1, x2⟩ := hS; go_simp)) hHeld ?_
        simp only [Act.put, List.setIfInBounds_toArray, List.set_cons_succ, List.set_cons_zero]
        clear hHeld
        obtain ⟨V, hV, HzV, hbV, hltV, _⟩ := boxed wa #[.int .i64 d.side, .int .i64 d.num] 143
        have hkV : V.heap[wa.heap.size]? = some (.cells (encD d).toArray 143 (0, 0)) := by rw [← hV]; exact heap_alloc_new _ _
        have hChV := hChA.below hbV
        have hrowV := hrow.below hbV
        have hbMV := hbMa.trans (hbV.mono hbMa.size)
        have hVs := hbMV.size
        refine wpAnyS_one 10 (by kernel_rfl) (by rfl) (by decide) (fun K hK => ?_)
        have HK := Lib.hid hK; clear hK
        rw [if_pos (by rfl)]
        go_simp
        refine HK.out _ _ ⟨cell_later hbV HH.out.1, cell_later hbV HH.out.2.1, cell_later hbV HH.out.2.2⟩ ?_
        clear HK
        refine wpAnyS_one 11 (by kernel_rfl) (by rfl) (by decide) (fun K hK => ?_)
        have HK := Lib.hid hK; clear hK
        refine step_append_sl (by rfl) (.tmp 43) (.tmp 48) _ (by rfl) iD _ 16 Tryz.underlying126 hiD hzD hkD hbD (by rfl) (by decide) oneD (by rfl) hrowV _ 1 1 [d] (by rfl) (by rfl) (sl_one (by rfl) hkV) (by simp; omega) (by simp; omega) hVs ?_
        intro v'' w7 ho7 hg7 hat7
        have hbM7 := hbMV.grown hg7 hVs (fun g e => (hrowV.lt g e).1)
        obtain ⟨cgu, hfree⟩ : w7.cell? ⟨gu, P, none⟩ = some (.slice ha0 hn0 hc0) ∧ w7.frozen? ⟨gu, P, none⟩ = false := by
          have := (hChV.own.kept hg7 (ne_row hrowV hChV.own)).cellsAt lenH HN.out hp1 (j := 0) rfl
          simpa using this
        have hHeld : (fun w' : World => w'.cell? ⟨gu, P, none⟩ = some (.slice ha0 hn0 hc0) ∧ w'.cell? ⟨bd, od + j * 2, none⟩ = some (.int .i64 d.side) ∧ w'.cell? ⟨bd, od + j * 2 + 1, none⟩ = some (.int .i64 d.num)) w7 := ⟨cgu, (HY.out w7 hbM7).1, (HY.out w7 hbM7).2⟩
        refine HK.out _ _ hHeld ?_
        clear HK
        refine wpAnyS_takeD 12 (some 50) (.pointer (some ⟨gu, P, none⟩)) (by rfl) (by rfl) (by kernel_rfl) (by exact fun _ _ _ h => h) (by rfl) (fun w' hS => by go_simp) hHeld ?_
        simp only [Act.put, List.setIfInBounds_toArray]
        clear hHeld
        obtain ⟨h1, rfl⟩ := own_hdr ho7
        have hfin := hChV.put HN.out hp1 hr1 ho7 hg7 hat7
        have hbF : Below M.heap.size M (w7.setCell ⟨gu, P, none⟩ h1.v) := hbM7.grown (setCells_grown gu [h1.v] w7 P) hbM7.size (fun g e => by cases e; exact hgu)
        have HF := Lib.hid hfin; have HB := Lib.hid hbF
        refine (show tailOf _ _ _ _ _ _ _ _ from ⟨by kernel_rfl, ?_⟩)
        simp only [List.drop_succ_cons, List.drop_zero]
        go_wp2_with fail
        refine ⟨?rel, ?measure⟩
        case rel => exact ⟨j + 1, _, by omega, by go_num, by rw [hco.out]; exact HF.out, HB.out⟩
        case measure => first | (simp [intOf]; done) | (simp [intOf]; omega)
    · have ej : j = ds.length := by omega
      subst ej
      rw [chainsP_all, ← HC.out] at hCh ⊢
      have HCh := Lib.hid (hCh.base (show w.heap.size ≤ M.heap.size from hw3.size))
      clear hCh hdc hpc
      go_wp2_with fail
      exact bodyPost_ret (v := .tuple #[.slice Au (chainsG g).length cu, .int .i64 0]) (by simp [results, Tryz.results74, go_sem]) rfl ⟨_, _, by rw [HV.out], HCh.out, hw3.trans (hb.mono hw3.size)⟩
theorem chainsG_len (g : Graph) : (chainsG g).length = (repsA (joinB (edgesG g)) (diesG g)).length := by rw [chainsG, ← chainsP_all, chainsP_len, List.take_length]
end Go.Proofs.YthnckicnnhkkaaaGreat
