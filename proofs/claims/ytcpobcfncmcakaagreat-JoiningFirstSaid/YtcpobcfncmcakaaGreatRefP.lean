/- The reference: First of chapter 17, Path of chapter 14, Bottleneck of chapter 17. Condition: the arguments in their memory. -/
import Derived.Test.YtcpobcfncmcakaaGreatRefY
namespace Go.Proofs.YtcpobcfncmcakaaGreat
open Go.RowKit Go.Shelf Go.Maps

set_option maxHeartbeats 8000000 in
set_option maxRecDepth 100000 in
theorem First17_ok (v : Value) (l : List Spec) (da db : Die) (w : World) (h : Specs w v l) (hl : l.length ≤ 100) :
    Calls Tryz.prog 10 #[v, vlD da, vlD db] w fun e w' => e = .returned (.tuple #[.int .i64 (firstR l da db).1, .int .i64 (firstR l da db).2]) ∧ Below w.heap.size w w' := by
  obtain ⟨X0, hX0, HzX0, hbX0, hltX0, hcX0⟩ := boxed w #[.int .i64 da.side, .int .i64 da.num] 24
  obtain ⟨X1, hX1, HzX1, hbX1, hltX1, hcX1⟩ := boxed X0 #[.int .i64 db.side, .int .i64 db.num] 24
  have hX := below_trans hbX0 hbX1
  have h0 := h.below hX
  have a0 := cell_later hbX1 (hcX0 0 _ rfl); have a1 := cell_later hbX1 (hcX0 1 _ rfl)
  have b0 := hcX1 0 _ rfl; have b1 := hcX1 1 _ rfl
  clear hcX0 hcX1
  obtain ⟨A, c, rfl, _, _, hc⟩ := h.cells
  go_enter Tryz.func10, Tryz.ntmps10
  go_wp2_with fail
  refine (Of_ok13 _ l _ h0 (by omega)).mono ?_
  rintro e w1 ⟨ug, rfl, ⟨v1, v2, v3, rfl, ⟨A1, c1, rfl, _⟩, ⟨A2, c2, rfl, _⟩, ⟨A3, c3, rfl, _⟩⟩, hb1⟩
  obtain ⟨W1, W2, hW1, hW2, HzW2, hkW1, hkW2, hbW2, hltW2⟩ := fresh w1 [.slice none 0 0, .slice none 0 0, .slice none 0 0] [.slice A1 (ofG l).obv.length c1, .slice A2 (ofG l).rev.length c2, .slice A3 (ofG l).links.length c3] 55 rfl
  have hsW2 : ((W1.setCell ⟨w1.heap.size, 0, none⟩ (.slice A1 (ofG l).obv.length c1)).setCell ⟨w1.heap.size, 1, none⟩ (.slice A2 (ofG l).rev.length c2)).setCell ⟨w1.heap.size, 2, none⟩ (.slice A3 (ofG l).links.length c3) = W2 := hW2
  clear hW2
  obtain ⟨⟨z0, z1, z2⟩, f0, f1, f2⟩ := cells3 hkW1
  clear hkW1 hkW2
  have hbX := below_trans hb1 hbW2
  have a0 := cell_later hbX a0; have a1 := cell_later hbX a1; have b0 := cell_later hbX b0; have b1 := cell_later hbX b1
  have hw2 := below_trans hX hbX
  by_cases hE : ofE l = 0
  case neg =>
    have hd : (ofE l != 0) = true := by simpa using hE
    have HE := Lib.hid hE; clear hE
    clear a0 a1 b0 b1
    go_wp2_with fail
    refine bodyPost_ret (v := .tuple #[.int .i64 0, .int .i64 (ofE l)]) (by simp [results, Tryz.results10, go_sem]) rfl ⟨?_, hw2⟩
    rw [firstR, if_neg HE.out]
  have hd : (ofE l != 0) = false := by simp [hE]
  have HE := Lib.hid hE
  have hl64 : l.length ≤ 64 := (checkE_zero (ofE_zero hE).1).1
  clear hE hX0 hX1
  go_wp2_with fail
  clear z0 z1 z2 f0 f1 f2 hsW2 hW1
  have HC := Lib.hid (fun (w' : World) (hb : Below W2.heap.size W2 w') => (⟨cell_later hb a0, cell_later hb a1, cell_later hb b0, cell_later hb b1⟩ : _ ∧ _ ∧ _ ∧ _))
  clear a0 a1 b0 b1
  go_loopw [10] (fun i wr => ∃ k : Nat, k ≤ l.length ∧ i = .int .i64 k ∧ Below W2.heap.size W2 wr ∧ Hid (∀ j, j < k → joinB (edgesS (l.take (j + 1))) da db = false)) (fun i _ => l.length - (intOf i).toNat)
  case atStart => exact ⟨0, Nat.zero_le _, rfl, Below.refl _ _, Lib.hid (fun j hj => absurd hj (by omega))⟩
  case round =>
    obtain ⟨k, hk, rfl, hb, HN⟩ := hrel
    have hwr := below_trans hw2 hb
    by_cases hlt : k < l.length
    · obtain ⟨bo, o, rfl, _, hcb⟩ := hc k hlt
      obtain ⟨x, hx⟩ := get_of_lt hlt
      have HY := Lib.hid (fun w' hb' => (hcb w' hb' k x hx).1)
      have Hx := Lib.hid hx
      have hof := of_take HE.out (k + 1)
      have Hj := Lib.hid (join_of hof da db)
      have Hv := Lib.hid (of_valid hof)
      have hk1 : (k : Int) < (l.length : Int) := by omega
      have hk0 : (0 : Int) ≤ (k : Int) := by omega
      have hkw : IntKind.i64.wrap ((k : Int) + 1) = (k : Int) + 1 := IntWalk.i64_in _ (by omega)
      clear hc hcb hx hof
      go_wp2_with fail
      have hba : Below wr.heap.size wr wr.drew := (Below.refl _ _).drew
      obtain ⟨wa, hwa⟩ : ∃ W, wr.drew = W := ⟨_, rfl⟩
      rw [hwa] at hba
      have hbWa := below_trans hb hba
      have hHeld : (fun w' : World => Below W2.heap.size W2 w') wa := hbWa
      refine wp_region_S 6 (fun w' => Below W2.heap.size W2 w') (by kernel_rfl) (by decide) ?_
      rw [hwa]
      clear hwa
      refine wpAnyS_takeD 0 (some 25) (.slice (some ⟨bo, o, none⟩) l.length c) (by rfl) (by rfl) (by kernel_rfl) (by exact fun _ _ _ h => h) (by rfl) (fun w' hS => by go_simp) hHeld ?_
      simp only [Act.put, List.setIfInBounds_toArray, List.set_cons_succ, List.set_cons_zero]
      refine wpAnyS_takeD 1 (some 26) (.int .i64 (k : Int)) (by rfl) (by rfl) (by kernel_rfl) (by exact fun _ _ _ h => h) (by rfl) (fun w' hS => by go_simp) hHeld ?_
      simp only [Act.put, List.setIfInBounds_toArray, List.set_cons_succ, List.set_cons_zero]
      refine wpAnyS_takeD 2 (some 27) (.int .i64 ((k : Int) + 1)) (by rfl) (by rfl) (by kernel_rfl) (by exact fun _ _ _ h => h) (by rfl) (fun w' hS => by go_simp) hHeld ?_
      simp only [Act.put, List.setIfInBounds_toArray, List.set_cons_succ, List.set_cons_zero]
      refine wpAnyS_takeD 4 (some 29) (vlD da) (by rfl) (by rfl) (by kernel_rfl) (by exact fun _ _ _ h => h) (by rfl) (fun w' hS => by (obtain ⟨x0, x1, x2, x3⟩ := HC.out w' hS; go_simp)) hHeld ?_
      simp only [Act.put, List.setIfInBounds_toArray, List.set_cons_succ, List.set_cons_zero]
      refine wpAnyS_takeD 5 (some 30) (vlD db) (by rfl) (by rfl) (by kernel_rfl) (by exact fun _ _ _ h => h) (by rfl) (fun w' hS => by (obtain ⟨x0, x1, x2, x3⟩ := HC.out w' hS; go_simp)) hHeld ?_
      simp only [Act.put, List.setIfInBounds_toArray, List.set_cons_succ, List.set_cons_zero]
      clear hHeld hkw
      refine wpAnyS_one 3 (by kernel_rfl) (by rfl) (by decide) (fun K hK => ?_)
      have HK := Lib.hid hK; clear hK
      rw [if_pos (by rfl)]
      go_simp
      refine (show Calls Tryz.prog 43 #[.slice (some ⟨bo, o, none⟩) l.length c, .int .i64 ((k : Int) + 1)] wa _ from after17_ok _ l (k + 1) wa (h.below (below_trans hw2 hbWa)) (by omega) hl).mono ?_
      rintro e w4 ⟨u, rfl, hg, hb4⟩
      have hbW4 := below_trans hbWa hb4
      refine HK.out _ _ hbW4 ?_
      clear HK
      refine (show tailOf _ _ _ _ _ _ _ _ from ⟨by kernel_rfl, ?_⟩)
      simp only [List.drop_succ_cons, List.drop_zero]
      have HJc := Joined14_ok _ (ofG (l.take (k + 1))) Hv.out da db w4 hg
      rw [Hj.out] at HJc
      clear hg
      cases hj : joinB (edgesS (l.take (k + 1))) da db
      · rw [hj] at HJc
        have HJc' := Lib.hid HJc
        have HN' : Hid (∀ j, j < k + 1 → joinB (edgesS (l.take (j + 1))) da db = false) := Lib.hid (fun j hj' => by
          rcases Nat.lt_or_ge j k with h1 | h1
          · exact HN.out j h1
          · rw [show j = k by omega]; exact hj)
        clear HJc hj
        go_wp2_with fail
        refine HJc'.out.mono ?_
        rintro e w5 ⟨rfl, hb5⟩
        have hbW5 := below_trans hbW4 hb5
        go_wp2_with fail
        refine ⟨?rel, ?measure⟩
        case rel => exact ⟨k + 1, by omega, by go_num, hbW5, HN'⟩
        case measure => first | (simp [intOf]; done) | (simp [intOf]; omega)
      · rw [hj] at HJc
        have HJc' := Lib.hid HJc
        have HF := Lib.hid (find_at hlt hj HN.out)
        clear HJc hj
        go_wp2_with fail
        refine HJc'.out.mono ?_
        rintro e w5 ⟨rfl, hb5⟩
        have hw5 := below_trans hw2 (below_trans hbW4 hb5)
        have y0 := HY.out w5 hw5
        go_wp2_with fail
        refine bodyPost_ret (v := .tuple #[.int .i64 x.id, .int .i64 0]) (by simp [results, Tryz.results10, go_sem]) rfl ⟨?_, hw5⟩
        rw [firstR, if_pos HE.out, firstK, HF.out]
        simp [Hx.out]
    · have e1 : k = l.length := by omega
      subst e1
      have HF := Lib.hid (find_no HN.out)
      clear hc
      go_wp2_with fail
      refine bodyPost_ret (v := .tuple #[.int .i64 0, .int .i64 7]) (by simp [results, Tryz.results10, go_sem]) rfl ⟨?_, hwr⟩
      rw [firstR, if_pos HE.out, firstK, HF.out]

/-- A die in a block of its own. -/
def BlkD (w : World) (b : Nat) (d : Die) : Prop := w.heap[b]? = some (.cells [.int .i64 d.side, .int .i64 d.num].toArray 24 (0, 0))
theorem BlkD.below {w w' : World} {b : Nat} {d : Die} (h : BlkD w b d) (hb : Below w.heap.size w w') : BlkD w' b d := heap_below h hb (heap_lt h)
theorem pathW_none {g : Graph} {f : Die → Int} {s : Die} (h : FarAt g s f) {a : Die} {m : Nat} (ha : f a = (m : Int) + 1) (hn : ∀ x ∈ g.links, toK f m a x = false) : False := by
  obtain ⟨e, h1, h2⟩ := h.pred a (by omega)
  obtain ⟨x, hx, hxe⟩ := acr_nbr.1 h1
  have := hn x hx
  rw [toK, hxe] at this
  simp at this
  omega
theorem find_take {p : Link → Bool} {l : List Link} {i : Nat} {x : Link} (hx : l[i]? = some x) (hp : p x = true) (hn : ∀ y ∈ l.take i, p y = false) : l.find? p = some x := by
  have : l = l.take i ++ x :: l.drop (i + 1) := by
    obtain ⟨h1, h2⟩ := List.getElem?_eq_some_iff.1 hx
    conv => lhs; rw [← List.take_append_drop i l, List.drop_eq_getElem_cons h1, h2]
  rw [this, List.find?_append]
  have h0 : (l.take i).find? p = none := List.find?_eq_none.2 fun y hy => by rw [hn y hy]; simp
  rw [h0, List.find?_cons, hp]; rfl
theorem farG_le (g : Graph) (s d : Die) : farG g s d ≤ (diesG g).length + 1 := by
  unfold farG
  split
  · rcases (far_rounds g s (diesG g).length).rng d with h | h <;> omega
  · show (-1 : Int) ≤ _
    omega
/-- Two dies change places. -/
theorem swap2 {V : World} {b1 b2 B : Nat} {x y : Die} (h1 : BlkD V b1 x) (h2 : BlkD V b2 y) (hne : b1 ≠ b2) (hB1 : B ≤ b1) (hB2 : B ≤ b2) (hBV : B ≤ V.heap.size) :
    ∃ W, (((V.setCell ⟨b1, 0, none⟩ (.int .i64 y.side)).setCell ⟨b1, 1, none⟩ (.int .i64 y.num)).setCell ⟨b2, 0, none⟩ (.int .i64 x.side)).setCell ⟨b2, 1, none⟩ (.int .i64 x.num) = W ∧ BlkD W b1 y ∧ BlkD W b2 x ∧ Below B V W := by
  obtain ⟨W1, hW1⟩ : ∃ z, (V.setCell ⟨b1, 0, none⟩ (.int .i64 y.side)).setCell ⟨b1, 1, none⟩ (.int .i64 y.num) = z := ⟨_, rfl⟩
  have g1 : V.grownBy W1 (some b1) := by rw [← hW1]; exact setCells_grown b1 [.int .i64 y.side, .int .i64 y.num] V 0
  have k1 : BlkD W1 b1 y := by rw [← hW1]; exact heap_set2 h1
  have k3 : BlkD W1 b2 y := (g1.block b2 (heap_lt h2) (fun e => hne (Option.some.inj e).symm)).trans h2
  have g2 := setCells_grown b2 [.int .i64 x.side, .int .i64 x.num] W1 0
  refine ⟨_, rfl, ?_, ?_, ?_⟩
  · rw [hW1]
    exact (g2.block b1 (heap_lt k1) (fun e => hne (Option.some.inj e))).trans k1
  · rw [hW1]
    exact heap_set2 k3
  · rw [hW1]
    have hb1 := (Below.refl B V).grown g1 hBV (fun j e => by cases e; exact hB1)
    exact hb1.grown g2 (Nat.le_trans hBV g1.size) (fun j e => by cases e; exact hB2)
noncomputable def pathG (g : Graph) (a b : Die) : List Int := if joinB (edgesG g) a b = true then pathW g (farG g b) (farG g b a).toNat a else []
set_option maxHeartbeats 8000000 in
set_option maxRecDepth 100000 in
theorem Path14_ok (v : Value) (g : Graph) (hg : graphB g = true) (da db : Die) (w : World) (h : GraphAt w v g) :
    Calls Tryz.prog 45 #[v, vlD da, vlD db] w fun e w' => ∃ u, e = .returned (.tuple #[u, .int .i64 (awayE g da db)]) ∧ Ints w' u (pathG g da db) ∧ Below w.heap.size w w' := by
  have h' := h
  obtain ⟨v1, v2, v3, rfl, ho, hr, hk⟩ := h
  obtain ⟨A1, c1, rfl, _, _, _⟩ := ho.cells
  obtain ⟨A2, c2, rfl, _, _, _⟩ := hr.cells
  obtain ⟨A3, c3, rfl, _, _, hkc⟩ := hk.cells
  obtain ⟨W0, hW0, Hz0, hb0, hlt0, hc0⟩ := boxed w #[.slice A1 g.obv.length c1, .slice A2 g.rev.length c2, .slice A3 g.links.length c3] 55
  obtain ⟨W1, hW1, Hz1, hb1, hlt1, hc1⟩ := boxed W0 #[.int .i64 da.side, .int .i64 da.num] 24
  obtain ⟨W2, hW2, Hz2, hb2, hlt2, hc2⟩ := boxed W1 #[.int .i64 db.side, .int .i64 db.num] 24
  have hb12 := below_trans hb1 hb2
  have a0 := cell_later hb12 (hc0 0 _ rfl); have a1 := cell_later hb12 (hc0 1 _ rfl); have a2 := cell_later hb12 (hc0 2 _ rfl)
  have b0 := cell_later hb2 (hc1 0 _ rfl); have b1 := cell_later hb2 (hc1 1 _ rfl)
  have d0 := hc2 0 _ rfl; have d1 := hc2 1 _ rfl
  have hw2 := below_trans hb0 hb12
  have Hvz := Lib.hid (show validE g = 0 by simp [validE, hg])
  have hdl := dies_le hg
  have hll := ((graphB_iff g).1 hg).ll
  have Hdd := Lib.hid (dies_wfF hg)
  have HD := Lib.hid (Distance14_ok _ g hg da db W2 (h'.below hw2))
  clear hc0 hc1 hc2 ho hr hk
  go_enter Tryz.func45, Tryz.ntmps45
  go_wp2_with fail
  refine HD.out.mono ?_
  rintro e w3 ⟨rfl, hb3⟩
  have a0 := cell_later hb3 a0; have a1 := cell_later hb3 a1; have a2 := cell_later hb3 a2; have b0 := cell_later hb3 b0; have b1 := cell_later hb3 b1; have d0 := cell_later hb3 d0; have d1 := cell_later hb3 d1
  have hw3 := below_trans hw2 hb3
  clear hW0 hW1 hW2 HD
  cases hj : joinB (edgesG g) da db
  · have hds := dist_none hg hj
    have HE := Lib.hid hds.2
    have HPG := Lib.hid (show pathG g da db = [] by rw [pathG, hj, if_neg (by simp)])
    rw [hds.1, hds.2]
    clear hds hj a0 a1 a2 b0 b1 d0 d1 hkc
    go_wp2_with fail
    exact bodyPost_ret (v := .tuple #[.slice none 0 0, .int .i64 7]) (by simp [results, Tryz.results45, go_sem]) rfl ⟨_, by rw [HE.out], by rw [HPG.out]; exact (own_nil _ _ 0 0 _).slOf, hw3⟩
  have hds := dist_some hg hj
  have HE := Lib.hid hds.2
  have hjj := joinB_iff.1 hj
  have hbD : db ∈ diesG g := (dies_end hg db).2 hjj.2.1
  have hpos := farG_yes (a := da) hg hbD hj
  have HFar := Lib.hid (farG_at hg hbD)
  have HPG := Lib.hid (show pathG g da db = pathW g (farG g db) (farG g db da).toNat da by rw [pathG, hj, if_pos rfl])
  rw [hds.1, hds.2]
  obtain ⟨f, hf⟩ : ∃ f, farG g db = f := ⟨_, rfl⟩
  have Hf := Lib.hid hf
  rw [hf] at hpos HFar HPG ⊢
  have hfle := farG_le g db da
  rw [hf] at hfle
  obtain ⟨N, hN⟩ : ∃ N : Nat, f da = N := ⟨(f da).toNat, by omega⟩
  have hN200 : N ≤ 200 := by omega
  have HN := Lib.hid hN
  rw [hN] at HPG ⊢
  rw [Int.toNat_natCast] at HPG
  clear hds hjj hj hpos hf hN hbD
  go_wp2_with fail
  refine (Dies_ok13 _ g _ (h'.below hw3)).mono ?_
  rintro e w4 ⟨ud, rfl, hd, hb4⟩
  rw [Hvz.out]
  obtain ⟨Ad, cd, rfl, _⟩ := id hd
  have a0 := cell_later hb4 a0; have a1 := cell_later hb4 a1; have a2 := cell_later hb4 a2; have b0 := cell_later hb4 b0; have b1 := cell_later hb4 b1; have d0 := cell_later hb4 d0; have d1 := cell_later hb4 d1
  have hw4 := below_trans hw3 hb4
  go_wp2_with fail
  refine (far14_ok _ g hg db w4 (h'.below hw4)).mono ?_
  rintro e w5 ⟨bf, rfl, hRf, hbf, hb5⟩
  rw [Hf.out] at hRf
  have a0 := cell_later hb5 a0; have a1 := cell_later hb5 a1; have a2 := cell_later hb5 a2; have b0 := cell_later hb5 b0; have b1 := cell_later hb5 b1
  have hw5 := below_trans hw4 hb5
  have hd5 := hd.below hb5
  obtain ⟨ds, hdse⟩ : ∃ ds, diesG g = ds := ⟨_, rfl⟩
  rw [hdse] at hd5 hRf hdl Hdd ⊢
  obtain ⟨T1, T2, hT1, hT2, HzT2, hkT1, hkT2, hbT2, hltT2⟩ := fresh w5 [.int .i64 0, .int .i64 0] [.int .i64 (da).side, .int .i64 (da).num] 24 rfl
  have hsT2 : (T1.setCell ⟨w5.heap.size, 0, none⟩ (.int .i64 (da).side)).setCell ⟨w5.heap.size, 1, none⟩ (.int .i64 (da).num) = T2 := hT2
  clear hT2
  obtain ⟨⟨z0q, z1q⟩, f0q, f1q⟩ := cells2 hkT1
  obtain ⟨⟨s0q, s1q⟩, _⟩ := cells2 hkT2
  clear hkT1
  have hkT : BlkD T2 w5.heap.size da := hkT2
  have hRT := hRf.below hbT2
  have hdT := hd5.below hbT2
  have HC := Lib.hid (fun (w' : World) (hb : Below w5.heap.size w5 w') => (⟨cell_later hb a0, cell_later hb a1, cell_later hb a2⟩ : _ ∧ _ ∧ _))
  have HRd := Lib.hid (fun (w' : World) (hb : Below w5.heap.size w5 w') => (⟨hRf.below hb, hd5.below hb⟩ : _ ∧ _))
  obtain ⟨iI, hiI, hzI, hkI, hbI⟩ := info_parts infoI
  clear a0 a1 a2 hd hRf hd5 hdse d0 d1
  have hNm : (N : Int) ≤ 1000 := by omega
  have hn0 : (0 : Int) ≤ (N : Int) := by omega
  go_wp2_with fail
  clear b0 b1 z0q z1q f0q f1q s0q s1q hsT2 hT1 hkT2 hRT hdT
  have HTz : w5.heap.size < T2.heap.size := heap_lt hkT
  go_loopw [14, 15] (fun u kv wr => ∃ (m : Nat) (p : Die) (dn : List Int), m ≤ N ∧ kv = .int .i64 ((m : Int) - 1) ∧ Hid (f p = m ∧ dn ++ pathW g f m p = pathW g f N da ∧ dn.length + m = N) ∧ OwnI (w5.heap.size + 1) wr u dn ∧ BlkD wr w5.heap.size p ∧ Below w5.heap.size w5 wr) (fun _ kv _ => (intOf kv + 1).toNat)
  case atStart => exact ⟨N, da, [], Nat.le_refl _, rfl, Lib.hid ⟨HN.out, rfl, by simp⟩, own_nil _ _ _ _ _, hkT, hbT2⟩
  case round =>
    clear hkT
    obtain ⟨m, p, dn, hm, rfl, HI, hown, hblk, hb⟩ := hrel
    have hwr := below_trans hw5 hb
    cases m with
    | zero =>
      have hp := HI.out.2.1
      rw [pathW, List.append_nil, ← HPG.out] at hp
      rw [hp] at hown
      have HO := Lib.hid hown
      have dz : decide ((1 : Int) ≤ ((0 : Nat) : Int)) = false := by simp
      clear hown hp
      go_wp2_with fail
      exact bodyPost_ret (v := .tuple #[u14, .int .i64 0]) (by simp [results, Tryz.results45, go_sem]) rfl ⟨_, by rw [HE.out], HO.out.slOf, hwr⟩
    | succ k =>
      have ek : ((k + 1 : Nat) : Int) - 1 = (k : Int) := by omega
      rw [ek]
      have hk0 : (0 : Int) ≤ (k : Int) := by omega
      have hk1 : (k : Int) ≤ 1000 := by omega
      have dk : decide ((0 : Int) ≤ (k : Int)) = true := by simp
      obtain ⟨wo, hwo⟩ : ∃ z, z = wr := ⟨_, rfl⟩
      subst hwo
      clear ek
      go_wp2_with fail
      go_loopw [14, 16] (fun u iv wr => ∃ i : Nat, i ≤ g.links.length ∧ iv = .int .i64 i ∧ Hid (∀ y ∈ g.links.take i, toK f k p y = false) ∧ OwnI (w5.heap.size + 1) wr u dn ∧ BlkD wr w5.heap.size p ∧ Below w5.heap.size w5 wr) (fun _ iv _ => g.links.length - (intOf iv).toNat)
      case atStart => exact ⟨0, Nat.zero_le _, rfl, Lib.hid (fun y hy => by simp at hy), hown, hblk, hb⟩
      case round =>
        clear hown hblk hb hwr
        obtain ⟨i, hi, rfl, Hno, hown, hblk, hb⟩ := hrel
        have hwr := below_trans hw5 hb
        by_cases hlt : i < g.links.length
        · obtain ⟨bl, ol, rfl, _, hlc⟩ := hkc i hlt
          obtain ⟨x, hx⟩ := get_of_lt hlt
          have hxm := List.mem_of_getElem? hx
          obtain ⟨y0, y1, y2⟩ := hlc wr hwr i x hx
          obtain ⟨a0, a1, a2⟩ := HC.out wr hb
          have HYi := Lib.hid (fun w' hb' => (hlc w' hb' i x hx).1)
          obtain ⟨ia, hia, hga⟩ := plI_at (Hdd.out x hxm).1
          obtain ⟨ib, hib, hgb⟩ := plI_at (Hdd.out x hxm).2
          have HA : Hid (acrO x p = if p = lA x then some (lB x) else if p = lB x then some (lA x) else none) := Lib.hid rfl
          have hPQ := lA_ne x x
          have hends := ends14_ok x
          have Hx := Lib.hid hx
          generalize lA x = P at hia hga HA hPQ hends
          generalize lB x = Q at hib hgb HA hPQ hends
          have Hia := Lib.hid hia; have Hib := Lib.hid hib; have Hga := Lib.hid hga; have Hgb := Lib.hid hgb; have HPQ := Lib.hid hPQ
          have Hends := Lib.hid hends
          have hial := lt_of_get hga; have hibl := lt_of_get hgb
          clear hkc hlc hx hia hib hga hgb hPQ hends
          go_wp2_with fail
          refine (Hends.out _).mono ?_
          rintro e w6 ⟨rfl, hb6⟩
          obtain ⟨V1, V2, V, hV1, hV2, hV, HzV, hltV, kz1, kz2, k1, k2, hbV, hltV'⟩ := fresh2 w6 [.int .i64 0, .int .i64 0] [.int .i64 P.side, .int .i64 P.num] [.int .i64 0, .int .i64 0] [.int .i64 Q.side, .int .i64 Q.num] 24 rfl rfl
          have hsV : (((V2.setCell ⟨w6.heap.size, 0, none⟩ (.int .i64 P.side)).setCell ⟨w6.heap.size, 1, none⟩ (.int .i64 P.num)).setCell ⟨V1.heap.size, 0, none⟩ (.int .i64 Q.side)).setCell ⟨V1.heap.size, 1, none⟩ (.int .i64 Q.num) = V := hV
          clear hV
          obtain ⟨⟨z0, z1⟩, f0, f1⟩ := cells2 kz1
          obtain ⟨⟨z2, z3⟩, f2, f3⟩ := cells2 kz2
          have K1 : BlkD V w6.heap.size P := k1
          have K2 : BlkD V V1.heap.size Q := k2
          obtain ⟨⟨p0, p1⟩, e0, e1⟩ := cells2 k1
          obtain ⟨⟨q0, q1⟩, e2, e3⟩ := cells2 k2
          have hb6V := below_trans hb6 hbV
          have hbV5 := below_trans hb hb6V
          have hblkV := hblk.below hb6V
          have hownV := hown.below hb6V
          obtain ⟨⟨t0, t1⟩, _, _⟩ := cells2 hblkV
          have hVw6 : wr.heap.size ≤ w6.heap.size := hb6.size
          have hwrz := heap_lt hblk
          have hownlt := Lib.hid hown.lt
          clear kz1 kz2 k1 k2 a0 a1 a2 y0 y1 y2 hblk hown
          have Hlt : Hid (∀ g, Value.ownBlock _ = some g → w5.heap.size + 1 ≤ g ∧ g < w6.heap.size) := Lib.hid (fun g e => by have := hownlt.out g e; omega)
          by_cases h1 : p = P
          · have HAc : Hid (acrO x p = some Q) := Lib.hid (by rw [HA.out, if_pos h1])
            have D1 := Lib.hid (dieNe (d := Q) (p := p) (fun e => HPQ.out (by rw [← h1, e])))
            obtain rfl : P = p := h1.symm
            rcases D1.out with d1 | ⟨d1, d2⟩
            all_goals
              go_wp2_with fail
              have hpl := place14_ok _ ds (Q) _ (HRd.out _ hbV5).2
              rw [Hib.out] at hpl
              have HPl := Lib.hid hpl
              clear hpl
              go_wp2_with fail
              refine HPl.out.mono ?_
              rintro e w7 ⟨rfl, hb7⟩
              have hb57 := below_trans hbV5 hb7
              have hown7 := (hownV).below hb7; have hblk7 := (hblkV).below hb7
              obtain ⟨r0, _⟩ := (HRd.out w7 hb57).1.cell (k := ib) (x := f (Q)) (by rw [List.getElem?_map, Hgb.out]; rfl)
              have u0 := cell_later hb7 ((⟨q0, q1⟩ : _ ∧ _)).1; have u1 := cell_later hb7 ((⟨q0, q1⟩ : _ ∧ _)).2
              obtain ⟨⟨t0, t1⟩, g0, g1⟩ := cells2 hblk7
              have hil : (ib : Int) < (ds.length : Int) := by omega
              have hi0 : (0 : Int) ≤ (ib : Int) := by omega
              clear HPl
              by_cases hfk : f (Q) = k
              · have HI' := Lib.hid (show f (Q) = k ∧ (dn ++ [x.id]) ++ pathW g f k (Q) = pathW g f N da ∧ (dn ++ [x.id]).length + k = N from by
                  refine ⟨hfk, ?_, by have := HI.out.2.2; simp; omega⟩
                  rw [← HI.out.2.1, pathW, find_take Hx.out (p := toK f k P) (by rw [toK, HAc.out]; simp [hfk]) Hno.out]
                  simp only
                  rw [show acrD x P = Q by rw [acrD, HAc.out]; rfl, List.append_assoc]
                  rfl)
                have hdn : dn.length ≤ 200 := by have := HI.out.2.2; omega
                have dfk : (f (Q) == (k : Int)) = true := by simpa using hfk
                obtain ⟨a0, a1, a2⟩ := HC.out w7 hb57
                have y0 := HYi.out w7 (below_trans hw5 hb57)
                have hz7 : w5.heap.size + 1 ≤ w7.heap.size := by have := heap_lt hblk7; omega
                have hb7z := hb7.size
                have HB7 := Lib.hid hblk7
                have hkw : (i : Int) < (g.links.length : Int) := by omega
                clear hfk hblk7
                go_wp2_with (at_builtin; refine wpList_append1 (enc := encI) (size := 1) (B := w5.heap.size + 1) rfl (.tmp 78) (.tmp 85) _ rfl 3 iI _ 8 Tryz.underlying30 hiI hzI hkI hbI rfl (by decide) rfl hown7 x.id _ rfl lenI oneI _ rfl rfl (by omega) (by omega) hz7 ?_; intro v' w8 hown' hgrow hat; have u0' := (World.cell?_of_block (a := ⟨V1.heap.size, 0, none⟩) (hgrow.block (V1.heap.size) (by omega) (fun e => by have := (Hlt.out _ e.symm).2; omega))).trans u0; have u1' := (World.cell?_of_block (a := ⟨V1.heap.size, 1, none⟩) (hgrow.block (V1.heap.size) (by omega) (fun e => by have := (Hlt.out _ e.symm).2; omega))).trans u1; have hblk8 := (hgrow.block w5.heap.size (by omega) (fun e => by have := (Hlt.out _ e.symm).1; omega)).trans HB7.out; have hf0 := heap_free (i := 0) hblk8; have hf1 := heap_free (i := 1) hblk8; have hc0 := heap_cell (i := 0) hblk8; have hc1 := heap_cell (i := 1) hblk8)
                have hset := setCells_grown w5.heap.size [.int .i64 (Q).side, .int .i64 (Q).num] w8 0
                have hb58 := hb57.grown hgrow (by omega) (fun g e => by have := (Hlt.out _ e).1; omega)
                refine ⟨?rel, ?measure⟩
                case rel => exact ⟨k, Q, dn ++ [x.id], by omega, rfl, HI', hown'.kept hset (.inr fun e => by have := (hown'.lt _ e).1; omega), heap_set2 hblk8, hb58.grown hset (by have := hgrow.size; omega) (fun g e => by cases e; exact Nat.le_refl _)⟩
                case measure => first | (simp [intOf]; done) | (simp [intOf]; omega)
              · have dfk : (f (Q) == (k : Int)) = false := by simpa using hfk
                have Hno' : Hid (∀ y ∈ g.links.take (i + 1), toK f k P y = false) := Lib.hid (mem_snoc (P := fun y => toK f k P y = false) Hx.out Hno.out (by rw [toK, HAc.out]; simp [hfk]))
                clear hfk
                go_wp2_with fail
                refine ⟨?rel, ?measure⟩
                case rel => exact ⟨i + 1, by omega, by go_num, Hno', hown7, hblk7, hb57⟩
                case measure => first | (simp [intOf]; done) | (simp [intOf]; omega)
          · by_cases h2 : p = Q
            · have HAc : Hid (acrO x p = some P) := Lib.hid (by rw [HA.out, if_neg h1, if_pos h2])
              obtain rfl : Q = p := h2.symm
              obtain ⟨W, hW, B1, B2, hbW⟩ := swap2 K1 K2 (by omega) (show w6.heap.size ≤ w6.heap.size from Nat.le_refl _) (by omega) (by have := heap_lt K1; omega)
              obtain ⟨⟨x0, x1⟩, _⟩ := cells2 B1
              obtain ⟨⟨x2, x3⟩, _⟩ := cells2 B2
              have hownW : OwnI (w5.heap.size + 1) W _ dn := ⟨hownV.1, hownV.2.imp id fun ⟨g, cap, cur, hv, hb, hg, r⟩ => ⟨g, cap, cur, hv, hb, (hbW.block g (Hlt.out g (by rw [hv]; rfl)).2).trans hg, r⟩⟩
              have hblkW : BlkD W w5.heap.size Q := (hbW.block w5.heap.size (by omega)).trans hblkV
              have hbW5 : Below w5.heap.size w5 W := hbV5.trans (hbW.mono (by omega))
              obtain ⟨⟨w0, w1⟩, _⟩ := cells2 hblkW
              have hWz := hbW.size
              clear h1 K1 K2 B1 B2
              have hpl := place14_ok _ ds (P) _ (HRd.out _ hbW5).2
              rw [Hia.out] at hpl
              have HPl := Lib.hid hpl
              clear hpl
              go_wp2_with fail
              refine HPl.out.mono ?_
              rintro e w7 ⟨rfl, hb7⟩
              have hb57 := below_trans hbW5 hb7
              have hown7 := (hownW).below hb7; have hblk7 := (hblkW).below hb7
              obtain ⟨r0, _⟩ := (HRd.out w7 hb57).1.cell (k := ia) (x := f (P)) (by rw [List.getElem?_map, Hga.out]; rfl)
              have u0 := cell_later hb7 ((⟨x2, x3⟩ : _ ∧ _)).1; have u1 := cell_later hb7 ((⟨x2, x3⟩ : _ ∧ _)).2
              obtain ⟨⟨t0, t1⟩, g0, g1⟩ := cells2 hblk7
              have hil : (ia : Int) < (ds.length : Int) := by omega
              have hi0 : (0 : Int) ≤ (ia : Int) := by omega
              clear HPl
              by_cases hfk : f (P) = k
              · have HI' := Lib.hid (show f (P) = k ∧ (dn ++ [x.id]) ++ pathW g f k (P) = pathW g f N da ∧ (dn ++ [x.id]).length + k = N from by
                  refine ⟨hfk, ?_, by have := HI.out.2.2; simp; omega⟩
                  rw [← HI.out.2.1, pathW, find_take Hx.out (p := toK f k Q) (by rw [toK, HAc.out]; simp [hfk]) Hno.out]
                  simp only
                  rw [show acrD x Q = P by rw [acrD, HAc.out]; rfl, List.append_assoc]
                  rfl)
                have hdn : dn.length ≤ 200 := by have := HI.out.2.2; omega
                have dfk : (f (P) == (k : Int)) = true := by simpa using hfk
                obtain ⟨a0, a1, a2⟩ := HC.out w7 hb57
                have y0 := HYi.out w7 (below_trans hw5 hb57)
                have hz7 : w5.heap.size + 1 ≤ w7.heap.size := by have := heap_lt hblk7; omega
                have hb7z := hb7.size
                have HB7 := Lib.hid hblk7
                have hkw : (i : Int) < (g.links.length : Int) := by omega
                clear hfk hblk7
                go_wp2_with (at_builtin; refine wpList_append1 (enc := encI) (size := 1) (B := w5.heap.size + 1) rfl (.tmp 78) (.tmp 85) _ rfl 3 iI _ 8 Tryz.underlying30 hiI hzI hkI hbI rfl (by decide) rfl hown7 x.id _ rfl lenI oneI _ rfl rfl (by omega) (by omega) hz7 ?_; intro v' w8 hown' hgrow hat; have u0' := (World.cell?_of_block (a := ⟨V1.heap.size, 0, none⟩) (hgrow.block (V1.heap.size) (by omega) (fun e => by have := (Hlt.out _ e.symm).2; omega))).trans u0; have u1' := (World.cell?_of_block (a := ⟨V1.heap.size, 1, none⟩) (hgrow.block (V1.heap.size) (by omega) (fun e => by have := (Hlt.out _ e.symm).2; omega))).trans u1; have hblk8 := (hgrow.block w5.heap.size (by omega) (fun e => by have := (Hlt.out _ e.symm).1; omega)).trans HB7.out; have hf0 := heap_free (i := 0) hblk8; have hf1 := heap_free (i := 1) hblk8; have hc0 := heap_cell (i := 0) hblk8; have hc1 := heap_cell (i := 1) hblk8)
                have hset := setCells_grown w5.heap.size [.int .i64 (P).side, .int .i64 (P).num] w8 0
                have hb58 := hb57.grown hgrow (by omega) (fun g e => by have := (Hlt.out _ e).1; omega)
                refine ⟨?rel, ?measure⟩
                case rel => exact ⟨k, P, dn ++ [x.id], by omega, rfl, HI', hown'.kept hset (.inr fun e => by have := (hown'.lt _ e).1; omega), heap_set2 hblk8, hb58.grown hset (by have := hgrow.size; omega) (fun g e => by cases e; exact Nat.le_refl _)⟩
                case measure => first | (simp [intOf]; done) | (simp [intOf]; omega)
              · have dfk : (f (P) == (k : Int)) = false := by simpa using hfk
                have Hno' : Hid (∀ y ∈ g.links.take (i + 1), toK f k Q y = false) := Lib.hid (mem_snoc (P := fun y => toK f k Q y = false) Hx.out Hno.out (by rw [toK, HAc.out]; simp [hfk]))
                clear hfk
                go_wp2_with fail
                refine ⟨?rel, ?measure⟩
                case rel => exact ⟨i + 1, by omega, by go_num, Hno', hown7, hblk7, hb57⟩
                case measure => first | (simp [intOf]; done) | (simp [intOf]; omega)
            · have HAc : Hid (acrO x p = none) := Lib.hid (by rw [HA.out, if_neg h1, if_neg h2])
              have D1 := Lib.hid (dieNe (d := Q) (p := p) (fun e => h2 e.symm))
              have D2 := Lib.hid (dieNe (d := P) (p := p) (fun e => h1 e.symm))
              have Hno' : Hid (∀ y ∈ g.links.take (i + 1), toK f k p y = false) := Lib.hid (mem_snoc (P := fun y => toK f k p y = false) Hx.out Hno.out (by rw [toK, HAc.out]))
              clear h1 h2
              rcases D1.out with d1 | ⟨d1, d2⟩
              all_goals
                rcases D2.out with d3 | ⟨d3, d4⟩
                all_goals
                  go_wp2_with fail
                  refine ⟨?rel, ?measure⟩
                  case rel => exact ⟨i + 1, by omega, by go_num, Hno', hownV, hblkV, hbV5⟩
                  case measure => first | (simp [intOf]; done) | (simp [intOf]; omega)
        · exfalso
          have hf1 := HI.out.1
          refine pathW_none HFar.out (a := p) (m := k) (by omega) fun y hy => Hno.out y ?_
          rw [List.take_of_length_le (by omega)]; exact hy
end Go.Proofs.YtcpobcfncmcakaaGreat
/- The reference's Bottleneck of chapter 17. Condition: the argument reads as a list of specimens. -/
namespace Go.Proofs.YtcpobcfncmcakaaGreat
open Go.RowKit Go.Shelf Go.Maps

theorem forest_ids17 {l : List Spec} (h : ofE l = 0) : choR pickF l = (forL l).map Spec.id := by
  have := choT_forL l l.length (Nat.le_refl _)
  rw [List.take_length] at this
  rw [choR, if_pos h, this]
theorem forest_filter17 {l : List Spec} (h : ofE l = 0) : l.filter (fun s => hasB ((forL l).map Spec.id) s.id) = forL l := by
  have e : (fun s : Spec => hasB ((forL l).map Spec.id) s.id) = fun s => decide (s.id ∈ (forL l).map Spec.id) := by
    funext s
    rw [Bool.eq_iff_iff, hasB_iff, decide_eq_true_eq]
  rw [e]
  exact filter_sub (forL_facts l).1 (checkE_zero (ofE_zero h).1).2.2
theorem filter_snoc17 {α : Type} {p : α → Bool} {l : List α} {k : Nat} {x : α} (h : l[k]? = some x) : (l.take (k + 1)).filter p = (l.take k).filter p ++ (if p x = true then [x] else []) := by
  rw [take_snoc' h, List.filter_append]
  congr 1
  cases hp : p x <;> simp [hp]
theorem first_join {l : List Spec} {a b : Die} (h : (firstR l a b).2 = 0) : joinB (edgesS l) a b = true := by
  have hE := (first_con h).1
  unfold firstR at h
  rw [if_pos hE] at h
  cases hk : firstK l a b with
  | none => rw [hk] at h; cases h
  | some k =>
    have h1 := List.find?_some hk
    have h1 := joinB_iff.1 h1
    have hs : ∀ e ∈ edgesS (l.take (k + 1)), e ∈ edgesS l := fun e he => by
      obtain ⟨s, hs, rfl⟩ := List.mem_map.1 he
      exact List.mem_map.2 ⟨s, List.mem_of_mem_take hs, rfl⟩
    obtain ⟨⟨e, he, h2⟩, ⟨e', he', h3⟩, h4⟩ := h1
    exact joinB_iff.2 ⟨⟨e, hs e he, h2⟩, ⟨e', hs e' he', h3⟩, h4.mono hs⟩
set_option maxHeartbeats 8000000 in
set_option maxRecDepth 100000 in
theorem Bottleneck17_ok (v : Value) (l : List Spec) (da db : Die) (w : World) (h : Specs w v l) (hl : l.length ≤ 100) :
    Calls Tryz.prog 11 #[v, vlD da, vlD db] w fun e w' => ∃ u xs, e = .returned (.tuple #[u, .int .i64 (firstR l da db).2]) ∧ Ints w' u xs ∧ Below w.heap.size w w' ∧ ((firstR l da db).2 ≠ 0 → xs = []) ∧ ((firstR l da db).2 = 0 → ∀ p, Walk (forL l) da p db → xs = p.map Spec.id) := by
  obtain ⟨X0, hX0, HzX0, hbX0, hltX0, hcX0⟩ := boxed w #[.int .i64 da.side, .int .i64 da.num] 24
  obtain ⟨X1, hX1, HzX1, hbX1, hltX1, hcX1⟩ := boxed X0 #[.int .i64 db.side, .int .i64 db.num] 24
  have hX := below_trans hbX0 hbX1
  have h0 := h.below hX
  have a0 := cell_later hbX1 (hcX0 0 _ rfl); have a1 := cell_later hbX1 (hcX0 1 _ rfl)
  have b0 := hcX1 0 _ rfl; have b1 := hcX1 1 _ rfl
  clear hcX0 hcX1
  obtain ⟨A, c, rfl, _, _, hc⟩ := h.cells
  have HFJ := Lib.hid (@first_join l da db)
  have HFC := Lib.hid (@first_con l da db)
  go_enter Tryz.func11, Tryz.ntmps11
  go_wp2_with fail
  refine (First17_ok _ l da db _ h0 hl).mono ?_
  rintro e w1 ⟨rfl, hb1⟩
  have a0 := cell_later hb1 a0; have a1 := cell_later hb1 a1; have b0 := cell_later hb1 b0; have b1 := cell_later hb1 b1
  have hw1 := below_trans hX hb1
  clear hX0 hX1
  by_cases hE : (firstR l da db).2 = 0
  case neg =>
    have hd : ((firstR l da db).2 != 0) = true := by simpa using hE
    have HE := Lib.hid hE
    generalize (firstR l da db).1 = F1
    obtain ⟨F2, hF2⟩ : ∃ F2, (firstR l da db).2 = F2 := ⟨_, rfl⟩
    have HF2 := Lib.hid hF2
    rw [hF2] at hd ⊢
    clear hE a0 a1 b0 b1 hc hF2
    go_wp2_with fail
    exact bodyPost_ret (v := .tuple #[.slice none 0 0, .int .i64 F2]) (by simp [results, Tryz.results11, go_sem]) rfl ⟨_, [], by rw [HF2.out], (own_nil _ _ 0 0 _).slOf, hw1, fun _ => rfl, fun h => absurd h HE.out⟩
  have hof := (HFC.out hE).1
  have HE := Lib.hid hE
  generalize (firstR l da db).1 = F1
  rw [hE]
  have hl64 : l.length ≤ 64 := (checkE_zero (ofE_zero hof).1).1
  have Hids := Lib.hid (forest_ids17 hof)
  have Hff := Lib.hid (forest_filter17 hof)
  have hof2 := forest_ofE hof
  have HO2 := Lib.hid hof2
  have HJ := Lib.hid (show joinB (edgesG (ofG (forL l))) da db = true by rw [join_of hof2, join_forest, HFJ.out hE])
  have hfl64 : (forL l).length ≤ 64 := by have := (forL_facts l).1.length_le; omega
  have HU := Lib.hid ((forL_facts l).2.2 (checkE_zero (ofE_zero hof).1).2.2)
  have Hof := Lib.hid hof
  obtain ⟨iS, hiS, hzS, hkS, hbS⟩ := info_parts infoS
  clear hE hof hof2
  go_wp2_with fail
  refine (Forest17_ok _ l _ (h0.below hb1) hl).mono ?_
  rintro e w2 ⟨ui, rfl, hi, hb2⟩
  rw [Hof.out]
  rw [Hids.out] at hi
  obtain ⟨Ai, ci, rfl, _, _, _⟩ := hi.cells
  rw [List.length_map] at hi ⊢
  have a0 := cell_later hb2 a0; have a1 := cell_later hb2 a1; have b0 := cell_later hb2 b0; have b1 := cell_later hb2 b1
  have hw2 := below_trans hw1 hb2
  have HC := Lib.hid (fun (w' : World) (hb : Below w2.heap.size w2 w') => (⟨cell_later hb a0, cell_later hb a1, cell_later hb b0, cell_later hb b1⟩ : _ ∧ _ ∧ _ ∧ _))
  clear a0 a1 b0 b1
  go_wp2_with fail
  go_loopw [12, 13] (fun u i wr => ∃ j : Nat, j ≤ l.length ∧ i = .int .i64 j ∧ OwnS w2.heap.size wr u ((l.take j).filter fun s => hasB ((forL l).map Spec.id) s.id) ∧ Below w2.heap.size w2 wr) (fun _ i _ => l.length - (intOf i).toNat)
  case atStart => exact ⟨0, Nat.zero_le _, rfl, own_nil _ _ _ _ _, Below.refl _ _⟩
  case round =>
    obtain ⟨j, hj, rfl, hown, hb⟩ := hrel
    have hwr := below_trans hw2 hb
    by_cases hlt : j < l.length
    · obtain ⟨bo, o, rfl, _, hcb⟩ := hc j hlt
      obtain ⟨x, hx⟩ := get_of_lt hlt
      obtain ⟨y0, y1, y2, y3, y4, y5, y6⟩ := hcb wr hwr j x hx
      have HH := Has_ok _ ((forL l).map Spec.id) x.id wr (hi.below hb)
      have hsn := filter_snoc17 (p := fun s => hasB ((forL l).map Spec.id) s.id) hx
      have hlen : ((l.take j).filter fun s => hasB ((forL l).map Spec.id) s.id).length ≤ 64 := Nat.le_trans (List.length_filter_le _ _) (by rw [List.length_take]; omega)
      have hBs := hb.size
      have hj1 : (j : Int) < (l.length : Int) := by omega
      clear hc hcb hx
      cases hP : hasB ((forL l).map Spec.id) x.id
      · rw [hP] at HH
        rw [if_neg (by simp [hP]), List.append_nil] at hsn
        have HH' := Lib.hid HH; have Hsn := Lib.hid hsn
        clear HH hsn hP
        go_wp2_with fail
        refine HH'.out.mono ?_
        rintro e wq ⟨rfl, rfl⟩
        go_wp2_with fail
        refine ⟨?rel, ?measure⟩
        case rel => exact ⟨j + 1, by omega, by go_num, by rw [Hsn.out]; exact hown, hb⟩
        case measure => first | (simp [intOf]; done) | (simp [intOf]; omega)
      · rw [hP] at HH
        rw [if_pos (by simp [hP])] at hsn
        have HH' := Lib.hid HH; have Hsn := Lib.hid hsn
        clear HH hsn hP
        go_wp2_with fail
        refine HH'.out.mono ?_
        rintro e wq ⟨rfl, rfl⟩
        go_wp2_with (at_builtin; refine wpList_append1 (enc := encS) (size := 7) (B := w2.heap.size) rfl (.tmp 42) (.tmp 47) _ rfl 43 iS _ 56 Tryz.underlying22 hiS hzS hkS hbS rfl (by decide) rfl hown x _ rfl lenS oneS _ rfl rfl (by omega) (by omega) hBs ?_; intro v' w7 hown' hgrow hat)
        refine ⟨?rel, ?measure⟩
        case rel => exact ⟨j + 1, by omega, by go_num, by rw [Hsn.out]; exact hown', hb.trans (below_append hown hgrow hBs)⟩
        case measure => first | (simp [intOf]; done) | (simp [intOf]; omega)
    · have ej : j = l.length := by omega
      subst ej
      rw [List.take_length, Hff.out] at hown
      have hT : Specs wr u12 (forL l) := hown.slOf
      obtain ⟨At, ct, rfl, _⟩ := id hT
      have hF0 : (0 : Int) ≤ ((forL l).length : Int) := by omega
      clear hc hown hi
      go_wp2_with fail
      have hba : Below wr.heap.size wr wr.drew := (Below.refl _ _).drew
      obtain ⟨wa, hwa⟩ : ∃ W, wr.drew = W := ⟨_, rfl⟩
      rw [hwa] at hba
      have hbWa := below_trans hb hba
      have hTa := hT.below hba
      have hHeld : (fun w' : World => Below w2.heap.size w2 w') wa := hbWa
      refine wp_region_S 10 (fun w' => Below w2.heap.size w2 w') (by kernel_rfl) (by decide) ?_
      rw [hwa]
      clear hwa hT
      refine wpAnyS_takeD 0 (some 49) (.slice At (forL l).length ct) (by rfl) (by rfl) (by kernel_rfl) (by exact fun _ _ _ h => h) (by rfl) (fun w' hS => by go_simp) hHeld ?_
      simp only [Act.put, List.setIfInBounds_toArray, List.set_cons_succ, List.set_cons_zero]
      refine wpAnyS_takeD 1 (some 50) (.slice At (forL l).length ct) (by rfl) (by rfl) (by kernel_rfl) (by exact fun _ _ _ h => h) (by rfl) (fun w' hS => by go_simp) hHeld ?_
      simp only [Act.put, List.setIfInBounds_toArray, List.set_cons_succ, List.set_cons_zero]
      refine wpAnyS_takeD 2 (some 51) (.int .i64 ((forL l).length : Int)) (by rfl) (by rfl) (by kernel_rfl) (by exact fun _ _ _ h => h) (by rfl) (fun w' hS => by go_simp) hHeld ?_
      simp only [Act.put, List.setIfInBounds_toArray, List.set_cons_succ, List.set_cons_zero]
      refine wpAnyS_takeD 4 (some 53) (vlD da) (by rfl) (by rfl) (by kernel_rfl) (by exact fun _ _ _ h => h) (by rfl) (fun w' hS => by (obtain ⟨x0, x1, x2, x3⟩ := HC.out w' hS; go_simp)) hHeld ?_
      simp only [Act.put, List.setIfInBounds_toArray, List.set_cons_succ, List.set_cons_zero]
      refine wpAnyS_takeD 5 (some 54) (vlD db) (by rfl) (by rfl) (by kernel_rfl) (by exact fun _ _ _ h => h) (by rfl) (fun w' hS => by (obtain ⟨x0, x1, x2, x3⟩ := HC.out w' hS; go_simp)) hHeld ?_
      simp only [Act.put, List.setIfInBounds_toArray, List.set_cons_succ, List.set_cons_zero]
      clear hHeld
      refine wpAnyS_one 3 (by kernel_rfl) (by rfl) (by decide) (fun K hK => ?_)
      have HK := Lib.hid hK; clear hK
      rw [if_pos (by rfl)]
      go_simp
      refine (after17_ok _ (forL l) (forL l).length wa hTa (Nat.le_refl _) (by omega)).mono ?_
      rintro e w4 ⟨u, rfl, hg, hb4⟩
      rw [List.take_length] at hg
      have hbW4 := below_trans hbWa hb4
      refine HK.out _ _ hbW4 ?_
      clear HK hTa
      have hgv := of_valid HO2.out
      have HPc := Path14_ok _ (ofG (forL l)) hgv da db w4 hg
      rw [(dist_some hgv HJ.out).2] at HPc
      have HPc' := Lib.hid HPc
      clear HPc hg hgv
      refine wpAnyS_one 6 (by kernel_rfl) (by rfl) (by decide) (fun K hK => ?_)
      have HK := Lib.hid hK; clear hK
      rw [if_pos (by rfl)]
      go_simp
      refine HPc'.out.mono ?_
      rintro e w5 ⟨up, rfl, hip, hb5⟩
      have HIp := Lib.hid hip
      have hHeld : (fun w' : World => Below w2.heap.size w2 w') w5 := below_trans hbW4 hb5
      refine HK.out _ _ hHeld ?_
      clear HK hip HPc'
      refine wpAnyS_takeD 7 (some 56) up (by rfl) (by rfl) (by kernel_rfl) (by exact fun _ _ _ h => h) (by rfl) (fun w' hS => by go_simp) hHeld ?_
      simp only [Act.put, List.setIfInBounds_toArray]
      refine wpAnyS_takeD 8 (some 57) (.int .i64 0) (by rfl) (by rfl) (by kernel_rfl) (by exact fun _ _ _ h => h) (by rfl) (fun w' hS => by go_simp) hHeld ?_
      simp only [Act.put, List.setIfInBounds_toArray]
      refine wpAnyS_takeD 9 (some 6) up (by rfl) (by rfl) (by kernel_rfl) (by exact fun _ _ _ h => h) (by rfl) (fun w' hS => by go_simp) hHeld ?_
      simp only [Act.put, List.setIfInBounds_toArray]
      clear hHeld
      refine (show tailOf _ _ _ _ _ _ _ _ from ⟨by kernel_rfl, ?_⟩)
      simp only [List.drop_succ_cons, List.drop_zero]
      go_wp2_with fail
      refine bodyPost_ret (v := .tuple #[up, .int .i64 0]) (by simp [results, Tryz.results11, go_sem]) rfl ⟨_, _, by rw [HE.out], HIp.out, below_trans hw2 (below_trans hbW4 hb5), fun h => absurd HE.out h, fun _ p hp => ?_⟩
      have hgv := of_valid HO2.out
      have hbD : db ∈ diesG (ofG (forL l)) := (dies_end hgv db).2 (joinB_iff.1 HJ.out).2.1
      have hpos := farG_yes (a := da) hgv hbD HJ.out
      obtain ⟨q, hq1, hq2, _⟩ := path_walk HO2.out (farG_at hgv hbD) (farG (ofG (forL l)) db da).toNat da (by omega)
      rw [pathG, HJ.out, if_pos rfl, hq2, HU.out.uni hp hq1]
end Go.Proofs.YtcpobcfncmcakaaGreat
