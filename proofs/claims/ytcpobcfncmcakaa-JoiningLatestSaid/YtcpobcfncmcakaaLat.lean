/- JoiningLatest. No condition. -/
import Derived.Test.YtcpobcfncmcakaaAwkT
import Derived.Test.YtcpobcfncmcakaaCompC
import Derived.Test.YtcpobcfncmcakaaOpenW
import Derived.Test.YtcpobcfncmcakaaRows
namespace Go.Proofs.Ytcpobcfncmcakaa
open Go.RowKit Go.Shelf Go.ChangeShapes Go.WideShapes Go.ChangeAt Go.Maps

theorem first_at {l : List Spec} {a b : Die} (h : (firstR l a b).2 = 0) : ofE l = 0 ∧ ∃ k s, firstK l a b = some k ∧ l[k]? = some s ∧ (firstR l a b).1 = s.id := by
  have hc := first_con h
  refine ⟨hc.1, ?_⟩
  unfold firstR at h ⊢
  rw [if_pos hc.1] at h ⊢
  cases hk : firstK l a b with
  | none => rw [hk] at h; cases h
  | some k =>
    have := List.mem_range.1 (List.mem_of_find?_eq_some hk)
    obtain ⟨s, hs⟩ := get_of_lt this
    exact ⟨k, s, rfl, hs, by simp [hs]⟩
theorem joinG_of {l : List Spec} (h : ofE l = 0) (a b : Die) : joinG (ofG l) a b = joinB (edgesS l) a b := by rw [joinG, of_valid h, join_of h, Bool.true_and]
theorem id_at {l : List Spec} (hd : (l.map Spec.id).Nodup) {i j : Nat} {s t : Spec} (hs : l[i]? = some s) (ht : l[j]? = some t) (e : s.id = t.id) : i = j := by
  obtain ⟨hi, rfl⟩ := List.getElem?_eq_some_iff.1 hs
  obtain ⟨hj, rfl⟩ := List.getElem?_eq_some_iff.1 ht
  exact (List.getElem_inj (xs := l.map Spec.id) (h₀ := by simpa using hi) (h₁ := by simpa using hj) hd).1 (by simpa using e)
set_option maxHeartbeats 8000000 in
set_option maxRecDepth 100000 in
theorem latest_walk (v : Value) (l : List Spec) (da db : Die) (w : World) (h : Specs w v l) (hda : wfD da) (hdb : wfD db) :
    Calls Try.prog 6 #[v, vlD da, vlD db] w fun e w' => e = .returned (.bool true) ∧ Below w.heap.size w w' := by
  obtain ⟨X0, hX0, HzX0, hbX0, hltX0, hcX0⟩ := boxed w #[.int .i64 da.side, .int .i64 da.num] 40
  obtain ⟨X1, hX1, HzX1, hbX1, hltX1, hcX1⟩ := boxed X0 #[.int .i64 db.side, .int .i64 db.num] 40
  have hX := below_trans hbX0 hbX1
  have h0 := h
  have a0 := cell_later hbX1 (hcX0 0 _ rfl); have a1 := cell_later hbX1 (hcX0 1 _ rfl)
  have b0 := hcX1 0 _ rfl; have b1 := hcX1 1 _ rfl
  clear hcX0 hcX1
  obtain ⟨A, c, rfl, _, _, hc⟩ := h.cells
  have hX' : ∀ w', Below X1.heap.size X1 w' → Below w.heap.size w w' := fun _ hb => below_trans hX hb
  have HX' := Lib.hid hX'
  clear hX'
  go_enter Try.func6, Try.ntmps6
  go_wp2_with fail
  refine (wake17_ok _).mono ?_
  rintro e w1 ⟨rfl, hb1⟩
  have hF := few17_ok _ l w1 (h0.below (HX'.out _ hb1))
  cases hf : few17B l.length
  · rw [hf] at hF
    have HF := Lib.hid hF; clear hF hf
    go_wp2_with fail
    refine HF.out.mono ?_
    rintro e w2 ⟨rfl, hb2⟩
    go_wp2_with fail
    refine (wake17_ok _).mono ?_
    rintro e w3 ⟨rfl, hb3⟩
    go_wp2_with fail
    go_ret
    exact ⟨rfl, below_trans (HX'.out _ hb1) (below_trans hb2 hb3)⟩
  rw [hf] at hF
  have HF := Lib.hid hF; have Hf := Lib.hid hf; clear hF hf
  go_wp2_with fail
  refine HF.out.mono ?_
  rintro e w2 ⟨rfl, hb2⟩
  have hw2 := below_trans (HX'.out _ hb1) hb2
  clear HF
  have hb12 := below_trans hb1 hb2
  have a0 := cell_later hb12 a0; have a1 := cell_later hb12 a1; have b0 := cell_later hb12 b0; have b1 := cell_later hb12 b1
  clear hX0 hX1 hb1 hb2 hb12
  go_wp2_with fail
  refine (First_ok _ l da db _ (h0.below hw2) hda hdb).mono ?_
  rintro e w3 ⟨rfl, hb3⟩
  have hw3 := below_trans hw2 hb3
  have a0 := cell_later hb3 a0; have a1 := cell_later hb3 a1; have b0 := cell_later hb3 b0; have b1 := cell_later hb3 b1
  go_wp2_with fail
  refine (Bottleneck_ok _ l da db _ (h0.below hw3) hda hdb).mono ?_
  rintro e w4 ⟨up, rfl, hb4, hno, hyes⟩
  have hw4 := below_trans hw3 hb4
  have a0 := cell_later hb4 a0; have a1 := cell_later hb4 a1; have b0 := cell_later hb4 b0; have b1 := cell_later hb4 b1
  by_cases hE : (firstR l da db).2 = 0
  case neg =>
    obtain ⟨Ap, cp, rfl, _⟩ := (hno hE).cells
    have hn0 : (firstR l da db).1 = 0 := by
      rcases @first_err l da db with h1 | h1
      · exact absurd h1 hE
      · exact h1.2
    have hd : ((firstR l da db).2 != 0) = true := by simpa using hE
    rw [hn0]
    generalize (firstR l da db).2 = E at hd ⊢
    clear hno hyes hE hn0 hc a0 a1 b0 b1
    go_wp2_with fail
    go_ret
    exact ⟨rfl, hw4⟩
  obtain ⟨p, hp, hip⟩ := hyes hE
  obtain ⟨hof, k, s, hk, hs, hn⟩ := first_at hE
  obtain ⟨hkl, hj0, hj1, hpe, hpn⟩ := latest hof hk hp
  have hnd := (checkE_zero (ofE_zero hof).1).2.2
  have hl64 : l.length ≤ 64 := (checkE_zero (ofE_zero hof).1).1
  obtain ⟨Ap, cp, rfl, _⟩ := id hip
  rw [List.length_map] at hip ⊢
  rw [hE, hn]
  have Hat := Lib.hid (lastP_at (p := fun t => t.id == s.id) hs (by simp) (fun j t hj ht => by
    simp only [beq_eq_false_iff_ne]
    intro e
    have := id_at hnd ht hs e
    omega) l.length hkl (Nat.le_refl _))
  have Hla := Lib.hid (fun (hne : da ≠ db) => by
    obtain ⟨s', hs', hsp, hall⟩ := hpn hne
    exact lastP_at (p := fun t => hasB (p.map Spec.id) t.id) hs' (by rw [hasB_iff]; exact List.mem_map_of_mem (f := Spec.id) hsp) (fun j t hj ht => by
      rw [← Bool.not_eq_true, hasB_iff]
      intro hm
      obtain ⟨t', ht', e⟩ := List.mem_map.1 hm
      obtain ⟨i, hi, hti⟩ := hall t' ht'
      have := id_at hnd ht hti e.symm
      omega) l.length hkl (Nat.le_refl _))
  have Hpe := Lib.hid hpe; have Hof := Lib.hid hof
  have HJ0 := Lib.hid ((joinG_of (of_take hof k) da db).trans hj0)
  have HJ1 := Lib.hid ((joinG_of (of_take hof (k + 1)) da db).trans hj1)
  have HO0 := Lib.hid (of_take hof k); have HO1 := Lib.hid (of_take hof (k + 1))
  clear hno hyes hE hk hs hn hp hj0 hj1 hpe hpn hnd hof
  go_wp2_with fail
  go_loopw [11, 12, 13] (fun x y i wr => ∃ j : Nat, j ≤ l.length ∧ i = .int .i64 j ∧ x = .int .i64 (lastP (fun t => t.id == s.id) l j) ∧ y = .int .i64 (lastP (fun t => hasB (p.map Spec.id) t.id) l j) ∧ Below w4.heap.size w4 wr) (fun _ _ i _ => l.length - (intOf i).toNat)
  case atStart => exact ⟨0, Nat.zero_le _, rfl, rfl, rfl, Below.refl _ _⟩
  case round =>
    obtain ⟨j, hj, rfl, rfl, rfl, hb⟩ := hrel
    have hwr := below_trans hw4 hb
    by_cases hlt : j < l.length
    · obtain ⟨bo, o, rfl, _, hcb⟩ := hc j hlt
      obtain ⟨t, ht⟩ := get_of_lt hlt
      obtain ⟨y0, _⟩ := hcb wr hwr j t ht
      have e1 := lastP_succ (p := fun t => t.id == s.id) ht
      have e2 := lastP_succ (p := fun t => hasB (p.map Spec.id) t.id) ht
      have HH := Has_ok _ (p.map Spec.id) t.id wr (hip.below hb)
      generalize hP : hasB (p.map Spec.id) t.id = P at e2 HH
      generalize lastP (fun t => t.id == s.id) l j = X at e1 ⊢
      generalize lastP (fun t => hasB (p.map Spec.id) t.id) l j = Y at e2 ⊢
      have HH' := Lib.hid HH; have E1 := Lib.hid e1; have E2 := Lib.hid e2
      clear hP HH e1 e2 hc hcb ht a0 a1 b0 b1
      cases hq : (t.id == s.id)
      all_goals
        cases P
        all_goals
          rw [hq] at E1
          go_wp2_with fail
          refine HH'.out.mono ?_
          rintro e wq ⟨rfl, rfl⟩
          go_wp2_with fail
          refine ⟨?rel, ?measure⟩
          case rel => exact ⟨j + 1, by omega, by go_num, by rw [E1.out]; rfl, by rw [E2.out]; rfl, hb⟩
          case measure => first | (simp [intOf]; done) | (simp [intOf]; omega)
    · have ej : j = l.length := by omega
      subst ej
      rw [Hat.out]
      have hkl1 : (k : Int) < (l.length : Int) := by omega
      have hk0 : (0 : Int) ≤ (k : Int) := by omega
      have hk64 : (k : Int) ≤ 64 := by omega
      have hbr := hb
      have a0 := cell_later hb a0; have a1 := cell_later hb a1; have b0 := cell_later hb b0; have b1 := cell_later hb b1
      have hSr := h0.below hwr
      have hS0 := hSr.cut lenS (show k ≤ l.length by omega)
      have hS1 := hSr.cut lenS (show k + 1 ≤ l.length by omega)
      clear hc hip hb hbr
      by_cases hab : da = db
      · subst hab
        obtain rfl : p = [] := Hpe.out rfl
        clear Hla Hpe
        generalize lastP (fun t => hasB (([] : List Spec).map Spec.id) t.id) l l.length = Y
        go_wp2_with fail
        refine (Of_ok _ (l.take k) _ hS0).mono ?_
        rintro e w5 ⟨ug, rfl, hg0, hb5⟩
        rw [HO0.out]
        have hg0' := hg0
        obtain ⟨v1, v2, v3, rfl, ⟨A1x, c1x, rfl, _⟩, ⟨A2x, c2x, rfl, _⟩, ⟨A3x, c3x, rfl, _⟩⟩ := hg0
        obtain ⟨W1, W2, hW1, hW2, HzW2, hkW1, hkW2, hbW2, hltW2⟩ := fresh w5 [.slice none 0 0, .slice none 0 0, .slice none 0 0] [.slice A1x (ofG (l.take k)).obv.length c1x, .slice A2x (ofG (l.take k)).rev.length c2x, .slice A3x (ofG (l.take k)).links.length c3x] 49 rfl
        have hsW2 : ((W1.setCell ⟨w5.heap.size, 0, none⟩ (.slice A1x (ofG (l.take k)).obv.length c1x)).setCell ⟨w5.heap.size, 1, none⟩ (.slice A2x (ofG (l.take k)).rev.length c2x)).setCell ⟨w5.heap.size, 2, none⟩ (.slice A3x (ofG (l.take k)).links.length c3x) = W2 := hW2
        clear hW2
        obtain ⟨⟨z0x, z1x, z2x⟩, f0x, f1x, f2x⟩ := cells3 hkW1
        obtain ⟨⟨s0x, s1x, s2x⟩, _⟩ := cells3 hkW2
        clear hkW1 hkW2
        have hb52 := below_trans hb5 hbW2
        have a0 := cell_later hb52 a0; have a1 := cell_later hb52 a1; have b0 := cell_later hb52 b0; have b1 := cell_later hb52 b1
        have hGx := hg0'.below hbW2
        have hS1 := hS1.below hb52
        have hw5 := below_trans hwr hb52
        go_wp2_with fail
        clear z0x z1x z2x f0x f1x f2x hsW2 hW1 hS0
        refine (Of_ok _ (l.take (k + 1)) _ hS1).mono ?_
        rintro e w6 ⟨ug, rfl, hg1, hb6⟩
        rw [HO1.out]
        have hg1' := hg1
        obtain ⟨v1, v2, v3, rfl, ⟨A1y, c1y, rfl, _⟩, ⟨A2y, c2y, rfl, _⟩, ⟨A3y, c3y, rfl, _⟩⟩ := hg1
        obtain ⟨U1, U2, hU1, hU2, HzU2, hkU1, hkU2, hbU2, hltU2⟩ := fresh w6 [.slice none 0 0, .slice none 0 0, .slice none 0 0] [.slice A1y (ofG (l.take (k + 1))).obv.length c1y, .slice A2y (ofG (l.take (k + 1))).rev.length c2y, .slice A3y (ofG (l.take (k + 1))).links.length c3y] 49 rfl
        have hsU2 : ((U1.setCell ⟨w6.heap.size, 0, none⟩ (.slice A1y (ofG (l.take (k + 1))).obv.length c1y)).setCell ⟨w6.heap.size, 1, none⟩ (.slice A2y (ofG (l.take (k + 1))).rev.length c2y)).setCell ⟨w6.heap.size, 2, none⟩ (.slice A3y (ofG (l.take (k + 1))).links.length c3y) = U2 := hU2
        clear hU2
        obtain ⟨⟨z0y, z1y, z2y⟩, f0y, f1y, f2y⟩ := cells3 hkU1
        obtain ⟨⟨s0y, s1y, s2y⟩, _⟩ := cells3 hkU2
        clear hkU1 hkU2
        have hb62 := below_trans hb6 hbU2
        have a0 := cell_later hb62 a0; have a1 := cell_later hb62 a1; have b0 := cell_later hb62 b0; have b1 := cell_later hb62 b1
        have s0x := cell_later hb62 s0x; have s1x := cell_later hb62 s1x; have s2x := cell_later hb62 s2x
        have hGx := hGx.below hb62
        have hGy := hg1'.below hbU2
        have hw6 := below_trans hw5 hb62
        go_wp2_with fail
        clear z0y z1y z2y f0y f1y f2y hsU2 hU1 hS1
        refine (cJoined_ok _ (ofG (l.take k)) da da _ hGx hda hda).mono ?_
        rintro e w7 ⟨rfl, hb7⟩
        rw [HJ0.out]
        have a0 := cell_later hb7 a0; have a1 := cell_later hb7 a1; have b0 := cell_later hb7 b0; have b1 := cell_later hb7 b1
        have s0y := cell_later hb7 s0y; have s1y := cell_later hb7 s1y; have s2y := cell_later hb7 s2y
        clear s0x s1x s2x
        go_wp2_with fail
        refine (cJoined_ok _ (ofG (l.take (k + 1))) da da _ (hGy.below hb7) hda hda).mono ?_
        rintro e w8 ⟨rfl, hb8⟩
        rw [HJ1.out]
        go_wp2_with fail
        go_ret
        exact ⟨rfl, below_trans hw6 (below_trans hb7 hb8)⟩
      · rw [Hla.out hab]
        have D1 := Lib.hid (dieNe hab)
        clear hab Hla Hpe
        rcases D1.out with d1 | ⟨d1, d2⟩
        all_goals
          go_wp2_with fail
          refine (Of_ok _ (l.take k) _ hS0).mono ?_
          rintro e w5 ⟨ug, rfl, hg0, hb5⟩
          rw [HO0.out]
          have hg0' := hg0
          obtain ⟨v1, v2, v3, rfl, ⟨A1x, c1x, rfl, _⟩, ⟨A2x, c2x, rfl, _⟩, ⟨A3x, c3x, rfl, _⟩⟩ := hg0
          obtain ⟨W1, W2, hW1, hW2, HzW2, hkW1, hkW2, hbW2, hltW2⟩ := fresh w5 [.slice none 0 0, .slice none 0 0, .slice none 0 0] [.slice A1x (ofG (l.take k)).obv.length c1x, .slice A2x (ofG (l.take k)).rev.length c2x, .slice A3x (ofG (l.take k)).links.length c3x] 49 rfl
          have hsW2 : ((W1.setCell ⟨w5.heap.size, 0, none⟩ (.slice A1x (ofG (l.take k)).obv.length c1x)).setCell ⟨w5.heap.size, 1, none⟩ (.slice A2x (ofG (l.take k)).rev.length c2x)).setCell ⟨w5.heap.size, 2, none⟩ (.slice A3x (ofG (l.take k)).links.length c3x) = W2 := hW2
          clear hW2
          obtain ⟨⟨z0x, z1x, z2x⟩, f0x, f1x, f2x⟩ := cells3 hkW1
          obtain ⟨⟨s0x, s1x, s2x⟩, _⟩ := cells3 hkW2
          clear hkW1 hkW2
          have hb52 := below_trans hb5 hbW2
          have a0 := cell_later hb52 a0; have a1 := cell_later hb52 a1; have b0 := cell_later hb52 b0; have b1 := cell_later hb52 b1
          have hGx := hg0'.below hbW2
          have hS1 := hS1.below hb52
          have hw5 := below_trans hwr hb52
          go_wp2_with fail
          clear z0x z1x z2x f0x f1x f2x hsW2 hW1 hS0
          refine (Of_ok _ (l.take (k + 1)) _ hS1).mono ?_
          rintro e w6 ⟨ug, rfl, hg1, hb6⟩
          rw [HO1.out]
          have hg1' := hg1
          obtain ⟨v1, v2, v3, rfl, ⟨A1y, c1y, rfl, _⟩, ⟨A2y, c2y, rfl, _⟩, ⟨A3y, c3y, rfl, _⟩⟩ := hg1
          obtain ⟨U1, U2, hU1, hU2, HzU2, hkU1, hkU2, hbU2, hltU2⟩ := fresh w6 [.slice none 0 0, .slice none 0 0, .slice none 0 0] [.slice A1y (ofG (l.take (k + 1))).obv.length c1y, .slice A2y (ofG (l.take (k + 1))).rev.length c2y, .slice A3y (ofG (l.take (k + 1))).links.length c3y] 49 rfl
          have hsU2 : ((U1.setCell ⟨w6.heap.size, 0, none⟩ (.slice A1y (ofG (l.take (k + 1))).obv.length c1y)).setCell ⟨w6.heap.size, 1, none⟩ (.slice A2y (ofG (l.take (k + 1))).rev.length c2y)).setCell ⟨w6.heap.size, 2, none⟩ (.slice A3y (ofG (l.take (k + 1))).links.length c3y) = U2 := hU2
          clear hU2
          obtain ⟨⟨z0y, z1y, z2y⟩, f0y, f1y, f2y⟩ := cells3 hkU1
          obtain ⟨⟨s0y, s1y, s2y⟩, _⟩ := cells3 hkU2
          clear hkU1 hkU2
          have hb62 := below_trans hb6 hbU2
          have a0 := cell_later hb62 a0; have a1 := cell_later hb62 a1; have b0 := cell_later hb62 b0; have b1 := cell_later hb62 b1
          have s0x := cell_later hb62 s0x; have s1x := cell_later hb62 s1x; have s2x := cell_later hb62 s2x
          have hGx := hGx.below hb62
          have hGy := hg1'.below hbU2
          have hw6 := below_trans hw5 hb62
          go_wp2_with fail
          clear z0y z1y z2y f0y f1y f2y hsU2 hU1 hS1
          refine (cJoined_ok _ (ofG (l.take k)) da db _ hGx hda hdb).mono ?_
          rintro e w7 ⟨rfl, hb7⟩
          rw [HJ0.out]
          have a0 := cell_later hb7 a0; have a1 := cell_later hb7 a1; have b0 := cell_later hb7 b0; have b1 := cell_later hb7 b1
          have s0y := cell_later hb7 s0y; have s1y := cell_later hb7 s1y; have s2y := cell_later hb7 s2y
          clear s0x s1x s2x
          go_wp2_with fail
          refine (cJoined_ok _ (ofG (l.take (k + 1))) da db _ (hGy.below hb7) hda hdb).mono ?_
          rintro e w8 ⟨rfl, hb8⟩
          rw [HJ1.out]
          go_wp2_with fail
          go_ret
          exact ⟨rfl, below_trans hw6 (below_trans hb7 hb8)⟩
theorem latest_walk' (v : Value) (l : List Spec) (da db : Die) (w : World) (h : Specs w v l) (a1 : wfI da.side) (a2 : wfI da.num) (b1 : wfI db.side) (b2 : wfI db.num) :
    Calls Try.prog 6 #[v, vlD da, vlD db] w fun e w' => e = .returned (.bool true) ∧ Below w.heap.size w w' := latest_walk v l da db w h ⟨a1, a2⟩ ⟨b1, b2⟩

set_option maxRecDepth 100000 in
theorem latest_lifted (os : Os) (started : os.Started) (H : Type) (enc : TypeId × Value → H) :
    ReturnsInHanded {} Try.checked os 6 .any (Rows.joiningLatestSpec.pre6 enc Try.prog Try.f6 Rows.joiningLatestRow.domain false) (Rows.joiningLatestSpec.post enc Try.prog Try.f6 false true false false) := by
  refine returnsInHanded_of_change (C := Try.checked) Try.own started (by kernel_rfl) Try.func6
    (ChangeSpec.witness6 (enc := enc) (C := Try.checked) false ⟨#[], #[.slice none 0 0, .agg #[.int .i64 0, .int .i64 0], .agg #[.int .i64 0, .int .i64 0]], []⟩ 8 (by kernel_rfl) (by kernel_rfl) (by kernel_rfl) (by kernel_rfl)) ?_
  intro W base args ds gs before hval0 hW hcnd _
  have hval : ∀ (j : Nat) t v, Try.f6.params[j]? = some t → args[j]? = some v → Value.okWide Try.prog W .any base t v := hval0
  have hW' := hW
  obtain ⟨p, q, hA0, hV, rfl, hfz, hnd⟩ := hW
  have hA : DataW.TrodAll enc Try.prog W 0 (fun _ => true) true Try.f6.params.toList args.toList ds p := hA0
  rw [Try.params6] at hA hval
  obtain ⟨v0, v1, v2, d0, d1, d2, p0, p1, p2, rfl, rfl, rfl, h0, h1, h2⟩ := trodAll_three hA
  obtain ⟨rfl, rfl⟩ := trodVars_none hV
  have k0 := h0
  have lt0 : ∀ x ∈ p0, x.block < W.heap.size := by obtain ⟨m, hm⟩ := k0; exact DataW.trod_lt m _ _ _ hm
  obtain ⟨x0, hx0⟩ := opens_specs (hval 0 22 v0 rfl rfl) h0
  have k1 := h1
  have lt1 : ∀ x ∈ p1, x.block < W.heap.size := by obtain ⟨m, hm⟩ := k1; exact DataW.trod_lt m _ _ _ hm
  obtain ⟨x1, rfl, wa1, wb1⟩ := opens_die (hval 1 40 v1 rfl rfl) h1
  have k2 := h2
  have lt2 : ∀ x ∈ p2, x.block < W.heap.size := by obtain ⟨m, hm⟩ := k2; exact DataW.trod_lt m _ _ _ hm
  obtain ⟨x2, rfl, wa2, wb2⟩ := opens_die (hval 2 40 v2 rfl rfl) h2
  clear hA0 hval0
  refine (latest_walk' v0 x0 x1 x2 W hx0 wa1 wb1 wa2 wb2).mono fun e W' ⟨he, bel⟩ => ?_
  subst he
  exact ⟨_, rfl, _, _, _, [], _, [], hW', trodAll_mk1 (shut_bool Try.underlying4 _), trodAll_mk3 (Below.trod Try.laidOut (by kernel_rfl) (of_decide_eq_true (by kernel_rfl)) k0 bel lt0) (Below.trod Try.laidOut (by kernel_rfl) (of_decide_eq_true (by kernel_rfl)) k1 bel lt1) (Below.trod Try.laidOut (by kernel_rfl) (of_decide_eq_true (by kernel_rfl)) k2 bel lt2), rfl, bel.frame _, fun h => by cases h⟩

theorem latest_holds : Rows.JoiningLatestSaid :=
  OpenClaim.holds_of_wide 6 Try.f6 rfl rfl rfl rfl rfl rfl rfl ⟨rfl, rfl, rfl, rfl, rfl⟩ rfl rfl rfl rfl rfl (by kernel_rfl) Try.func6 (by kernel_rfl)
    (of_decide_eq_true (by kernel_rfl)) (by unfold Func.isWrapper; first | (rw [if_pos (by decide +kernel)]; kernel_rfl) | (rw [if_neg (by decide +kernel)]; exact ⟨rfl, rfl⟩))
    (fun os started H enc _ => latest_lifted os started H enc)
end Go.Proofs.Ytcpobcfncmcakaa
