/- For every graph and all lists of numbers, LinkageNames returns true, and the arguments read as they did. No condition. -/
import Derived.Test.YtifgpmhkdnmhlaaRows
import Derived.Test.YtifgpmhkdnmhlaaAwake
import Derived.Test.YtifgpmhkdnmhlaaOpenW
import Derived.Test.YtifgpmhkdnmhlaaReadA
import Derived.Test.YtifgpmhkdnmhlaaRenP
namespace Go.Proofs.Ytifgpmhkdnmhlaa
open Go.RowKit Go.Shelf Go.ChangeShapes Go.WideShapes Go.ChangeAt

set_option maxHeartbeats 8000000 in
set_option maxRecDepth 100000 in
theorem nam_walk (v u z : Value) (g : Graph) (o r : List Int) (w : World) (h : GraphAt w v g) (wgo : ∀ x ∈ g.obv, wfI x) (wgr : ∀ x ∈ g.rev, wfI x) (hu : Ints w u o) (wo : ∀ x ∈ o, wfI x) (hz : Ints w z r) (wr : ∀ x ∈ r, wfI x) :
    Calls Try.prog 9 #[v, u, z] w fun e w' => e = .returned (.bool true) ∧ Below w.heap.size w w' := by
  obtain ⟨A4, c4, rfl, _, _, hcu⟩ := hu.cells
  obtain ⟨A5, c5, rfl, _, _, hcz⟩ := hz.cells
  by_cases q1 : o.length ≤ 60
  case neg =>
    have d1 : decide ((60 : Int) < (o.length : Int)) = true := by simp; omega
    have h0 := h
    obtain ⟨v1, v2, v3, rfl, ho, hr, hl⟩ := h
    obtain ⟨A1, c1, rfl, _, _, hco⟩ := ho.cells
    obtain ⟨A2, c2, rfl, _, _, hcr⟩ := hr.cells
    obtain ⟨A3, c3, rfl, _, _, _⟩ := hl.cells
    obtain ⟨W, hW, Hz, hwW, hlt0, hc0⟩ := boxed w #[.slice A1 g.obv.length c1, .slice A2 g.rev.length c2, .slice A3 g.links.length c3] 27
    have a0 := hc0 0 _ rfl; have a1 := hc0 1 _ rfl; have a2 := hc0 2 _ rfl
    clear hc0 ho hr hl
    go_enter Try.func9, Try.ntmps9
    go_wp2_with fail
    refine (awake_ok _).mono ?_
    rintro e w1 ⟨rfl, hb1⟩
    clear hW
    have a0' := cell_later hb1 a0; have a1' := cell_later hb1 a1; have a2' := cell_later hb1 a2
    have hw1 := below_trans hwW hb1
    clear a0 a1 a2
    have hF := few_ok _ _ w1 (h0.below hw1)
    cases hf : fewB g
    · rw [hf] at hF
      have HF := Lib.hid hF; clear hF hf
      go_wp2_with fail
      refine HF.out.mono ?_
      rintro e w2 ⟨rfl, hb2⟩
      go_wp2_with fail
      refine (awake_ok _).mono ?_
      rintro e w3 ⟨rfl, hb3⟩
      go_wp2_with fail
      go_ret
      exact ⟨rfl, below_trans hw1 (below_trans hb2 hb3)⟩
    rw [hf] at hF
    have HF := Lib.hid hF; have Hf := Lib.hid hf; clear hF hf
    go_wp2_with fail
    refine HF.out.mono ?_
    rintro e w2 ⟨rfl, hb2⟩
    have a0 := cell_later hb2 a0'; have a1 := cell_later hb2 a1'; have a2 := cell_later hb2 a2'
    have hw2 := below_trans hw1 hb2
    clear a0' a1' a2'
    go_wp2_with fail
    refine (awake_ok _).mono ?_
    rintro e w3 ⟨rfl, hb3⟩
    go_wp2_with fail
    go_ret
    exact ⟨rfl, below_trans hw2 hb3⟩
  have d1 : decide ((60 : Int) < (o.length : Int)) = false := by simp; omega
  by_cases q2 : r.length ≤ 60
  case neg =>
    have d2 : decide ((60 : Int) < (r.length : Int)) = true := by simp; omega
    have h0 := h
    obtain ⟨v1, v2, v3, rfl, ho, hr, hl⟩ := h
    obtain ⟨A1, c1, rfl, _, _, hco⟩ := ho.cells
    obtain ⟨A2, c2, rfl, _, _, hcr⟩ := hr.cells
    obtain ⟨A3, c3, rfl, _, _, _⟩ := hl.cells
    obtain ⟨W, hW, Hz, hwW, hlt0, hc0⟩ := boxed w #[.slice A1 g.obv.length c1, .slice A2 g.rev.length c2, .slice A3 g.links.length c3] 27
    have a0 := hc0 0 _ rfl; have a1 := hc0 1 _ rfl; have a2 := hc0 2 _ rfl
    clear hc0 ho hr hl
    go_enter Try.func9, Try.ntmps9
    go_wp2_with fail
    refine (awake_ok _).mono ?_
    rintro e w1 ⟨rfl, hb1⟩
    clear hW
    have a0' := cell_later hb1 a0; have a1' := cell_later hb1 a1; have a2' := cell_later hb1 a2
    have hw1 := below_trans hwW hb1
    clear a0 a1 a2
    have hF := few_ok _ _ w1 (h0.below hw1)
    cases hf : fewB g
    · rw [hf] at hF
      have HF := Lib.hid hF; clear hF hf
      go_wp2_with fail
      refine HF.out.mono ?_
      rintro e w2 ⟨rfl, hb2⟩
      go_wp2_with fail
      refine (awake_ok _).mono ?_
      rintro e w3 ⟨rfl, hb3⟩
      go_wp2_with fail
      go_ret
      exact ⟨rfl, below_trans hw1 (below_trans hb2 hb3)⟩
    rw [hf] at hF
    have HF := Lib.hid hF; have Hf := Lib.hid hf; clear hF hf
    go_wp2_with fail
    refine HF.out.mono ?_
    rintro e w2 ⟨rfl, hb2⟩
    have a0 := cell_later hb2 a0'; have a1 := cell_later hb2 a1'; have a2 := cell_later hb2 a2'
    have hw2 := below_trans hw1 hb2
    clear a0' a1' a2'
    go_wp2_with fail
    refine (awake_ok _).mono ?_
    rintro e w3 ⟨rfl, hb3⟩
    go_wp2_with fail
    go_ret
    exact ⟨rfl, below_trans hw2 hb3⟩
  have d2 : decide ((60 : Int) < (r.length : Int)) = false := by simp; omega
  have gl : fewB g = true → g.obv.length ≤ 60 ∧ g.rev.length ≤ 60 := fun h => by simp only [fewB, Bool.and_eq_true, decide_eq_true_eq] at h; exact h.1
  have Gl := Lib.hid gl; clear gl
  have hsl : ∃ v1 v2 v3, v = .agg #[v1, v2, v3] ∧ Ints w v1 g.obv ∧ Ints w v2 g.rev := by obtain ⟨v1, v2, v3, e, a, b, _⟩ := h; exact ⟨v1, v2, v3, e, a, b⟩
  have Hsl := Lib.hid hsl; clear hsl
  have h0 := h
  obtain ⟨v1, v2, v3, rfl, ho, hr, hl⟩ := h
  obtain ⟨A1, c1, rfl, _, _, hco⟩ := ho.cells
  obtain ⟨A2, c2, rfl, _, _, hcr⟩ := hr.cells
  obtain ⟨A3, c3, rfl, _, _, _⟩ := hl.cells
  obtain ⟨W, hW, Hz, hwW, hlt0, hc0⟩ := boxed w #[.slice A1 g.obv.length c1, .slice A2 g.rev.length c2, .slice A3 g.links.length c3] 27
  have a0 := hc0 0 _ rfl; have a1 := hc0 1 _ rfl; have a2 := hc0 2 _ rfl
  clear hc0 ho hr hl
  go_enter Try.func9, Try.ntmps9
  go_wp2_with fail
  refine (awake_ok _).mono ?_
  rintro e w1 ⟨rfl, hb1⟩
  clear hW
  have a0' := cell_later hb1 a0; have a1' := cell_later hb1 a1; have a2' := cell_later hb1 a2
  have hw1 := below_trans hwW hb1
  clear a0 a1 a2
  have hF := few_ok _ _ w1 (h0.below hw1)
  cases hf : fewB g
  · rw [hf] at hF
    have HF := Lib.hid hF; clear hF hf
    go_wp2_with fail
    refine HF.out.mono ?_
    rintro e w2 ⟨rfl, hb2⟩
    go_wp2_with fail
    refine (awake_ok _).mono ?_
    rintro e w3 ⟨rfl, hb3⟩
    go_wp2_with fail
    go_ret
    exact ⟨rfl, below_trans hw1 (below_trans hb2 hb3)⟩
  rw [hf] at hF
  have HF := Lib.hid hF; have Hf := Lib.hid hf; clear hF hf
  go_wp2_with fail
  refine HF.out.mono ?_
  rintro e w2 ⟨rfl, hb2⟩
  have a0 := cell_later hb2 a0'; have a1 := cell_later hb2 a1'; have a2 := cell_later hb2 a2'
  have hw2 := below_trans hw1 hb2
  clear a0' a1' a2'
  go_wp2_with fail
  have hsl := Hsl.out
  obtain ⟨z1, z2, z3, ez, hgo, hgr⟩ := hsl
  cases ez
  have hgl := Gl.out Hf.out
  clear Hsl Gl
  refine (Renamed_ok _ _ _ g g.obv g.rev _ (h0.below hw2) (hgo.below hw2) (hgr.below hw2) (by omega) (by omega) wgo wgr wgo wgr).mono ?_
  rintro e w3 ⟨y, rfl, hy, hb3⟩
  have hw3 := below_trans hw2 hb3
  replace a0 := cell_later hb3 a0; replace a1 := cell_later hb3 a1; replace a2 := cell_later hb3 a2
  have hEs : renE g g.obv g.rev = validE g := by unfold renE validE; rw [renOK_self]
  rw [hEs]
  clear hEs
  have hGz : ∃ G, renG g g.obv g.rev = G := ⟨_, rfl⟩
  obtain ⟨G, hG⟩ := hGz
  rw [hG] at hy
  have hy' := hy
  obtain ⟨x1, x2, x3, rfl, ho', hr', hl'⟩ := hy
  obtain ⟨A1y, c1y, rfl, _, _, _⟩ := ho'.cells
  obtain ⟨A2y, c2y, rfl, _, _, _⟩ := hr'.cells
  obtain ⟨A3y, c3y, rfl, _, _, _⟩ := hl'.cells
  clear ho' hr' hl'
  obtain ⟨W4, hW4, HzW4, hbW4, hltW4, hcW4⟩ := boxed w3 #[.slice A1y (G).obv.length c1y, .slice A2y (G).rev.length c2y, .slice A3y (G).links.length c3y] 27
  have y_0 := hcW4 0 _ rfl; have y_1 := hcW4 1 _ rfl; have y_2 := hcW4 2 _ rfl
  clear hcW4
  have hw4 := below_trans hw3 hbW4
  replace a0 := cell_later hbW4 a0; replace a1 := cell_later hbW4 a1; replace a2 := cell_later hbW4 a2
  cases hg : graphB g
  · have hV : validE g = 1 := by simp [validE, hg]
    rw [hV]
    have hVa := Valid_ok _ _ _ (h0.below hw4)
    rw [hg] at hVa
    have HVa := Lib.hid hVa; clear hVa hg hV
    go_wp2_with fail
    refine HVa.out.mono ?_
    rintro e w5 ⟨rfl, hb5⟩
    go_wp2_with fail
    go_ret
    exact ⟨rfl, below_trans hw4 hb5⟩
  have hV : validE g = 0 := by simp [validE, hg]
  rw [hV]
  have hGg : G = g := by rw [← hG]; exact renG_self hg
  have Hg := Lib.hid hg
  have hQ := Graphs_ok _ _ _ _ _ (hy'.below hbW4) (h0.below hw4)
  rw [show decide (G = g) = true by simp [hGg]] at hQ
  have HQ := Lib.hid hQ; clear hQ hy' hGg hG hg hV
  go_wp2_with fail
  refine HQ.out.mono ?_
  rintro e w5 ⟨rfl, hb5⟩
  have hw5 := below_trans hw4 hb5
  replace a0 := cell_later hb5 a0; replace a1 := cell_later hb5 a1; replace a2 := cell_later hb5 a2
  clear HQ y_0 y_1 y_2 hW4
  go_wp2_with fail
  refine (Renamed_ok _ _ _ g o r _ (h0.below hw5) (hu.below hw5) (hz.below hw5) (by omega) (by omega) wgo wgr wo wr).mono ?_
  rintro e w6' ⟨y, rfl, hy, hb6⟩
  have hw6' := below_trans hw5 hb6
  replace a0 := cell_later hb6 a0; replace a1 := cell_later hb6 a1; replace a2 := cell_later hb6 a2
  have hGz : ∃ G', renG g o r = G' := ⟨_, rfl⟩
  obtain ⟨G', hG⟩ := hGz
  rw [hG] at hy
  have hy' := hy
  obtain ⟨x1, x2, x3, rfl, ho', hr', hl'⟩ := hy
  obtain ⟨A1y, c1y, rfl, _, _, _⟩ := ho'.cells
  obtain ⟨A2y, c2y, rfl, _, _, _⟩ := hr'.cells
  obtain ⟨A3y, c3y, rfl, _, _, _⟩ := hl'.cells
  clear ho' hr' hl'
  obtain ⟨w6, hw6, Hzw6, hbw6, hltw6, hcw6⟩ := boxed w6' #[.slice A1y (G').obv.length c1y, .slice A2y (G').rev.length c2y, .slice A3y (G').links.length c3y] 27
  have y_0 := hcw6 0 _ rfl; have y_1 := hcw6 1 _ rfl; have y_2 := hcw6 2 _ rfl
  clear hcw6
  have hw6 := below_trans hw6' hbw6
  replace a0 := cell_later hbw6 a0; replace a1 := cell_later hbw6 a1; replace a2 := cell_later hbw6 a2
  cases hok : renOK g o r
  · have hE : renE g o r = 1 := by simp [renE, hok]
    rw [hE]
    clear hE hok hG hy'
    go_wp2_with fail
    go_ret
    exact ⟨rfl, hw6⟩
  have hE : renE g o r = 0 := by simp [renE, hok]
  rw [hE]
  have hll : G'.links.length = g.links.length := by rw [← hG]; exact renG_links hok
  obtain ⟨_, no, nr⟩ := renOK_iff.1 hok
  have hlo := no.len; have hlr := nr.len
  have hV' : graphB G' = true := by rw [← hG]; exact renG_valid hok
  have D0 : Hid (∀ (k : Nat) (a b : Int), g.obv[k]? = some a → o[k]? = some b → degI G' ⟨0, b⟩ = degI g ⟨0, a⟩) := fun k a b ha hb => by rw [← hG]; exact ren_deg0 hok ha hb
  have D1 : Hid (∀ (k : Nat) (a b : Int), g.rev[k]? = some a → r[k]? = some b → degI G' ⟨1, b⟩ = degI g ⟨1, a⟩) := fun k a b ha hb => by rw [← hG]; exact ren_deg1 hok ha hb
  have t1 : ((G'.links.length : Int) != (g.links.length : Int)) = false := by simp; omega
  have t2 : ((o.length : Int) != (g.obv.length : Int)) = false := by simp; omega
  have t3 : ((r.length : Int) != (g.rev.length : Int)) = false := by simp; omega
  have Hlo := Lib.hid hlo; have Hlr := Lib.hid hlr; have HV' := Lib.hid hV'
  have hG6 := hy'.below hbw6
  clear hE hok hG hy' hll no nr hlo hlr hV'
  go_wp2_with fail
  go_loopw [11] (fun i wr => ∃ k : Nat, k ≤ (o).length ∧ i = .int .i64 k ∧ Below w6.heap.size w6 wr) (fun i _ => (o).length - (intOf i).toNat)
  case atStart => exact ⟨0, Nat.zero_le _, rfl, Below.refl _ _⟩
  case round =>
    obtain ⟨k, hk, rfl, hb⟩ := hrel
    have hbw := hw6.trans (hb.mono hw6.size)
    by_cases hlt' : k < (o).length
    · obtain ⟨b, hb'⟩ := get_of_lt hlt'
      obtain ⟨a, ha⟩ := get_of_lt (show k < (g.obv).length by have := Hlo.out; omega)
      obtain ⟨b4, o4, rfl, _, hc4⟩ := hcu k hlt'
      obtain ⟨b5, o5, rfl, _, hc5⟩ := hco k (lt_of_get ha)
      have n0 := Later.cell_all (cell_later hb a0); have n1 := Later.cell_all (cell_later hb a1); have n2 := Later.cell_all (cell_later hb a2)
      have m0 := Later.cell_all (cell_later hb y_0); have m1 := Later.cell_all (cell_later hb y_1); have m2 := Later.cell_all (cell_later hb y_2)
      have s0 := Later.cell_all (hc4 wr hbw k b hb'); have s1 := Later.cell_all (hc5 wr hbw k a ha)
      have hD1 : ∀ q : Later wr, _ := fun q => Degree_ok _ _ ⟨0, b⟩ q.to (hG6.below (below_trans hb q.h))
      have hD2 : ∀ q : Later wr, _ := fun q => Degree_ok _ _ ⟨0, a⟩ q.to (h0.below (below_trans hbw q.h))
      rw [D0.out k a b ha hb'] at hD1
      have HD1 := Lib.hid hD1; have HD2 := Lib.hid hD2
      have hlk := lt_of_get ha
      clear hD1 hD2 hc4 hc5 hb' ha
      have i1 : (k : Int) < ((o).length : Int) := by omega
      have i2 : (0 : Int) ≤ (k : Int) := by omega
      have i3 : (k : Int) < ((g.obv).length : Int) := by omega
      have hne : (degI g ⟨0, a⟩ != degI g ⟨0, a⟩) = false := by simp
      go_wp2_with fail
      refine wp_region_later (by kernel_rfl) (by kernel_rfl) ?_
      repeat (go_big_quiet_step (first | (go_at_call 24; with_reducible exact calls_later (HD1.out _)) | (go_at_call 24; with_reducible exact calls_later (HD2.out _))))
      refine wpQuiet_nil ?_
      intro _ hw'
      obtain ⟨xq, hw''⟩ := hw'
      subst hw''
      have hba := xq.h
      generalize xq.to = wa at hba ⊢
      go_wp2_with fail
      refine ⟨?rel, ?measure⟩
      case rel => exact ⟨k + 1, by omega, by go_num, below_trans hb hba⟩
      case measure => first | (simp [intOf]; done) | (simp [intOf]; omega)
    · have hb0 := hb
      go_wp2_with fail
      go_loopw [12] (fun i wr => ∃ k : Nat, k ≤ (r).length ∧ i = .int .i64 k ∧ Below w6.heap.size w6 wr) (fun i _ => (r).length - (intOf i).toNat)
      case atStart => exact ⟨0, Nat.zero_le _, rfl, hb⟩
      case round =>
        clear hb0 hb hbw hlt' hk
        obtain ⟨k, hk, rfl, hb⟩ := hrel
        have hbw := hw6.trans (hb.mono hw6.size)
        by_cases hlt' : k < (r).length
        · obtain ⟨b, hb'⟩ := get_of_lt hlt'
          obtain ⟨a, ha⟩ := get_of_lt (show k < (g.rev).length by have := Hlr.out; omega)
          obtain ⟨b4, o4, rfl, _, hc4⟩ := hcz k hlt'
          obtain ⟨b5, o5, rfl, _, hc5⟩ := hcr k (lt_of_get ha)
          have n0 := Later.cell_all (cell_later hb a0); have n1 := Later.cell_all (cell_later hb a1); have n2 := Later.cell_all (cell_later hb a2)
          have m0 := Later.cell_all (cell_later hb y_0); have m1 := Later.cell_all (cell_later hb y_1); have m2 := Later.cell_all (cell_later hb y_2)
          have s0 := Later.cell_all (hc4 wr hbw k b hb'); have s1 := Later.cell_all (hc5 wr hbw k a ha)
          have hD1 : ∀ q : Later wr, _ := fun q => Degree_ok _ _ ⟨1, b⟩ q.to (hG6.below (below_trans hb q.h))
          have hD2 : ∀ q : Later wr, _ := fun q => Degree_ok _ _ ⟨1, a⟩ q.to (h0.below (below_trans hbw q.h))
          rw [D1.out k a b ha hb'] at hD1
          have HD1 := Lib.hid hD1; have HD2 := Lib.hid hD2
          have hlk := lt_of_get ha
          clear hD1 hD2 hc4 hc5 hb' ha
          have i1 : (k : Int) < ((r).length : Int) := by omega
          have i2 : (0 : Int) ≤ (k : Int) := by omega
          have i3 : (k : Int) < ((g.rev).length : Int) := by omega
          have hne : (degI g ⟨1, a⟩ != degI g ⟨1, a⟩) = false := by simp
          go_wp2_with fail
          refine wp_region_later (by kernel_rfl) (by kernel_rfl) ?_
          repeat (go_big_quiet_step (first | (go_at_call 24; with_reducible exact calls_later (HD1.out _)) | (go_at_call 24; with_reducible exact calls_later (HD2.out _))))
          refine wpQuiet_nil ?_
          intro _ hw'
          obtain ⟨xq, hw''⟩ := hw'
          subst hw''
          have hba := xq.h
          generalize xq.to = wa at hba ⊢
          go_wp2_with fail
          refine ⟨?rel, ?measure⟩
          case rel => exact ⟨k + 1, by omega, by go_num, below_trans hb hba⟩
          case measure => first | (simp [intOf]; done) | (simp [intOf]; omega)
        · have m0 := cell_later hb y_0; have m1 := cell_later hb y_1; have m2 := cell_later hb y_2
          have hVa := Valid_ok _ _ _ (hG6.below hb)
          rw [HV'.out] at hVa
          have HVa := Lib.hid hVa; clear hVa
          go_wp2_with fail
          refine HVa.out.mono ?_
          rintro e w8 ⟨rfl, hb8⟩
          go_wp2_with fail
          go_ret
          exact ⟨rfl, below_trans hbw hb8⟩
theorem nam_walk' (v : Value) (g : Graph) (u : Value) (o : List Int) (z : Value) (r : List Int) (w : World) (h : GraphAt w v g) (wgo : ∀ x ∈ g.obv, wfI x) (wgr : ∀ x ∈ g.rev, wfI x) (hu : Ints w u o) (wo : ∀ x ∈ o, wfI x) (hz : Ints w z r) (wr : ∀ x ∈ r, wfI x) :
    Calls Try.prog 9 #[v, u, z] w fun e w' => e = .returned (.bool true) ∧ Below w.heap.size w w' := nam_walk v u z g o r w h wgo wgr hu wo hz wr

set_option maxRecDepth 100000 in
theorem nam_lifted (os : Os) (started : os.Started) (H : Type) (enc : TypeId × Value → H) :
    ReturnsInHanded {} Try.checked os 9 .any (Rows.linkageNamesSpec.pre6 enc Try.prog Try.f9 Rows.linkageNamesRow.domain false) (Rows.linkageNamesSpec.post enc Try.prog Try.f9 false true false false) := by
  refine returnsInHanded_of_change (C := Try.checked) Try.own started (by kernel_rfl) Try.func9
    (ChangeSpec.witness6 (enc := enc) (C := Try.checked) false ⟨#[], #[.agg #[.slice none 0 0, .slice none 0 0, .slice none 0 0], .slice none 0 0, .slice none 0 0], []⟩ 8 (by kernel_rfl) (by kernel_rfl) (by kernel_rfl) (by kernel_rfl)) ?_
  intro W base args ds gs before hval0 hW hcnd _
  have hval : ∀ (j : Nat) t v, Try.f9.params[j]? = some t → args[j]? = some v → Value.okWide Try.prog W .any base t v := hval0
  have hW' := hW
  obtain ⟨p, q, hA0, hV, rfl, hfz, hnd⟩ := hW
  have hA : DataW.TrodAll enc Try.prog W 0 (fun _ => true) true Try.f9.params.toList args.toList ds p := hA0
  rw [Try.params9] at hA hval
  obtain ⟨v0, v1, v2, d0, d1, d2, p0, p1, p2, rfl, rfl, rfl, h0, h1, h2⟩ := trodAll_three hA
  obtain ⟨rfl, rfl⟩ := trodVars_none hV
  have k0 := h0
  have lt0 : ∀ x ∈ p0, x.block < W.heap.size := by obtain ⟨m, hm⟩ := k0; exact DataW.trod_lt m _ _ _ hm
  obtain ⟨g0, hg0, wa0, wb0⟩ := opens_graph_wf (hval 0 27 v0 rfl rfl) h0
  have k1 := h1
  have lt1 : ∀ x ∈ p1, x.block < W.heap.size := by obtain ⟨m, hm⟩ := k1; exact DataW.trod_lt m _ _ _ hm
  obtain ⟨x1, hx1, wa1⟩ := opens_ints_wf (hval 1 24 v1 rfl rfl) h1
  have k2 := h2
  have lt2 : ∀ x ∈ p2, x.block < W.heap.size := by obtain ⟨m, hm⟩ := k2; exact DataW.trod_lt m _ _ _ hm
  obtain ⟨x2, hx2, wa2⟩ := opens_ints_wf (hval 2 24 v2 rfl rfl) h2
  clear hA0 hval0
  refine (nam_walk' v0 g0 v1 x1 v2 x2 W hg0 wa0 wb0 hx1 wa1 hx2 wa2).mono fun e W' ⟨he, bel⟩ => ?_
  subst he
  exact ⟨_, rfl, _, _, _, [], _, [], hW', trodAll_mk1 (shut_bool Try.underlying4 _), trodAll_mk3 (Below.trod Try.laidOut (by kernel_rfl) (of_decide_eq_true (by kernel_rfl)) k0 bel lt0) (Below.trod Try.laidOut (by kernel_rfl) (of_decide_eq_true (by kernel_rfl)) k1 bel lt1) (Below.trod Try.laidOut (by kernel_rfl) (of_decide_eq_true (by kernel_rfl)) k2 bel lt2), rfl, bel.frame _, fun h => by cases h⟩

theorem nam_holds : Rows.LinkageNamesSaid :=
  OpenClaim.holds_of_wide 9 Try.f9 rfl rfl rfl rfl rfl rfl rfl ⟨rfl, rfl, rfl, rfl, rfl⟩ rfl rfl rfl rfl rfl (by kernel_rfl) Try.func9 (by kernel_rfl)
    (of_decide_eq_true (by kernel_rfl)) (by unfold Func.isWrapper; first | (rw [if_pos (by decide +kernel)]; kernel_rfl) | (rw [if_neg (by decide +kernel)]; exact ⟨rfl, rfl⟩))
    (fun os started H enc _ => nam_lifted os started H enc)
end Go.Proofs.Ytifgpmhkdnmhlaa
