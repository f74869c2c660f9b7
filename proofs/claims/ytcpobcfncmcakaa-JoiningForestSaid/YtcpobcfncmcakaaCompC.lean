/- component.in, away, Joined. Condition: the graph in its memory, the dies' numbers are numbers. -/
import Derived.Test.YtcpobcfncmcakaaCompB
import Derived.Test.YtcpobcfncmcakaaCovG
import Derived.Test.YtcpobcfncmcakaaForP
namespace Go.Proofs.Ytcpobcfncmcakaa
open Go.RowKit Go.Maps

theorem ascB_bounds {xs : List Int} {lo hi : Int} (h : ascB xs lo hi = true) : ∀ x ∈ xs, lo ≤ x ∧ x ≤ hi := by
  simp only [ascB, decide_eq_true_eq] at h
  exact h.1
theorem linkWf {g : Graph} (hg : graphB g = true) : LinkWf g := fun x hx => by
  have hok := (graphB_iff g).1 hg
  have hE := graphB_ends hg
  have h1 := ascB_bounds hok.ao _ (hE.1 x hx)
  have h2 := ascB_bounds hok.ar _ (hE.2 x hx)
  exact ⟨⟨wfN (n := 0) (by omega), show wfI x.obv from wf_small (by omega) (by omega)⟩, ⟨wfN (n := 1) (by omega), show wfI x.rev from wf_small (by omega) (by omega)⟩⟩
set_option maxHeartbeats 2000000 in
theorem cIn_ok (v : Value) (g : Graph) (d : Die) (w : World) (h : GraphAt w v g) :
    Calls Try.prog 57 #[v, vlD d] w fun e w' => e = .returned (.bool (decide (d ∈ diesG g))) ∧ Below w.heap.size w w' := by
  have h' := h
  obtain ⟨v1, v2, v3, rfl, ho, hr, hk⟩ := h
  obtain ⟨A1, c1, rfl, _, _, _⟩ := ho.cells
  obtain ⟨A2, c2, rfl, _, _, _⟩ := hr.cells
  obtain ⟨A3, c3, rfl, _, _, _⟩ := hk.cells
  obtain ⟨W0, hW0, Hz0, hb0, hlt0, hc0⟩ := boxed w #[.slice A1 g.obv.length c1, .slice A2 g.rev.length c2, .slice A3 g.links.length c3] 49
  obtain ⟨W1, hW1, Hz1, hb1, hlt1, hc1⟩ := boxed W0 #[.int .i64 d.side, .int .i64 d.num] 40
  have a0 := cell_later hb1 (hc0 0 _ rfl); have a1 := cell_later hb1 (hc0 1 _ rfl); have a2 := cell_later hb1 (hc0 2 _ rfl)
  have b0 := hc1 0 _ rfl; have b1 := hc1 1 _ rfl
  have hw1 := below_trans hb0 hb1
  have h1 := h'.below hw1
  clear hc0 hc1 ho hr hk
  generalize hD : decide (d ∈ diesG g) = D
  have HD := Lib.hid hD; clear hD
  go_enter Try.func57, Try.ntmps57
  go_wp2_with fail
  refine (Dies_ok _ g _ h1).mono ?_
  rintro e w2 ⟨u, rfl, hu, hb2⟩
  have b0 := cell_later hb2 b0; have b1 := cell_later hb2 b1
  clear a0 a1 a2 hW0 hW1
  obtain ⟨Au, cu, rfl, _, _, _⟩ := id hu
  have HC := containsD_ok _ (diesG g) d w2 hu
  rw [HD.out] at HC
  have HC' := Lib.hid HC; clear HC
  go_wp2_with fail
  refine HC'.out.mono ?_
  rintro e w3 ⟨rfl, hb3⟩
  go_wp2_with fail
  go_ret
  exact ⟨rfl, below_trans hw1 (below_trans hb2 hb3)⟩

noncomputable def awayE (g : Graph) (a b : Die) : Int := if graphB g = true then (if joinB (edgesG g) a b = true then 0 else 7) else 1
theorem away_1 {g : Graph} {a b : Die} (h : graphB g = false) : awayE g a b = 1 := by rw [awayE, if_neg (by simp [h])]
theorem away_7 {g : Graph} {a b : Die} (h : graphB g = true) (hj : ¬ JoinE (edgesG g) a b) : awayE g a b = 7 := by rw [awayE, if_pos h, if_neg (fun h => hj (joinB_iff.1 h))]
theorem away_0 {g : Graph} {a b : Die} (h : graphB g = true) (hj : JoinE (edgesG g) a b) : awayE g a b = 0 := by rw [awayE, if_pos h, if_pos (joinB_iff.2 hj)]
set_option maxHeartbeats 8000000 in
set_option maxRecDepth 100000 in
theorem away_ok (v : Value) (g : Graph) (da db : Die) (w : World) (h : GraphAt w v g) (hda : wfD da) (hdb : wfD db) :
    Calls Try.prog 43 #[v, vlD da, vlD db] w fun e w' => ∃ u, e = .returned (.tuple #[u, .int .i64 (awayE g da db)]) ∧ Below w.heap.size w w' := by
  have h' := h
  obtain ⟨v1, v2, v3, rfl, ho, hr, hk⟩ := h
  obtain ⟨A1, c1, rfl, _, _, _⟩ := ho.cells
  obtain ⟨A2, c2, rfl, _, _, _⟩ := hr.cells
  obtain ⟨A3, c3, rfl, _, _, _⟩ := hk.cells
  obtain ⟨W0, hW0, Hz0, hb0, hlt0, hc0⟩ := boxed w #[.slice A1 g.obv.length c1, .slice A2 g.rev.length c2, .slice A3 g.links.length c3] 49
  obtain ⟨W1, hW1, Hz1, hb1, hlt1, hc1⟩ := boxed W0 #[.int .i64 da.side, .int .i64 da.num] 40
  obtain ⟨W2, hW2, Hz2, hb2, hlt2, hc2⟩ := boxed W1 #[.int .i64 db.side, .int .i64 db.num] 40
  have hb12 := below_trans hb1 hb2
  have a0 := cell_later hb12 (hc0 0 _ rfl); have a1 := cell_later hb12 (hc0 1 _ rfl); have a2 := cell_later hb12 (hc0 2 _ rfl)
  have b0 := cell_later hb2 (hc1 0 _ rfl); have b1 := cell_later hb2 (hc1 1 _ rfl)
  have d0 := hc2 0 _ rfl; have d1 := hc2 1 _ rfl
  have hw2 := below_trans hb0 hb12
  clear hc0 hc1 hc2 ho hr hk
  have HV := Lib.hid (Valid_ok _ g _ (h'.below hw2))
  go_enter Try.func43, Try.ntmps43
  go_wp2_with fail
  refine HV.out.mono ?_
  rintro e w3 ⟨rfl, hb3⟩
  have a0 := cell_later hb3 a0; have a1 := cell_later hb3 a1; have a2 := cell_later hb3 a2; have b0 := cell_later hb3 b0; have b1 := cell_later hb3 b1; have d0 := cell_later hb3 d0; have d1 := cell_later hb3 d1
  have hw3 := below_trans hw2 hb3
  clear hW0 hW1 hW2 HV
  cases hg : graphB g
  · have HE := Lib.hid (away_1 (a := da) (b := db) hg)
    clear hg a0 a1 a2 b0 b1 d0 d1
    go_wp2_with fail
    exact bodyPost_ret (v := .tuple #[.map none, .int .i64 1]) (by simp [results, Try.results43, go_sem]) rfl ⟨_, by rw [HE.out], hw3⟩
  have Hg := Lib.hid hg
  have Hend := Lib.hid (fun d => dies_end hg d)
  have hlen := ((graphB_iff g).1 hg).ll
  clear hg
  go_wp2_with fail
  by_cases hA : da ∈ diesG g
  case neg =>
    have HI := cIn_ok _ g da w3 (h'.below hw3)
    rw [decide_eq_false hA] at HI
    have HI' := Lib.hid HI
    have HE := Lib.hid (away_7 (a := da) (b := db) Hg.out (fun hj => hA ((Hend.out da).2 hj.1)))
    clear HI hA
    refine HI'.out.mono ?_
    rintro e w4 ⟨rfl, hb4⟩
    clear a0 a1 a2 b0 b1 d0 d1
    go_wp2_with fail
    exact bodyPost_ret (v := .tuple #[.map none, .int .i64 7]) (by simp [results, Try.results43, go_sem]) rfl ⟨_, by rw [HE.out], (below_trans hw3 hb4)⟩
  have HI := cIn_ok _ g da w3 (h'.below hw3)
  rw [decide_eq_true hA] at HI
  have HI' := Lib.hid HI
  have HA := Lib.hid ((Hend.out da).1 hA)
  clear HI hA
  refine HI'.out.mono ?_
  rintro e w4 ⟨rfl, hb4⟩
  have hw4 := below_trans hw3 hb4
  have a0 := cell_later hb4 a0; have a1 := cell_later hb4 a1; have a2 := cell_later hb4 a2; have b0 := cell_later hb4 b0; have b1 := cell_later hb4 b1; have d0 := cell_later hb4 d0; have d1 := cell_later hb4 d1
  clear HI'
  by_cases hB : db ∈ diesG g
  case neg =>
    have HI := cIn_ok _ g db w4 (h'.below hw4)
    rw [decide_eq_false hB] at HI
    have HI' := Lib.hid HI
    have HE := Lib.hid (away_7 (a := da) (b := db) Hg.out (fun hj => hB ((Hend.out db).2 hj.2.1)))
    clear HI hB
    go_wp2_with fail
    refine HI'.out.mono ?_
    rintro e w5 ⟨rfl, hb5⟩
    clear a0 a1 a2 b0 b1 d0 d1
    go_wp2_with fail
    exact bodyPost_ret (v := .tuple #[.map none, .int .i64 7]) (by simp [results, Try.results43, go_sem]) rfl ⟨_, by rw [HE.out], (below_trans hw4 hb5)⟩
  have HI := cIn_ok _ g db w4 (h'.below hw4)
  rw [decide_eq_true hB] at HI
  have HI' := Lib.hid HI
  have HB := Lib.hid ((Hend.out db).1 hB)
  clear HI hB
  go_wp2_with fail
  refine HI'.out.mono ?_
  rintro e w5 ⟨rfl, hb5⟩
  have hw5 := below_trans hw4 hb5
  have a0 := cell_later hb5 a0; have a1 := cell_later hb5 a1; have a2 := cell_later hb5 a2; have b0 := cell_later hb5 b0; have b1 := cell_later hb5 b1; have d0 := cell_later hb5 d0; have d1 := cell_later hb5 d1
  clear HI'
  go_wp2_with fail
  refine (steps_ok g (linkWf Hg.out) hlen da hda _ w5 (h'.below hw5)).mono ?_
  rintro e w6 ⟨b, m, rfl, hm, hmem, hbz, hb6, hml⟩
  have d0 := cell_later hb6 d0; have d1 := cell_later hb6 d1
  have hw6 := below_trans hw5 hb6
  have Hmem := Lib.hid hmem
  have k1 := hm.look_ok hdb
  clear a0 a1 a2 b0 b1 hmem
  cases hl : (lookM m db).isSome
  · rw [hl] at k1
    have HE := Lib.hid (away_7 (a := da) (b := db) Hg.out (fun hj => by
      rw [look_mem.2 ((Hmem.out db).2 hj.2.2)] at hl; cases hl))
    clear hl
    generalize (lookM m db).getD 0 = K at k1
    go_wp2_with fail
    exact bodyPost_ret (v := .tuple #[.map none, .int .i64 7]) (by simp [results, Try.results43, go_sem]) rfl ⟨_, by rw [HE.out], hw6⟩
  · rw [hl] at k1
    have HE := Lib.hid (away_0 (a := da) (b := db) Hg.out ⟨HA.out, HB.out, (Hmem.out db).1 (look_mem.1 hl)⟩)
    clear hl
    generalize (lookM m db).getD 0 = K at k1
    go_wp2_with fail
    exact bodyPost_ret (v := .tuple #[.map (some b), .int .i64 0]) (by simp [results, Try.results43, go_sem]) rfl ⟨_, by rw [HE.out], hw6⟩
noncomputable def joinG (g : Graph) (a b : Die) : Bool := graphB g && joinB (edgesG g) a b
theorem away_join (g : Graph) (a b : Die) : (awayE g a b == 0) = joinG g a b := by
  unfold awayE joinG
  cases graphB g
  · simp
  · cases joinB (edgesG g) a b <;> simp
set_option maxHeartbeats 2000000 in
theorem cJoined_ok (v : Value) (g : Graph) (da db : Die) (w : World) (h : GraphAt w v g) (hda : wfD da) (hdb : wfD db) :
    Calls Try.prog 23 #[v, vlD da, vlD db] w fun e w' => e = .returned (.bool (joinG g da db)) ∧ Below w.heap.size w w' := by
  have h' := h
  obtain ⟨v1, v2, v3, rfl, ho, hr, hk⟩ := h
  obtain ⟨A1, c1, rfl, _, _, _⟩ := ho.cells
  obtain ⟨A2, c2, rfl, _, _, _⟩ := hr.cells
  obtain ⟨A3, c3, rfl, _, _, _⟩ := hk.cells
  obtain ⟨W0, hW0, Hz0, hb0, hlt0, hc0⟩ := boxed w #[.slice A1 g.obv.length c1, .slice A2 g.rev.length c2, .slice A3 g.links.length c3] 49
  obtain ⟨W1, hW1, Hz1, hb1, hlt1, hc1⟩ := boxed W0 #[.int .i64 da.side, .int .i64 da.num] 40
  obtain ⟨W2, hW2, Hz2, hb2, hlt2, hc2⟩ := boxed W1 #[.int .i64 db.side, .int .i64 db.num] 40
  have hb12 := below_trans hb1 hb2
  have a0 := cell_later hb12 (hc0 0 _ rfl); have a1 := cell_later hb12 (hc0 1 _ rfl); have a2 := cell_later hb12 (hc0 2 _ rfl)
  have b0 := cell_later hb2 (hc1 0 _ rfl); have b1 := cell_later hb2 (hc1 1 _ rfl)
  have d0 := hc2 0 _ rfl; have d1 := hc2 1 _ rfl
  have hw2 := below_trans hb0 hb12
  clear hc0 hc1 hc2 ho hr hk
  have HA := Lib.hid (away_ok _ g da db _ (h'.below hw2) hda hdb)
  rw [← away_join]
  generalize awayE g da db = E at HA ⊢
  go_enter Try.func23, Try.ntmps23
  go_wp2_with fail
  refine HA.out.mono ?_
  rintro e w3 ⟨u, rfl, hb3⟩
  clear a0 a1 a2 b0 b1 d0 d1
  go_wp2_with fail
  go_ret
  exact ⟨rfl, below_trans hw2 hb3⟩
end Go.Proofs.Ytcpobcfncmcakaa
