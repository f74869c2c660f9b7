/- For every graph, LinkageAdds returns true, and the argument reads as it did. No condition. -/
import Derived.Test.YtifgpmhkdnmhlaaRows
import Derived.Test.YtifgpmhkdnmhlaaAwake
import Derived.Test.YtifgpmhkdnmhlaaOpen
import Derived.Test.YtifgpmhkdnmhlaaReadA
import Derived.Test.YtifgpmhkdnmhlaaPairC
import Derived.IntWalk
namespace Go.Proofs.Ytifgpmhkdnmhlaa
open Go.RowKit Go.Shelf Go.ChangeShapes Go.WideShapes Go.ChangeAt

theorem deg0 {g : Graph} (h : graphB g = true) (a : Int) : degI g ⟨0, a⟩ = (g.links.countP (fun x => x.obv == a) : Nat) := by
  unfold degI
  rw [if_pos h]
  congr 1
  exact countP_same fun x _ => by simp [touchB]
theorem deg1 {g : Graph} (h : graphB g = true) (a : Int) : degI g ⟨1, a⟩ = (g.links.countP (fun x => x.rev == a) : Nat) := by
  unfold degI
  rw [if_pos h]
  congr 1
theorem wrap_nat (n : Nat) (h : n ≤ 1048576) : IntKind.i64.wrap (n : Int) = n := IntWalk.i64_in _ (by omega)
theorem inO_len (ls : List Link) (o : List Int) : inO ls o ≤ ls.length := List.countP_le_length
theorem inR_len (ls : List Link) (o : List Int) : inR ls o ≤ ls.length := List.countP_le_length
theorem atOR_len (ls : List Link) (a : Int) (o : List Int) : atOR ls a o ≤ ls.length := List.countP_le_length
theorem inO_all {ls : List Link} {o : List Int} (h : ∀ x ∈ ls, x.obv ∈ o) : inO ls o = ls.length := countP_all fun x hx => by simp [h x hx]
theorem inR_all {ls : List Link} {o : List Int} (h : ∀ x ∈ ls, x.rev ∈ o) : inR ls o = ls.length := countP_all fun x hx => by simp [h x hx]
set_option maxHeartbeats 8000000 in
set_option maxRecDepth 100000 in
theorem adds_walk (v : Value) (g : Graph) (w : World) (h : GraphAt w v g) :
    Calls Try.prog 7 #[v] w fun e w' => e = .returned (.bool true) ∧ Below w.heap.size w w' := by
  have h0 := h
  obtain ⟨v1, v2, v3, rfl, ho, hr, hl⟩ := h
  obtain ⟨A1, c1, rfl, _, _, hco⟩ := ho.cells
  obtain ⟨A2, c2, rfl, _, _, hcr⟩ := hr.cells
  obtain ⟨A3, c3, rfl, _, _, _⟩ := hl.cells
  obtain ⟨W, hW, Hz, hwW, hlt0, hc0⟩ := boxed w #[.slice A1 g.obv.length c1, .slice A2 g.rev.length c2, .slice A3 g.links.length c3] 27
  have a0 := hc0 0 _ rfl; have a1 := hc0 1 _ rfl; have a2 := hc0 2 _ rfl
  clear hc0 ho hr hl
  go_enter Try.func7, Try.ntmps7
  go_wp2_with fail
  refine (awake_ok _).mono ?_
  rintro e w1 ⟨rfl, hb1⟩
  clear hW
  have a0' := cell_later hb1 a0; have a1' := cell_later hb1 a1; have a2' := cell_later hb1 a2
  have hw1 := below_trans hwW hb1
  clear a0 a1 a2
  have hF := few_ok _ _ w1 (h0.below hw1)
  cases hf : fewB g
  · rw [hf] at hF
    have HF := Lib.hid hF; clear hF hf
    go_wp2_with fail
    refine HF.out.mono ?_
    rintro e w2 ⟨rfl, hb2⟩
    go_wp2_with fail
    refine (awake_ok _).mono ?_
    rintro e w3 ⟨rfl, hb3⟩
    go_wp2_with fail
    go_ret
    exact ⟨rfl, below_trans hw1 (below_trans hb2 hb3)⟩
  rw [hf] at hF
  have HF := Lib.hid hF; have Hf := Lib.hid hf; clear hF hf
  go_wp2_with fail
  refine HF.out.mono ?_
  rintro e w2 ⟨rfl, hb2⟩
  have a0 := cell_later hb2 a0'; have a1 := cell_later hb2 a1'; have a2 := cell_later hb2 a2'
  have hw2 := below_trans hw1 hb2
  clear a0' a1' a2'
  go_wp2_with fail
  refine (Matrix_ok _ _ _ (h0.below hw2)).mono ?_
  rintro e w3 ⟨m, rfl, hm, hb3⟩
  have a0' := cell_later hb3 a0; have a1' := cell_later hb3 a1; have a2' := cell_later hb3 a2
  have hw3 := below_trans hw2 hb3
  clear a0 a1 a2
  go_wp2_with fail
  refine (Pairs_ok _ _ _ (h0.below hw3)).mono ?_
  rintro e w4 ⟨p, rfl, hp, hb4⟩
  have a0 := cell_later hb4 a0'; have a1 := cell_later hb4 a1'; have a2 := cell_later hb4 a2'
  have hw4 := below_trans hw3 hb4
  have hm4 := hm.below hb4
  clear a0' a1' a2' hm
  cases hg : graphB g
  · have hV : validE g = 1 := by simp [validE, hg]
    rw [hV]
    have hVa := Valid_ok _ _ _ (h0.below hw4)
    rw [hg] at hVa
    have HVa := Lib.hid hVa
    clear hV hVa hg
    go_wp2_with fail
    refine HVa.out.mono ?_
    rintro e w5 ⟨rfl, hb5⟩
    go_wp2_with fail
    go_ret
    exact ⟨rfl, below_trans hw4 hb5⟩
  have hV : validE g = 0 := by simp [validE, hg]
  have hM : matG g = matOf g.obv g.rev g.links := by simp [matG, hg]
  have hP : pairsG g = pairsOf g.obv g.rev g.links := by simp [pairsG, hg]
  rw [hV]
  rw [hM] at hm4
  rw [hP] at hp
  have hok := (graphB_iff g).1 hg
  have Hends := Lib.hid (graphB_ends hg)
  have Ao := Lib.hid (ascB_asc hok.ao); have Ar := Lib.hid (ascB_asc hok.ar)
  have hlo := hok.lo; have hlr := hok.lr; have hll := hok.ll
  have Hg := Lib.hid hg
  obtain ⟨Am, cm, em, q1, q2, hcm⟩ := hm4.cells
  have hlm : (matOf g.obv g.rev g.links).length = g.obv.length := by simp [matOf]
  rw [hlm] at em hcm q1
  subst em
  have hpl := pairsOf_len g.obv g.rev g.links
  have hpl2 : g.obv.length * g.rev.length ≤ 32 * 32 := Nat.mul_le_mul hlo hlr
  obtain ⟨PL, hPL⟩ : ∃ n, (pairsOf g.obv g.rev g.links).length = n := ⟨_, rfl⟩
  obtain ⟨Ap, cp, ep, q3, q4, hcp⟩ := hp.cells
  rw [hPL] at ep hcp q3 hpl
  subst ep
  have HPL := Lib.hid hPL
  have hplm : PL ≤ 1024 := by omega
  clear hV hM hP hok hlm hPL hm4 hp hpl hpl2
  go_wp2_with fail
  go_loopw [7, 8, 10, 11] (fun t7 t8 t10 t11 wr => ∃ i k : Nat, i ≤ g.obv.length ∧ t11 = .int .i64 i ∧ t10 = .int .i64 k ∧ t7 = .int .i64 (inO g.links (g.obv.take i) : Nat) ∧ t8 = .int .i64 (inO g.links (g.obv.take i) : Nat) ∧ Hid (k = (pairsOf (g.obv.take i) g.rev g.links).length) ∧ Below w4.heap.size w4 wr) (fun _ _ _ t _ => g.obv.length - (intOf t).toNat)
  case atStart => exact ⟨0, 0, Nat.zero_le _, rfl, rfl, by simp [inO], by simp [inO], by show _ = _; simp [pairsOf], Below.refl _ _⟩
  case round =>
    obtain ⟨i, k, hi, rfl, rfl, rfl, rfl, Hk, hb⟩ := hrel
    have hwr := hw4.trans (hb.mono hw4.size)
    by_cases hlt' : i < g.obv.length
    · obtain ⟨a, ha⟩ := get_of_lt hlt'
      obtain ⟨bo, oo, rfl, _, hco'⟩ := hco i hlt'
      obtain ⟨bm, om, rfl, _, hcm'⟩ := hcm i hlt'
      obtain ⟨Rw, cw, hRw, hcw, hle, hcell⟩ := hcm' i _ (matOf_at' ha)
      rw [List.length_map] at hRw hle hcell
      have HR := Lib.hid hRw
      obtain ⟨_, _, er, _, _, hrow⟩ := hRw.cells
      rw [List.length_map] at er hrow
      cases er
      have Hcell := Lib.hid hcell; have Hco := Lib.hid (fun W hW => hco' W hW i a ha); have Hrow := Lib.hid hrow
      have hD : ∀ W, Below w.heap.size w W → Calls Try.prog 24 #[.agg #[.slice (some ⟨bo, oo, none⟩) g.obv.length c1, .slice A2 g.rev.length c2, .slice A3 g.links.length c3], .agg #[.int .i64 0, .int .i64 a]] W fun e w' => e = .returned (.int .i64 (degI g ⟨0, a⟩)) ∧ Below W.heap.size W w' := fun W hW => Degree_ok _ _ ⟨0, a⟩ _ (h0.below hW)
      have HD := Lib.hid hD
      have hsum : IntKind.i64.wrap (((inO g.links (g.obv.take i) : Nat) : Int) + degI g ⟨0, a⟩) = ((inO g.links (g.obv.take (i + 1)) : Nat) : Int) := by
        rw [deg0 Hg.out, inO_snoc Ao.out ha, ← Int.natCast_add]
        refine wrap_nat _ ?_
        have := inO_len g.links (g.obv.take (i + 1))
        rw [inO_snoc Ao.out ha] at this
        omega
      have Hsum := Lib.hid hsum
      have Ha := Lib.hid ha
      have hl1 : (i : Int) < (g.obv.length : Int) := by omega
      have hl0 : (0 : Int) ≤ (i : Int) := by omega
      clear ha hcm' hco' hRw hrow hD hsum hcell
      have m0 := Later.cell_all (Hcell.out wr hb)
      have n0 := Later.cell_all (cell_later hb a0); have n1 := Later.cell_all (cell_later hb a1); have n2 := Later.cell_all (cell_later hb a2)
      have m0' := Hcell.out wr hb; have n0' := cell_later hb a0; have n1' := cell_later hb a1
      go_wp2_with fail
      refine wp_region_later (by kernel_rfl) (by kernel_rfl) ?_
      repeat (go_big_quiet_step (first | fail))
      refine wpQuiet_nil ?_
      intro _ hw'
      obtain ⟨xq, hw''⟩ := hw'
      subst hw''
      have hba := xq.h
      generalize xq.to = wa at hba ⊢
      have hbA := below_trans hb hba
      have hwA := hw4.trans (hbA.mono hw4.size)
      clear m0 n0 n1 n2 m0' n0' n1'
      have m0 := Later.cell_all (Hcell.out wa hbA)
      have n0 := Later.cell_all (cell_later hbA a0); have n1 := Later.cell_all (cell_later hbA a1); have n2 := Later.cell_all (cell_later hbA a2)
      have o0 := Later.cell_all (Hco.out wa hwA)
      have hD : ∀ y : Later wa, _ := fun y => HD.out y.to (below_trans hwA y.h)
      have HD' := Lib.hid hD; clear hD
      have hsum := Hsum.out
      go_wp2_with fail
      refine wp_region_later (by kernel_rfl) (by kernel_rfl) ?_
      repeat (go_big_quiet_step (first | (go_at_call 24; with_reducible exact calls_later (HD'.out _))))
      refine wpQuiet_nil ?_
      intro _ hw'
      obtain ⟨xq, hw''⟩ := hw'
      subst hw''
      have hbb := xq.h
      generalize xq.to = wb at hbb ⊢
      have hbB := below_trans hbA hbb
      have hwB := hw4.trans (hbB.mono hw4.size)
      clear m0 n0 n1 n2 o0 hsum hba hbb hb hwA hbA hwr
      go_wp2_with fail
      go_loopw [7, 10, 12] (fun t7 t10 t12 wr => ∃ j q kk : Nat, j ≤ g.rev.length ∧ t12 = .int .i64 j ∧ t7 = .int .i64 q ∧ t10 = .int .i64 kk ∧ Hid (q = inO g.links (g.obv.take i) + atOR g.links a (g.rev.take j)) ∧ Hid (kk = (pairsOf (g.obv.take i) g.rev g.links ++ rowPairs (g.rev.take j) g.links a).length) ∧ Below w4.heap.size w4 wr) (fun _ _ t12 _ => g.rev.length - (intOf t12).toNat)
      case atStart => exact ⟨0, _, k, Nat.zero_le _, rfl, rfl, rfl, by show _ = _; simp [atOR], by show _ = _; rw [Hk.out]; simp [rowPairs], hbB⟩
      case round =>
        clear hbB hwB
        obtain ⟨j, q, kk, hj, rfl, rfl, rfl, Hq, Hkk, hb⟩ := hrel
        have hwr := hw4.trans (hb.mono hw4.size)
        have m0' := Hcell.out wr hb
        have hql : q ≤ 128 := by have := Hq.out; have := inO_len g.links (g.obv.take i); have := atOR_len g.links a (g.rev.take j); omega
        have hkl : kk ≤ PL := by rw [Hkk.out, ← HPL.out]; exact (pairs_prefix Ha.out).length_le
        by_cases hlt2 : j < g.rev.length
        · obtain ⟨b, hb'⟩ := get_of_lt hlt2
          obtain ⟨br, or, rfl, _, hcr'⟩ := hcr j hlt2
          obtain ⟨bw, ow, rfl, _, hrow'⟩ := Hrow.out j hlt2
          have r0' := hrow' wr hb j _ (row_at' hb')
          have hcn := countM_len' g.links a b
          have Hcr := Lib.hid (fun W hW => hcr' W hW j b hb')
          have Hb := Lib.hid hb'
          have hq' := atOR_snoc Ar.out hb' g.links a
          have hpr := rowPairs_snoc hb' g.links a
          have hpa := fun h => pairs_at (ls := g.links) Ha.out hb' h
          clear hb' hrow' hcr'
          generalize countM g.links a b = cn at *
          have Hq' := Lib.hid hq'; have Hpr := Lib.hid hpr; have Hpa := Lib.hid hpa; clear hq' hpr hpa
          have hl1j : (j : Int) < (g.rev.length : Int) := by omega
          have hl0j : (0 : Int) ≤ (j : Int) := by omega
          by_cases hc : 0 < cn
          · have hd : decide ((0 : Int) < (cn : Int)) = true := by simp; omega
            have hget := Hpa.out hc
            rw [← Hkk.out] at hget
            have hkl2 : kk < PL := by rw [← HPL.out]; exact lt_of_get hget
            obtain ⟨bp, op, rfl, _, hcp'⟩ := hcp kk hkl2
            obtain ⟨p0, p1⟩ := hcp' wr hb kk _ hget
            have hd2 : decide ((PL : Int) ≤ (kk : Int)) = false := by simp; omega
            have hd3 : decide (PL ≤ kk) = false := by simp; omega
            have nP : ∀ W, (binOp .neq 57 (.agg #[.int .i64 a, .int .i64 b]) (.agg #[.int .i64 a, .int .i64 b])).run Try.prog W = .ok (.bool false) W := fun W => by
              have := neqPair_ ⟨a, b⟩ ⟨a, b⟩ W
              rwa [neB_no rfl] at this
            have Hc := Lib.hid hc; clear hc hget hcp'
            have m0 := Later.cell_all m0'
            have n0 := Later.cell_all (cell_later hb a0); have n1 := Later.cell_all (cell_later hb a1)
            have o0 := Later.cell_all (Hco.out wr hwr); have r0 := Later.cell_all (Hcr.out wr hwr)
            have p0 := Later.cell_all p0; have p1 := Later.cell_all p1
            have hl1k : (kk : Int) < (PL : Int) := by omega
            have hl0k : (0 : Int) ≤ (kk : Int) := by omega
            go_wp2_with fail
            refine wp_region_later (by kernel_rfl) (by kernel_rfl) ?_
            repeat (go_big_quiet_step (first | fail))
            refine wpQuiet_nil ?_
            intro _ hw'
            obtain ⟨xq, hw''⟩ := hw'
            subst hw''
            have hbc := xq.h
            generalize xq.to = wc at hbc ⊢
            go_wp2_with fail
            refine ⟨?rel, ?measure⟩
            case rel => exact ⟨j + 1, q + cn, kk + 1, by omega, by go_num, by go_num, by go_num, by show _ = _; rw [Hq'.out, Hq.out]; omega, by show _ = _; rw [Hpr.out, if_pos Hc.out, Hkk.out, ← List.append_assoc, List.length_append (bs := [_])]; rfl, below_trans hb hbc⟩
            case measure => first | (simp [intOf]; done) | (simp [intOf]; omega)
          · have hd : decide ((0 : Int) < (cn : Int)) = false := by simp; omega
            have Hc := Lib.hid hc; clear hc
            go_wp2_with fail
            refine ⟨?rel, ?measure⟩
            case rel => exact ⟨j + 1, q + cn, kk, by omega, by go_num, by go_num, rfl, by show _ = _; rw [Hq'.out, Hq.out]; omega, by show _ = _; rw [Hpr.out, if_neg Hc.out, List.append_nil]; exact Hkk.out, hb⟩
            case measure => first | (simp [intOf]; done) | (simp [intOf]; omega)
        · have e1 : g.rev.take j = g.rev := List.take_of_length_le (by omega)
          have hqe : q = inO g.links (g.obv.take (i + 1)) := by rw [Hq.out, e1, atOR_all Hends.out.2, inO_snoc Ao.out Ha.out]
          have hke : kk = (pairsOf (g.obv.take (i + 1)) g.rev g.links).length := by rw [Hkk.out, e1, ← pairsOf_snoc Ha.out]
          have Hqe := Lib.hid hqe; have Hke := Lib.hid hke; clear hqe hke e1
          go_wp2_with fail
          refine ⟨?rel, ?measure⟩
          case rel => exact ⟨i + 1, kk, by omega, by go_num, rfl, congrArg (fun n : Nat => Value.int .i64 (n : Int)) Hqe.out, rfl, Hke, hb⟩
          case measure => first | (simp [intOf]; done) | (simp [intOf]; omega)
    · have e1 : g.obv.take i = g.obv := List.take_of_length_le (by omega)
      rw [e1, inO_all Hends.out.1]
      rw [e1, HPL.out] at Hk
      have hkp := Hk.out
      subst hkp
      clear Hk e1
      have n0' := cell_later hb a0
      go_wp2_with fail
      go_loopw [9, 13] (fun t9 t13 wr => ∃ j : Nat, j ≤ g.rev.length ∧ t13 = .int .i64 j ∧ t9 = .int .i64 (inR g.links (g.rev.take j) : Nat) ∧ Below w4.heap.size w4 wr) (fun _ t13 _ => g.rev.length - (intOf t13).toNat)
      case atStart => exact ⟨0, Nat.zero_le _, rfl, by simp [inR], hb⟩
      case round =>
        clear hb hwr n0'
        obtain ⟨j, hj, rfl, rfl, hb⟩ := hrel
        have hwr := hw4.trans (hb.mono hw4.size)
        have n0' := cell_later hb a0; have n1' := cell_later hb a1; have n2' := cell_later hb a2
        by_cases hlt2 : j < g.rev.length
        · obtain ⟨b, hb'⟩ := get_of_lt hlt2
          obtain ⟨br, or, rfl, _, hcr'⟩ := hcr j hlt2
          have o0 := Later.cell_all (hcr' wr hwr j b hb')
          have n0 := Later.cell_all n0'; have n1 := Later.cell_all n1'; have n2 := Later.cell_all n2'
          have hsum : IntKind.i64.wrap (((inR g.links (g.rev.take j) : Nat) : Int) + degI g ⟨1, b⟩) = ((inR g.links (g.rev.take (j + 1)) : Nat) : Int) := by
            rw [deg1 Hg.out, inR_snoc Ar.out hb', ← Int.natCast_add]
            refine wrap_nat _ ?_
            have := inR_len g.links (g.rev.take (j + 1))
            rw [inR_snoc Ar.out hb'] at this
            omega
          have hD : ∀ y : Later wr, _ := fun y => Degree_ok _ _ ⟨1, b⟩ y.to (h0.below (below_trans hwr y.h))
          have HD := Lib.hid hD
          have hl1j : (j : Int) < (g.rev.length : Int) := by omega
          have hl0j : (0 : Int) ≤ (j : Int) := by omega
          clear hb' hcr' hD
          go_wp2_with fail
          refine wp_region_later (by kernel_rfl) (by kernel_rfl) ?_
          repeat (go_big_quiet_step (first | (go_at_call 24; with_reducible exact calls_later (HD.out _))))
          refine wpQuiet_nil ?_
          intro _ hw'
          obtain ⟨xq, hw''⟩ := hw'
          subst hw''
          have hbb := xq.h
          generalize xq.to = wb at hbb ⊢
          clear hsum
          go_wp2_with fail
          refine ⟨?rel, ?measure⟩
          case rel => exact ⟨j + 1, by omega, by go_num, rfl, below_trans hb hbb⟩
          case measure => first | (simp [intOf]; done) | (simp [intOf]; omega)
        · have e1 : g.rev.take j = g.rev := List.take_of_length_le (by omega)
          rw [e1, inR_all Hends.out.2]
          clear e1
          go_wp2_with fail
          go_ret
          exact ⟨rfl, hwr⟩

set_option maxRecDepth 100000 in
theorem adds_lifted (os : Os) (started : os.Started) (H : Type) (enc : TypeId × Value → H) :
    ReturnsInHanded {} Try.checked os 7 .any (Rows.linkageAddsSpec.pre6 enc Try.prog Try.f7 Rows.linkageAddsRow.domain false) (Rows.linkageAddsSpec.post enc Try.prog Try.f7 false true false false) := by
  refine returnsInHanded_of_change (C := Try.checked) Try.own started (by kernel_rfl) Try.func7
    (ChangeSpec.witness6 (enc := enc) (C := Try.checked) false ⟨#[], #[.agg #[.slice none 0 0, .slice none 0 0, .slice none 0 0]], []⟩ 8 (by kernel_rfl) (by kernel_rfl) (by kernel_rfl) (by kernel_rfl)) ?_
  intro W base args ds gs before hval0 hW hcnd _
  have hval : ∀ (j : Nat) t v, Try.f7.params[j]? = some t → args[j]? = some v → Value.okWide Try.prog W .any base t v := hval0
  have hW' := hW
  obtain ⟨p, q, hA0, hV, rfl, hfz, hnd⟩ := hW
  have hA : DataW.TrodAll enc Try.prog W 0 (fun _ => true) true Try.f7.params.toList args.toList ds p := hA0
  rw [Try.params7] at hA hval
  obtain ⟨v0, d0, rfl, rfl, h0⟩ := trodAll_one hA
  obtain ⟨rfl, rfl⟩ := trodVars_none hV
  have k0 := h0
  have lt0 : ∀ x ∈ p, x.block < W.heap.size := by obtain ⟨m, hm⟩ := k0; exact DataW.trod_lt m _ _ _ hm
  obtain ⟨g0, hg0⟩ := opens_graph (hval 0 27 v0 rfl rfl) h0
  clear hA0 hval0
  refine (adds_walk v0 g0 W hg0).mono fun e W' ⟨he, bel⟩ => ?_
  subst he
  exact ⟨_, rfl, _, _, _, [], _, [], hW', trodAll_mk1 (shut_bool Try.underlying4 _), trodAll_mk1 (Below.trod Try.laidOut (by kernel_rfl) (of_decide_eq_true (by kernel_rfl)) k0 bel lt0), rfl, bel.frame _, fun h => by cases h⟩

theorem adds_holds : Rows.LinkageAddsSaid :=
  OpenClaim.holds_of_wide 7 Try.f7 rfl rfl rfl rfl rfl rfl rfl ⟨rfl, rfl, rfl, rfl, rfl⟩ rfl rfl rfl rfl rfl (by kernel_rfl) Try.func7 (by kernel_rfl)
    (of_decide_eq_true (by kernel_rfl)) (by unfold Func.isWrapper; first | (rw [if_pos (by decide +kernel)]; kernel_rfl) | (rw [if_neg (by decide +kernel)]; exact ⟨rfl, rfl⟩))
    (fun os started H enc _ => adds_lifted os started H enc)
end Go.Proofs.Ytifgpmhkdnmhlaa
