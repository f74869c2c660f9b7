/- The reference's Size. Condition: the argument reads as a graph. -/
import Derived.Test.YtnaoiochfdipiaaRefT
import Derived.Test.YtnaoiochfdipiaaCovK
namespace Go.Proofs.Ytnaoiochfdipiaa
open Go.RowKit Go.Shelf Go.Maps

theorem ret_two {a b c d : Int} (h : a = b) (k : c = d) : Ending.returned (.tuple #[.int .i64 a, .int .i64 c]) = .returned (.tuple #[.int .i64 b, .int .i64 d]) := by rw [h, k]
theorem infoBool : (Try.prog.info? 4).map (fun i => (i.zero, i.size, i.bytes)) = some (some (.bool false), 1, 1) := by kernel_rfl
theorem made_one (z : Value) (n : Nat) : madeCells #[z] n = Array.replicate n z := by
  apply Array.ext_getElem?
  intro i
  simp only [madeCells, Array.getElem?_map, Array.getElem?_replicate]
  by_cases h : i < n
  · simp [h, Nat.mod_one]
  · simp [h]
theorem TryAt.fresh {g : Graph} {P : List Int} {S : List Bool} {s : St} (h : TryAt g P S s) : TryAt g P (List.replicate g.rev.length false) ⟨s.obv, s.rev, []⟩ where
  lp := h.lp
  ls := by simp
  sn j r hr := by rw [List.getElem?_replicate, if_pos (lt_of_get hr)]; simp
  no := h.no
  yes := h.yes
theorem tryAt_start (g : Graph) : TryAt g (List.replicate g.rev.length (-1)) (List.replicate g.rev.length false) ⟨[], [], []⟩ where
  lp := by simp
  ls := by simp
  sn j r hr := by rw [List.getElem?_replicate, if_pos (lt_of_get hr)]; simp
  no j r hr _ := by rw [List.getElem?_replicate, if_pos (lt_of_get hr)]
  yes j r o hr h := by simp [lookM] at h
def negRow (n j : Nat) : List Int := List.replicate j (-1) ++ List.replicate (n - j) 0
theorem negRow_at {n j : Nat} (h : j < n) : (negRow n j)[j]? = some 0 := by
  unfold negRow
  rw [List.getElem?_append_right (by simp), List.length_replicate, Nat.sub_self, List.getElem?_replicate, if_pos (by omega)]
theorem negRow_set {n j : Nat} (h : j < n) : (negRow n j).set j (-1) = negRow n (j + 1) := by
  unfold negRow
  rw [List.set_append_right _ _ (by simp), List.length_replicate, Nat.sub_self, show n - j = (n - (j + 1)) + 1 by omega, List.replicate_succ, List.set_cons_zero, List.replicate_succ', List.append_assoc]
  rfl
theorem negRow_end (n : Nat) : negRow n n = List.replicate n (-1) := by simp [negRow]
set_option maxHeartbeats 8000000 in
set_option maxRecDepth 100000 in
theorem Size_ok19 (g : Graph) (v : Value) (w : World) (h : GraphAt w v g) :
    Calls Try.prog 22 #[v] w fun e w' => e = .returned (.tuple #[.int .i64 (sizeG g), .int .i64 (validE g)]) ∧ Below w.heap.size w w' := by
  have h0 := h
  obtain ⟨v1, v2, v3, rfl, ho, hr, hl⟩ := h
  obtain ⟨A1, c1, rfl, _, _, hco⟩ := ho.cells
  obtain ⟨A2, c2, rfl, _, _, _⟩ := hr.cells
  obtain ⟨A3, c3, rfl, _, _, _⟩ := hl.cells
  obtain ⟨W, hW, Hz, hwW, hlt0, hc0⟩ := boxed w #[.slice A1 g.obv.length c1, .slice A2 g.rev.length c2, .slice A3 g.links.length c3] 25
  have a0 := hc0 0 _ rfl; have a1 := hc0 1 _ rfl; have a2 := hc0 2 _ rfl
  clear hc0 ho hr hl
  go_enter Try.func22, Try.ntmps22
  go_wp2_with fail
  refine (Graph_ok _ _ _ (h0.below hwW)).mono ?_
  rintro e w1 ⟨rfl, hb1⟩
  clear hW
  have b0 := cell_later hb1 a0; have b1 := cell_later hb1 a1; have b2 := cell_later hb1 a2
  have hw1 := below_trans hwW hb1
  clear a0 a1 a2
  cases hg : graphB g
  · have e1 : sizeG g = 0 := by simp [sizeG, mchG, hg]
    have e2 : validE g = 1 := by simp [validE, hg]
    have E1 := Lib.hid e1; have E2 := Lib.hid e2
    clear e1 e2 hg
    go_wp2_with fail
    go_ret2
    exact ⟨ret_two E1.out.symm E2.out.symm, hw1⟩
  have hok := (graphB_iff g).1 hg
  have hlo := hok.lo; have hlr := hok.lr
  have e2 : validE g = 0 := by simp [validE, hg]
  have E2 := Lib.hid e2
  obtain ⟨R, hR⟩ : ∃ R, passF (nbr g) (g.rev.length + 1) g.obv ⟨[], [], []⟩ 0 = R := ⟨_, rfl⟩
  have hopt : Hid (sizeG g = (R.1 : Nat)) := Lib.hid (by
    have h1 := pass_opt hg (Nat.lt_succ_self g.rev.length)
    rw [hR] at h1
    have := (mch_facts hg).2.unique h1
    rw [sizeG, this])
  have HR := Lib.hid hR
  have hmk := run_make_row' (P := Try.prog) 22 3 (.int .i64 0) 8 Try.underlying22 infoI rfl .i64 .i64 g.rev.length (by omega) (by omega)
  have hmb := run_make_row' (P := Try.prog) 67 4 (.bool false) 1 Try.underlying67 infoBool rfl .i64 .i64 g.rev.length (by omega) (by omega)
  rw [made_zero] at hmk
  rw [made_one] at hmb
  have Hmb := Lib.hid hmb
  have Hg := Lib.hid hg
  clear hok e2 hR hmb hg
  obtain ⟨w2, hw2⟩ : ∃ z, w1.alloc (.cells (Array.replicate g.rev.length (Value.int .i64 0)) 3) = z := ⟨_, rfl⟩
  have hb2 : Below w1.heap.size w1 w2 := by rw [← hw2]; exact (Below.refl _ _).alloc (Nat.le_refl _) _
  have hz2 : w1.heap.size < w2.heap.size := by rw [← hw2]; simp
  have hrow : w2.heap[w1.heap.size]? = some (.cells ((negRow g.rev.length 0).map (Value.int .i64)).toArray 3 (0, 0)) := by
    rw [← hw2]
    simpa [negRow] using heap_alloc_new w1 (.cells (Array.replicate g.rev.length (Value.int .i64 0)) 3)
  have Hrow := Lib.hid hrow
  have hww := hw1.size
  clear hrow
  go_wp2_with fail
  have c0 := cell_later hb2 b0; have c1' := cell_later hb2 b1; have c2' := cell_later hb2 b2
  have hwb : w.heap.size ≠ w1.heap.size := by have := hb1.size; omega
  clear hw2 b0 b1 b2 hmk
  go_loopw [5] (fun jv wr => ∃ j : Nat, j ≤ g.rev.length ∧ jv = .int .i64 j ∧ Hid (wr.heap[w1.heap.size]? = some (.cells ((negRow g.rev.length j).map (Value.int .i64)).toArray 3 (0, 0))) ∧ Touch w2 wr [w1.heap.size]) (fun jv _ => g.rev.length - (intOf jv).toNat)
  case atStart => exact ⟨0, Nat.zero_le _, rfl, Hrow.out, Touch.refl _ _⟩
  case round =>
    obtain ⟨j, hj, rfl, Hr, hT⟩ := hrel
    have a0 := cell_off hT (by simpa using hwb) c0; have a1 := cell_off hT (by simpa using hwb) c1'; have a2 := cell_off hT (by simpa using hwb) c2'
    by_cases hlt : j < g.rev.length
    · have d0 : decide (j < g.rev.length) = true := decide_eq_true hlt
      have p0 : wr.cell? ⟨w1.heap.size, j, none⟩ = some (.int .i64 0) := by rw [heap_cell Hr.out]; simp [negRow_at hlt]
      have p1 : wr.frozen? ⟨w1.heap.size, j, none⟩ = false := heap_free Hr.out
      have Hn : Hid ((wr.setCell ⟨w1.heap.size, j, none⟩ (.int .i64 (-1))).heap[w1.heap.size]? = some (.cells ((negRow g.rev.length (j + 1)).map (Value.int .i64)).toArray 3 (0, 0))) := Lib.hid (by
        have := heap_setCell_same wr w1.heap.size j _ _ (.int .i64 (-1)) Hr.out
        rw [this, ← negRow_set hlt]; simp)
      have hl1 : (j : Int) < (g.rev.length : Int) := by omega
      have hl0 : (0 : Int) ≤ (j : Int) := by omega
      clear a0 a1 a2
      go_wp2_with fail
      refine ⟨?rel, ?measure⟩
      case rel => exact ⟨j + 1, by omega, by go_num, Hn.out, hT.trans (touch_set rfl (by simp))⟩
      case measure => first | (simp [intOf]; done) | (simp [intOf]; omega)
    · have d0 : decide (j < g.rev.length) = false := decide_eq_false hlt
      have Hrr : Hid (wr.heap[w1.heap.size]? = some (.cells ((List.replicate g.rev.length (-1 : Int)).map (Value.int .i64)).toArray 3 (0, 0))) := Lib.hid (by
        have := Hr.out
        rw [show j = g.rev.length by omega, negRow_end] at this
        exact this)
      clear a0 a1 a2 Hr
      go_wp2_with fail
      have HT0 := Lib.hid hT
      go_loopw [6, 7] (fun c iv wr => ∃ (k m : Nat) (P : List Int) (t : St), k ≤ g.obv.length ∧ c = .int .i64 m ∧ iv = .int .i64 k ∧ m ≤ k ∧ Hid (wr.heap[w1.heap.size]? = some (.cells (P.map (Value.int .i64)).toArray 3 (0, 0)) ∧ TryAt g P (List.replicate g.rev.length false) ⟨t.obv, t.rev, []⟩ ∧ passF (nbr g) (g.rev.length + 1) (g.obv.drop k) t m = R) ∧ Touch w2 wr [w1.heap.size]) (fun _ iv _ => g.obv.length - (intOf iv).toNat)
      case atStart => exact ⟨0, 0, _, ⟨[], [], []⟩, Nat.zero_le _, rfl, rfl, Nat.le_refl _, ⟨Hrr.out, tryAt_start g, HR.out⟩, hT⟩
      case round =>
        clear hT d0 hlt hj Hrr
        obtain ⟨k, m, P, t, hk, rfl, rfl, hmk, Hr, hT⟩ := hrel
        have a0 := cell_off hT (by simpa using hwb) c0; have a1 := cell_off hT (by simpa using hwb) c1'; have a2 := cell_off hT (by simpa using hwb) c2'
        by_cases hlt : k < g.obv.length
        · obtain ⟨bo, oo, rfl, _, _⟩ := hco k hlt
          obtain ⟨o, ho⟩ := get_of_lt hlt
          obtain ⟨hP, hTr, hE⟩ := Hr.out
          rw [drop_at ho, passF] at hE
          have hl1 : (k : Int) < (g.obv.length : Int) := by omega
          have hl0 : (0 : Int) ≤ (k : Int) := by omega
          have HP := Lib.hid hP; have HTr := Lib.hid hTr; have HE := Lib.hid hE; have Ho := Lib.hid ho
          clear hP hTr hE ho Hr
          go_wp2_with fail
          have hba : Below wr.heap.size wr wr.drew := (Below.refl _ _).drew
          obtain ⟨wa, hwa⟩ : ∃ W, wr.drew = W := ⟨_, rfl⟩
          rw [hwa] at hba
          have Fc := Lib.hid (fun (w' : World) (hS : Below wa.heap.size wa w') => (⟨cell_later hS (cell_later hba a0), cell_later hS (cell_later hba a1), cell_later hS (cell_later hba a2)⟩ :
            w'.cell? ⟨w.heap.size, 0, none⟩ = some (.slice (some ⟨bo, oo, none⟩) g.obv.length c1) ∧ w'.cell? ⟨w.heap.size, 1, none⟩ = some (.slice A2 g.rev.length c2) ∧ w'.cell? ⟨w.heap.size, 2, none⟩ = some (.slice A3 g.links.length c3)))
          have hHeld : Below wa.heap.size wa wa := Below.refl _ _
          refine wp_region_S 7 (fun w' => Below wa.heap.size wa w') (by kernel_rfl) (by decide) ?_
          rw [hwa]
          clear a0 a1 a2 hwa
          refine wpAnyS_takeD 0 (some 31) (.agg #[.slice (some ⟨bo, oo, none⟩) g.obv.length c1, .slice A2 g.rev.length c2, .slice A3 g.links.length c3]) (by rfl) (by rfl) (by kernel_rfl) (by exact fun _ _ _ h => h) (by rfl) (fun w' hS => by (obtain ⟨x0, x1, x2⟩ := Fc.out w' hS; go_simp)) hHeld ?_
          simp only [Act.put, List.setIfInBounds_toArray, List.set_cons_succ, List.set_cons_zero]
          refine wpAnyS_takeD 1 (some 32) (.int .i64 k) (by rfl) (by rfl) (by kernel_rfl) (by exact fun _ _ _ h => h) (by rfl) (fun w' hS => by go_simp) hHeld ?_
          simp only [Act.put, List.setIfInBounds_toArray, List.set_cons_succ, List.set_cons_zero]
          refine wpAnyS_takeD 2 (some 33) (.slice (some ⟨w1.heap.size, 0, none⟩) g.rev.length g.rev.length) (by rfl) (by rfl) (by kernel_rfl) (by exact fun _ _ _ h => h) (by rfl) (fun w' hS => by go_simp) hHeld ?_
          simp only [Act.put, List.setIfInBounds_toArray, List.set_cons_succ, List.set_cons_zero]
          refine wpAnyS_takeD 3 (some 34) (.pointer (some ⟨w.heap.size, 1, none⟩)) (by rfl) (by rfl) (by kernel_rfl) (by exact fun _ _ _ h => h) (by rfl) (fun w' hS => by go_simp) hHeld ?_
          simp only [Act.put, List.setIfInBounds_toArray, List.set_cons_succ, List.set_cons_zero]
          refine wpAnyS_takeD 4 (some 35) (.slice A2 g.rev.length c2) (by rfl) (by rfl) (by kernel_rfl) (by exact fun _ _ _ h => h) (by rfl) (fun w' hS => by (obtain ⟨x0, x1, x2⟩ := Fc.out w' hS; go_simp)) hHeld ?_
          simp only [Act.put, List.setIfInBounds_toArray, List.set_cons_succ, List.set_cons_zero]
          refine wpAnyS_takeD 5 (some 36) (.int .i64 g.rev.length) (by rfl) (by rfl) (by kernel_rfl) (by exact fun _ _ _ h => h) (by rfl) (fun w' hS => by go_simp) hHeld ?_
          simp only [Act.put, List.setIfInBounds_toArray, List.set_cons_succ, List.set_cons_zero]
          clear Fc hHeld
          have hmb := Hmb.out
          refine wpAnyS_one 6 (by kernel_rfl) (by rfl) (by decide) (fun K hK => ?_)
          have HK := Lib.hid hK; clear hK
          rw [if_pos (by rfl)]
          go_simp
          obtain ⟨wc, hwc⟩ : ∃ z, wa.alloc (.cells (Array.replicate g.rev.length (Value.bool false)) 4) = z := ⟨_, rfl⟩
          have hbc : Below wa.heap.size wa wc := by rw [← hwc]; exact (Below.refl _ _).alloc (Nat.le_refl _) _
          rw [hwc]
          have hPa := heap_below HP.out hba (heap_lt HP.out)
          have hM : TryMem wc w1.heap.size wa.heap.size P (List.replicate g.rev.length false) := ⟨heap_below hPa hbc (heap_lt hPa), by
            rw [← hwc]
            simpa using heap_alloc_new wa (.cells (Array.replicate g.rev.length (Value.bool false)) 4), by have := heap_lt hPa; omega⟩
          have hTa := hT.trans ((touch_below hba [w1.heap.size]).trans (touch_below hbc [w1.heap.size]))
          have hwz : w.heap.size ≤ wa.heap.size := by have := heap_lt hPa; omega
          have hwcB : Below w.heap.size w wc := (hw1.trans (hb2.mono hww)).trans (hTa.below (by simp; omega) (by have := hb2.size; omega))
          have HC := Lib.hid (try_ok g Hg.out w _ h0 w1.heap.size wa.heap.size g.rev.length g.rev.length (by omega) (by omega) (Nat.le_refl _) (Nat.le_refl _) hww hwz (g.rev.length + 1) k o P (List.replicate g.rev.length false) ⟨t.obv, t.rev, []⟩ wc Ho.out hwcB hM HTr.out (Nat.lt_succ_of_le (List.length_filter_le _ _)))
          obtain ⟨bb, s2, hq⟩ : ∃ bb s2, augF (nbr g) (g.rev.length + 1) o ⟨t.obv, t.rev, []⟩ = (bb, s2) := ⟨_, _, rfl⟩
          rw [hq] at HC
          have hE := HE.out
          simp only [hq] at hE
          have HE2 := Lib.hid hE
          have hsz : wr.heap.size ≤ wa.heap.size := hba.size
          have hTz := hT.size
          refine HK.out _ _ hbc ?_
          clear HK hM hPa hq hE hwc HE
          refine (show tailOf _ _ _ _ _ _ _ _ from ⟨by kernel_rfl, ?_⟩)
          simp only [List.drop_succ_cons, List.drop_zero]
          clear hmb
          go_wp2_with fail
          refine HC.out.mono ?_
          rintro e w3 ⟨rfl, ⟨P', S', hM3, hT3⟩, hTc⟩
          have hT2 : Touch w2 w3 [w1.heap.size] := hTa.fresh hTc (by
            intro b hb
            simp only [List.mem_cons, List.not_mem_nil, or_false] at hb ⊢
            omega)
          have HM3 := Lib.hid hM3; have HT3 := Lib.hid hT3; have HT2 := Lib.hid hT2
          clear HC hM3 hT3 hTc hT2
          cases bb
          · have HE3 := Lib.hid HE2.out
            go_wp2_with fail
            refine ⟨?rel, ?measure⟩
            case rel => exact ⟨k + 1, m, P', s2, by omega, rfl, by go_num, by omega, ⟨HM3.out.p, HT3.out.fresh, HE3.out⟩, HT2.out⟩
            case measure => first | (simp [intOf]; done) | (simp [intOf]; omega)
          · have HE3 := Lib.hid HE2.out
            go_wp2_with fail
            refine ⟨?rel, ?measure⟩
            case rel => exact ⟨k + 1, m + 1, P', s2, by omega, by go_num, by go_num, by omega, ⟨HM3.out.p, HT3.out.fresh, HE3.out⟩, HT2.out⟩
            case measure => first | (simp [intOf]; done) | (simp [intOf]; omega)
        · have hd : g.obv.drop k = [] := List.drop_eq_nil_of_le (by omega)
          obtain ⟨hP, hTr, hE⟩ := Hr.out
          rw [hd, passF] at hE
          have hm : Hid (sizeG g = (m : Int)) := Lib.hid (by rw [hopt.out, ← hE])
          have hwrB : Below w.heap.size w wr := (hw1.trans (hb2.mono hww)).trans (hT.below (by simp; omega) (by have := hb2.size; omega))
          clear hd hP hTr hE Hr hopt
          go_wp2_with fail
          go_ret2
          exact ⟨ret_two hm.out.symm E2.out.symm, hwrB⟩
end Go.Proofs.Ytnaoiochfdipiaa
