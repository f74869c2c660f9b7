/- Package explanation: only, joins, Is, ends, across. Condition: the arguments read as such. -/
import Derived.Test.YtlmjncncmgmehaaGreatExpP
import Derived.Test.YtlmjncncmgmehaaGreatTraA
import Derived.Test.YtlmjncncmgmehaaGreatShelfX
import Derived.Shelf.SlicesG.Delete
namespace Go.Proofs.YtlmjncncmgmehaaGreat
open Go.RowKit Go.Maps

set_option maxHeartbeats 2000000 in
set_option maxRecDepth 100000 in
theorem onlyT_ok (s : Spec) (set : List Int) (inn : Bool) (iv : Value) (b b' : Nat) (w : World) (hi : Ints w iv set) (h : w.cell? ⟨b, 0, none⟩ = some iv) (h' : w.cell? ⟨b', 0, none⟩ = some (.bool inn)) :
    Calls Tryz.prog 75 #[valS s, .pointer (some ⟨b, 0, none⟩), .pointer (some ⟨b', 0, none⟩)] w fun e w' => e = .returned (.bool (!(hasB set s.id == inn))) ∧ Below w.heap.size w w' := by
  obtain ⟨W, hW, Hz, hwW, hlt0, hc0⟩ := boxed w (encS s).toArray 38
  simp only [encS] at hW hc0
  have a0 := Later.cell_all (hc0 0 _ rfl)
  have b0 := Later.cell_all (cell_later hwW h); have b1 := Later.cell_all (cell_later hwW h')
  have hi' := hi.below hwW
  obtain ⟨A, c, rfl, _⟩ := id hi
  have hC := Lib.hid (fun y : Later W => containsI_ok _ set s.id y.to (hi'.below y.h))
  clear hc0
  have hr : (!(hasB set s.id == inn)) = (decide (s.id ∈ set) != inn) := by simp [hasB, bne]
  rw [hr]
  generalize decide (s.id ∈ set) = K at hC
  clear hr
  go_enter Tryz.func75, Tryz.ntmps75
  go_wp2_with fail
  refine wp_region_later (by kernel_rfl) (by kernel_rfl) ?_
  repeat (go_big_quiet_step (first | (go_at_call 76; with_reducible exact calls_later (hC.out _))))
  refine wpQuiet_nil ?_
  intro _ hw'
  obtain ⟨xq, hw''⟩ := hw'
  subst hw''
  have hbz := xq.h
  generalize xq.to = wz at hbz ⊢
  go_wp2_with fail
  go_ret
  exact ⟨by cases K <;> cases inn <;> rfl, below_trans hwW hbz⟩
set_option maxHeartbeats 4000000 in
set_option maxRecDepth 100000 in
theorem indexX_ok (p : Spec → Bool) (q q' : Value) (B : Nat) (v : Value) (xs : List Spec) (w : World) (h : OwnS B w v xs) (hn : xs.length ≤ 1048576)
    (hp : ∀ x ∈ xs, ∀ W, Below B w W → Calls Tryz.prog 75 #[valS x, q, q'] W fun e w' => e = .returned (.bool (p x)) ∧ Below W.heap.size W w') :
    Calls Tryz.prog 111 #[v, .func (.func 75) #[] #[q, q']] w fun e w' => e = .returned (.int .i64 (firstI p xs)) ∧ Below w.heap.size w w' := by
  have Hp := Lib.hid hp; clear hp
  have hv : ∃ A c, v = .slice A xs.length c := by
    rcases h.cases with ⟨rfl, rfl⟩ | ⟨g, cap, rfl, _⟩
    · exact ⟨_, _, rfl⟩
    · exact ⟨_, _, rfl⟩
  obtain ⟨A, c, rfl⟩ := hv
  go_enter Tryz.func111, Tryz.ntmps111
  go_wp2
  go_loopw [8] (fun i wr => ∃ k : Nat, k ≤ xs.length ∧ i = .int .i64 k ∧ Hid ((xs.take k).all (fun x => !p x) = true) ∧ Below w.heap.size w wr) (fun i _ => xs.length - (intOf i).toNat)
  case atStart => exact ⟨0, Nat.zero_le _, rfl, by show _ = _; simp, Below.refl _ _⟩
  case round =>
    obtain ⟨k, hk, rfl, Hr, hb⟩ := hrel
    by_cases hlt : k < xs.length
    · obtain ⟨x, hx⟩ := get_of_lt hlt
      rcases h.cases with ⟨_, h0⟩ | ⟨g, cap, e, hg, _, _⟩
      · rw [h0] at hlt; simp at hlt
      cases e
      have hw := h.below hb
      have c_0 := (hw.cellsAt lenS rfl hx (j := 0) rfl); have c_1 := (hw.cellsAt lenS rfl hx (j := 1) rfl); have c_2 := (hw.cellsAt lenS rfl hx (j := 2) rfl); have c_3 := (hw.cellsAt lenS rfl hx (j := 3) rfl); have c_4 := (hw.cellsAt lenS rfl hx (j := 4) rfl); have c_5 := (hw.cellsAt lenS rfl hx (j := 5) rfl); have c_6 := (hw.cellsAt lenS rfl hx (j := 6) rfl)
      obtain ⟨c_0, fc_0⟩ := c_0; obtain ⟨c_1, fc_1⟩ := c_1; obtain ⟨c_2, fc_2⟩ := c_2; obtain ⟨c_3, fc_3⟩ := c_3; obtain ⟨c_4, fc_4⟩ := c_4; obtain ⟨c_5, fc_5⟩ := c_5; obtain ⟨c_6, fc_6⟩ := c_6
      simp only [Nat.add_zero] at c_0 fc_0
      have Hx := Lib.hid hx; clear hx hw h
      have hP := Hp.out x (List.mem_of_getElem? Hx.out) wr (hb.mono (by omega))
      have hl1 : (k : Int) < (xs.length : Int) := by omega
      have hl0 : (0 : Int) ≤ (k : Int) := by omega
      cases hpx : p x
      · rw [hpx] at hP
        have HP := Lib.hid hP; clear hP
        go_wp2_with fail
        refine HP.out.mono ?_
        rintro e w1 ⟨rfl, hb1⟩
        go_wp2_with fail
        refine ⟨?rel, ?measure⟩
        case rel => exact ⟨k + 1, by omega, by go_num, all_snoc Hx.out Hr.out (by simp [hpx]), below_trans hb hb1⟩
        case measure => simp [intOf]; omega
      · rw [hpx] at hP
        have HP := Lib.hid hP; clear hP
        go_wp2_with fail
        refine HP.out.mono ?_
        rintro e w1 ⟨rfl, hb1⟩
        go_wp2_with fail
        go_ret
        exact ⟨ret_i64 (firstI_hit Hx.out Hr.out hpx).symm, below_trans hb hb1⟩
    · have Hm : Hid (firstI p xs = -1) := firstI_miss (all_end hlt Hr.out)
      go_wp2_with fail
      go_ret
      exact ⟨ret_i64 Hm.out.symm, hb⟩
set_option maxHeartbeats 8000000 in
set_option maxRecDepth 100000 in
theorem deleteX_ok (p : Spec → Bool) (q q' : Value) (B : Nat) (v : Value) (xs : List Spec) (w : World) (h : OwnS B w v xs) (hn : xs.length ≤ 1048576) (hB : B ≤ w.heap.size)
    (hp : ∀ x ∈ xs, ∀ W, Below B w W → Calls Tryz.prog 75 #[valS x, q, q'] W fun e w' => e = .returned (.bool (p x)) ∧ Below W.heap.size W w') :
    Calls Tryz.prog 73 #[v, .func (.func 75) #[] #[q, q']] w fun e w' => ∃ u, e = .returned u ∧ OwnS B w' u (xs.filter fun x => !p x) ∧ Below B w w' := by
  have HI := Lib.hid (indexX_ok p q q' B v xs w h hn hp)
  have Hp := Lib.hid hp; clear hp
  by_cases hall : xs.all (fun x => !p x) = true
  · have hF : xs.filter (fun x => !p x) = xs := List.filter_eq_self.2 (List.all_eq_true.1 hall)
    have hm : firstI p xs = -1 := firstI_miss hall
    rw [hm] at HI
    have HF := Lib.hid hF; clear hF hm hall
    go_enter Tryz.func73, Tryz.ntmps73
    go_wp2_with fail
    refine HI.out.mono ?_
    rintro e w1 ⟨rfl, hb1⟩
    go_wp2_with fail
    go_ret
    exact ⟨_, rfl, by rw [HF.out]; exact h.below hb1, hb1.mono hB⟩
  obtain ⟨i0, x0, hx0, hall0, hp0⟩ := first_hit hall
  have hm : firstI p xs = i0 := firstI_hit hx0 hall0 hp0
  have hi0 := lt_of_get hx0
  rw [hm] at HI
  have hd : (((i0 : Nat) : Int) == -1) = false := by simp <;> omega
  rcases h.cases with ⟨rfl, h0⟩ | ⟨g, cap, rfl, hg, hgw, hcap, hmx⟩
  · rw [h0] at hi0; simp at hi0
  have hmx' : (cap : Int) ≤ 9223372036854775807 := by simp only [maxLen] at hmx; omega
  have Hst : Hid ((xs.take (i0 + 1)).filter (fun x => !p x) = xs.take i0) := by
    show _ = _
    rw [take_snoc' hx0, List.filter_append, List.filter_eq_self.2 (List.all_eq_true.1 hall0)]
    simp [hp0]
  clear hm hall0 hp0 hx0 hall
  go_enter Tryz.func73, Tryz.ntmps73
  go_wp2_with fail
  refine HI.out.mono ?_
  rintro e w1 ⟨rfl, hb1⟩
  have h1 := h.below hb1
  have hbB := hb1.mono hB
  clear h
  go_wp2_with fail
  go_loopw [5, 6] (fun t5 t6 wr => ∃ (i j : Nat) (dk : List Spec), t5 = .int .i64 i ∧ t6 = .int .i64 j ∧ i < j ∧ j ≤ xs.length ∧ OwnS B wr (.slice (some ⟨g, 0, none⟩) xs.length cap) dk ∧ Hid (xs.length = dk.length) ∧ Hid (dk.take i = (xs.take j).filter (fun x => !p x)) ∧ Hid (∀ t, j ≤ t → dk[t]? = xs[t]?) ∧ Hid (((xs.take j).filter (fun x => !p x)).length = i) ∧ Below B w wr) (fun _ t6 _ => xs.length - (intOf t6).toNat)
  case atStart => exact ⟨i0, i0 + 1, xs, rfl, by go_num, by omega, by omega, h1, rfl, Hst.out.symm, fun _ _ => rfl, by show _ = _; rw [Hst.out, List.length_take]; omega, hbB⟩
  case round =>
    clear h1 hbB hb1
    obtain ⟨i, j, dk, rfl, rfl, hij, hj, hown, Hl, Htk, Htl, Hlen, hb⟩ := hrel
    by_cases hlt : j < xs.length
    · obtain ⟨x, hx⟩ := get_of_lt hlt
      have hxd : dk[j]? = some x := by rw [Htl.out j (Nat.le_refl _)]; exact hx
      obtain ⟨y, hy⟩ := get_of_lt (show i < dk.length by have := Hl.out; omega)
      have c_0 := (hown.cellsAt lenS Hl.out hxd (j := 0) rfl); have c_1 := (hown.cellsAt lenS Hl.out hxd (j := 1) rfl); have c_2 := (hown.cellsAt lenS Hl.out hxd (j := 2) rfl); have c_3 := (hown.cellsAt lenS Hl.out hxd (j := 3) rfl); have c_4 := (hown.cellsAt lenS Hl.out hxd (j := 4) rfl); have c_5 := (hown.cellsAt lenS Hl.out hxd (j := 5) rfl); have c_6 := (hown.cellsAt lenS Hl.out hxd (j := 6) rfl)
      obtain ⟨c_0, fc_0⟩ := c_0; obtain ⟨c_1, fc_1⟩ := c_1; obtain ⟨c_2, fc_2⟩ := c_2; obtain ⟨c_3, fc_3⟩ := c_3; obtain ⟨c_4, fc_4⟩ := c_4; obtain ⟨c_5, fc_5⟩ := c_5; obtain ⟨c_6, fc_6⟩ := c_6
      simp only [Nat.add_zero] at c_0 fc_0
      clear hxd
      obtain ⟨W1, hW1, Hz1, hb2, hlt1, hc1⟩ := boxed wr (encS x).toArray 38
      simp only [encS] at hW1 hc1
      have hgl : g < wr.heap.size := by obtain ⟨cur, _, hg, _⟩ := hown.row Hl.out; exact heap_lt hg
      have hB1 := Below.size hb
      have hP := Hp.out x (List.mem_of_getElem? hx) W1 (hb.trans (hb2.mono (by omega)))
      have own1 := hown.below hb2
      have hl1 : (j : Int) < (xs.length : Int) := by omega
      have hl0 : (0 : Int) ≤ (j : Int) := by omega
      have hl2 : (i : Int) < (xs.length : Int) := by omega
      have hl3 : (0 : Int) ≤ (i : Int) := by omega
      have hbW := hb.trans (hb2.mono (by omega))
      have hBg : B ≤ wr.heap.size := by omega
      have hsn : (xs.take (j + 1)).filter (fun x => !p x) = (xs.take j).filter (fun x => !p x) ++ (if p x = true then [] else [x]) := by
        rw [take_snoc' hx, List.filter_append]
        cases hpx : p x <;> simp [hpx]
      have Hx := Lib.hid hx; have Hy := Lib.hid hy; clear hx hy hown
      have m1 := fun i v h => Later.cell_all (hc1 i v h)
      cases hpx : p x
      · rw [hpx] at hP
        rw [hpx, if_neg (by simp)] at hsn
        have HP := Lib.hid hP; have Hsn := Lib.hid hsn; clear hP hsn m1
        go_wp2_with fail
        refine HP.out.mono ?_
        rintro e w2 ⟨rfl, hb3⟩
        have own2 := own1.below hb3
        have d_0 := (own2.cellsAt lenS Hl.out Hy.out (j := 0) rfl); have d_1 := (own2.cellsAt lenS Hl.out Hy.out (j := 1) rfl); have d_2 := (own2.cellsAt lenS Hl.out Hy.out (j := 2) rfl); have d_3 := (own2.cellsAt lenS Hl.out Hy.out (j := 3) rfl); have d_4 := (own2.cellsAt lenS Hl.out Hy.out (j := 4) rfl); have d_5 := (own2.cellsAt lenS Hl.out Hy.out (j := 5) rfl); have d_6 := (own2.cellsAt lenS Hl.out Hy.out (j := 6) rfl)
        obtain ⟨d_0, fd_0⟩ := d_0; obtain ⟨d_1, fd_1⟩ := d_1; obtain ⟨d_2, fd_2⟩ := d_2; obtain ⟨d_3, fd_3⟩ := d_3; obtain ⟨d_4, fd_4⟩ := d_4; obtain ⟨d_5, fd_5⟩ := d_5; obtain ⟨d_6, fd_6⟩ := d_6
        simp only [Nat.add_zero] at d_0 fd_0
        have hput := own2.put lenS (by omega) Hl.out (i := i) (by omega) x
        have Hput := Lib.hid hput; clear hput own1 own2 hW1
        have b0 := cell_later hb3 (hc1 0 _ rfl); have b1 := cell_later hb3 (hc1 1 _ rfl); have b2 := cell_later hb3 (hc1 2 _ rfl); have b3 := cell_later hb3 (hc1 3 _ rfl); have b4 := cell_later hb3 (hc1 4 _ rfl); have b5 := cell_later hb3 (hc1 5 _ rfl); have b6 := cell_later hb3 (hc1 6 _ rfl)
        clear hc1
        go_wp2_with fail
        refine ⟨?rel, ?measure⟩
        case rel =>
          refine ⟨i + 1, j + 1, dk.set i x, by go_num, by go_num, by omega, by omega, Hput.out, by show _ = _; rw [List.length_set]; exact Hl.out, ?_, ?_, ?_, ?_⟩
          · show _ = _
            rw [Hsn.out, ← Htk.out]
            have hi := lt_of_get Hy.out
            apply List.ext_getElem?
            intro t
            rcases Nat.lt_trichotomy t i with e | e | e
            · rw [List.getElem?_take_of_lt (by omega), List.getElem?_set_ne (by omega), List.getElem?_append_left (by simp; omega), List.getElem?_take_of_lt e]
            · subst e
              rw [List.getElem?_take_of_lt (by omega), List.getElem?_set_self hi, List.getElem?_append_right (by simp; omega), show t - (dk.take t).length = 0 by simp; omega]
              rfl
            · rw [List.getElem?_take_eq_none (by omega), List.getElem?_eq_none (by simp; omega)]
          · intro t ht
            rw [List.getElem?_set_ne (by omega)]
            exact Htl.out t (by omega)
          · show _ = _
            rw [Hsn.out, List.length_append, Hlen.out]
            rfl
          · exact (hbW.trans (hb3.mono (by omega))).grown (setCells_grown g (encS x) w2 (i * 7)) (by have := hb3.size; omega) (fun k e => by cases e; exact hg)
        case measure => simp [intOf]; omega
      · rw [hpx] at hP
        rw [hpx, if_pos rfl, List.append_nil] at hsn
        have HP := Lib.hid hP; have Hsn := Lib.hid hsn; clear hP hsn m1
        go_wp2_with fail
        refine HP.out.mono ?_
        rintro e w2 ⟨rfl, hb3⟩
        have own2 := own1.below hb3
        clear hW1 own1
        go_wp2_with fail
        refine ⟨?rel, ?measure⟩
        case rel => exact ⟨i, j + 1, dk, rfl, by go_num, by omega, by omega, own2, Hl, by show _ = _; rw [Hsn.out]; exact Htk.out, fun t ht => Htl.out t (by omega), by show _ = _; rw [Hsn.out]; exact Hlen.out, hbW.trans (hb3.mono (by omega))⟩
        case measure => simp [intOf]; omega
    · have hje : xs.take j = xs := List.take_of_length_le (by omega)
      have Hfin : Hid (dk.take i = xs.filter (fun x => !p x)) := by show _ = _; rw [Htk.out, hje]
      clear hje
      obtain ⟨cur, hBg, hgc, q1, q2, q3, q4⟩ := hown.row Hl.out
      have hcl := fun ty => run_clear_rows (P := Tryz.prog) wr 22 38 ty (zeroS) Tryz.underlying22 zeroS_run (by simp [zeroS, Value.cells, Value.oneCell']) g (i * 7) (xs.length - i) (cap - i) (by omega)
        (fun t ht => by rw [heap_cell hgc]; simp [zeroS, Value.cells] at ht; rw [Array.getElem?_eq_getElem (by omega)]; rfl) (fun t ht => heap_free hgc)
      obtain ⟨Z, hZ⟩ : ∃ Z, (Builtin.zeroCells (zeroS).cells (xs.length - i)).toList = Z := ⟨_, rfl⟩
      have hZl : Z.length = (xs.length - i) * 7 := by rw [← hZ, zeros_len]; rfl
      simp only [hZ] at hcl
      clear hZ
      have HZl := Lib.hid hZl; clear hZl
      have Hown := Lib.hid hown; clear hown q3 q4 hgc
      have i2 : (i : Int) ≤ (xs.length : Int) := by omega
      have i3 : (0 : Int) ≤ (i : Int) := by omega
      have i4 : (i : Int) ≤ (cap : Int) := by omega
      have i5 : ¬ cap = i := by omega
      have hBw := Below.size hb
      go_wp2
      go_ret
      have hcut := Hown.out.cut lenS Hl.out (m := i) (by omega)
      rw [Hfin.out] at hcut
      have hlen : i = (xs.filter (fun x => !p x)).length := by rw [← Hfin.out, List.length_take]; have := Hl.out; omega
      exact ⟨_, rfl, hcut.putTail lenS hlen (Nat.le_refl _) Z (by rw [HZl.out]; omega), hb.grown (setCells_grown g _ wr (i * 7)) (by omega) (fun k e => by cases e; exact hg)⟩
set_option maxHeartbeats 2000000 in
set_option maxRecDepth 100000 in
theorem only_ok (v iv : Value) (l : List Spec) (set : List Int) (inn : Bool) (w : World) (h : Specs w v l) (hi : Ints w iv set) (hl : l.length ≤ 1048576) :
    Calls Tryz.prog 50 #[v, iv, .bool inn] w fun e w' => ∃ u, e = .returned u ∧ OwnS w.heap.size w' u (onlyL l set inn) ∧ Below w.heap.size w w' := by
  obtain ⟨A, c, rfl, _⟩ := id h
  obtain ⟨Ai, ci, rfl, _⟩ := id hi
  obtain ⟨W0, hW0, Hz0, hb0, hlt0, hc0⟩ := boxed w #[.slice Ai set.length ci] 26
  obtain ⟨W1, hW1, Hz1, hb1, hlt1, hc1⟩ := boxed W0 #[.bool inn] 4
  have a0 := cell_later hb1 (hc0 0 _ rfl); have a1 := hc1 0 _ rfl
  have hw1 := below_trans hb0 hb1
  clear hc0 hc1
  go_enter Tryz.func50, Tryz.ntmps50
  go_wp2_with fail
  refine (cloneS_ok _ l _ (h.below hw1) hl).mono ?_
  rintro e w2 ⟨u, rfl, ho, hb2⟩
  have hw2 := below_trans hw1 hb2
  have a0 := cell_later hb2 a0; have a1 := cell_later hb2 a1
  have hw1s := hw1.size
  have hD := deleteX_ok (fun s => !(hasB set s.id == inn)) (.pointer (some ⟨w.heap.size, 0, none⟩)) (.pointer (some ⟨W0.heap.size, 0, none⟩)) W1.heap.size u l w2 ho hl hb2.size fun x _ W hW => onlyT_ok x set inn _ _ _ W (hi.below (hw2.trans (hW.mono hw1s))) (by
    have := (hW.cell (p := ⟨w.heap.size, 0, none⟩) (show w.heap.size < W1.heap.size by omega)).trans a0; exact this) (by
    have := (hW.cell (p := ⟨W0.heap.size, 0, none⟩) (show W0.heap.size < W1.heap.size by omega)).trans a1; exact this)
  have HD := Lib.hid hD
  obtain ⟨Au, cu, rfl, _⟩ := ho.slOf
  clear hD ho
  go_wp2_with fail
  refine HD.out.mono ?_
  rintro e w3 ⟨u3, rfl, ho3, hb3⟩
  clear HD
  go_wp2_with fail
  go_ret
  refine ⟨_, rfl, ?_, hw2.trans (hb3.mono hw1s)⟩
  have he : (l.filter fun x => !(fun s : Spec => !(hasB set s.id == inn)) x) = onlyL l set inn := List.filter_congr fun x _ => by simp
  rw [he] at ho3
  exact ho3.base hw1s
end Go.Proofs.YtlmjncncmgmehaaGreat
/- Package explanation: joins, Is, Minimal. Condition: the arguments read as such. -/
namespace Go.Proofs.YtlmjncncmgmehaaGreat
open Go.RowKit Go.Maps Go.Shelf

set_option maxHeartbeats 4000000 in
set_option maxRecDepth 100000 in
theorem joinsE_ok (v iv : Value) (l : List Spec) (da db : Die) (set : List Int) (w : World) (h : Specs w v l) (hi : Ints w iv set) (hda : wfD da) (hdb : wfD db) (hl : l.length ≤ 1048576) :
    Calls Tryz.prog 32 #[v, vlD da, vlD db, iv] w fun e w' => e = .returned (.bool (jnL (onlyL l set true) da db)) ∧ Below w.heap.size w w' := by
  obtain ⟨X0, hX0, HzX0, hbX0, hltX0, hcX0⟩ := boxed w #[.int .i64 da.side, .int .i64 da.num] 24
  obtain ⟨X1, hX1, HzX1, hbX1, hltX1, hcX1⟩ := boxed X0 #[.int .i64 db.side, .int .i64 db.num] 24
  have hX := below_trans hbX0 hbX1
  have h0 := h.below hX
  have hi0 := hi.below hX
  have a0 := cell_later hbX1 (hcX0 0 _ rfl); have a1 := cell_later hbX1 (hcX0 1 _ rfl)
  have b0 := hcX1 0 _ rfl; have b1 := hcX1 1 _ rfl
  clear hcX0 hcX1
  obtain ⟨A, c, rfl, _⟩ := id h
  obtain ⟨Ai, ci, rfl, _⟩ := id hi
  have HO := Lib.hid (only_ok _ _ l set true _ h0 hi0 hl)
  unfold jnL
  generalize onlyL l set true = L at HO ⊢
  obtain ⟨B, hB⟩ : ∃ B, joinG (ofG L) da db = B := ⟨_, rfl⟩
  rw [hB]
  have HB := Lib.hid hB; clear hB
  clear h0 hi0 h hi
  go_enter Tryz.func32, Tryz.ntmps32
  go_wp2_with fail
  refine HO.out.mono ?_
  rintro e w1 ⟨u, rfl, ho, hb1⟩
  have a0 := cell_later hb1 a0; have a1 := cell_later hb1 a1; have b0 := cell_later hb1 b0; have b1 := cell_later hb1 b1
  have hw1 := below_trans hX hb1
  have hS := ho.slOf
  obtain ⟨Au, cu, rfl, _⟩ := id hS
  clear HO ho
  go_wp2_with fail
  refine (Of_ok _ L _ hS).mono ?_
  rintro e w2 ⟨ug, rfl, hg, hb2⟩
  have a0 := cell_later hb2 a0; have a1 := cell_later hb2 a1; have b0 := cell_later hb2 b0; have b1 := cell_later hb2 b1
  have hw2 := below_trans hw1 hb2
  generalize ofG L = g at hg HB
  generalize ofE L = E
  have hg' := hg
  obtain ⟨v1, v2, v3, rfl, ⟨A1k, c1k, rfl, _⟩, ⟨A2k, c2k, rfl, _⟩, ⟨A3k, c3k, rfl, _⟩⟩ := hg
  obtain ⟨W1, W2, hW1, hW2, HzW2, hkW1, hkW2, hbW2, hltW2⟩ := fresh w2 [.slice none 0 0, .slice none 0 0, .slice none 0 0] [.slice A1k (g).obv.length c1k, .slice A2k (g).rev.length c2k, .slice A3k (g).links.length c3k] 54 rfl
  have hsW2 : ((W1.setCell ⟨w2.heap.size, 0, none⟩ (.slice A1k (g).obv.length c1k)).setCell ⟨w2.heap.size, 1, none⟩ (.slice A2k (g).rev.length c2k)).setCell ⟨w2.heap.size, 2, none⟩ (.slice A3k (g).links.length c3k) = W2 := hW2
  clear hW2
  obtain ⟨⟨z0k, z1k, z2k⟩, f0k, f1k, f2k⟩ := cells3 hkW1
  obtain ⟨⟨s0k, s1k, s2k⟩, _⟩ := cells3 hkW2
  clear hkW1 hkW2
  have a0 := cell_later hbW2 a0; have a1 := cell_later hbW2 a1; have b0 := cell_later hbW2 b0; have b1 := cell_later hbW2 b1
  have hw3 := below_trans hw2 hbW2
  have HJ := Lib.hid (cJoined_ok _ g da db _ (hg'.below hbW2) hda hdb)
  generalize joinG g da db = J at HJ HB
  clear hS
  go_wp2_with fail
  refine HJ.out.mono ?_
  rintro e w3 ⟨rfl, hb3⟩
  go_wp2_with fail
  go_ret
  exact ⟨ret_bool HB.out, below_trans hw3 hb3⟩

section
variable {l : List Spec} {a b : Die} {set : List Int} {x y : Int} {k : Nat}
/-- How far Is has looked. -/
structure IsUp (l : List Spec) (set : List Int) (k : Nat) : Prop where
  asc : AscL (set.take k)
  mem : ∀ n ∈ set.take k, n ∈ l.map Spec.id
theorem IsUp.start : IsUp l set 0 := ⟨List.Pairwise.nil, fun n h => by simp at h⟩
theorem asc_last {L : List Int} (h : AscL L) (hy : L[L.length - 1]? = some y) : ∀ n ∈ L, n ≤ y := fun n hn => by
  obtain ⟨i, hi, rfl⟩ := List.getElem_of_mem hn
  have hL : L.length - 1 < L.length := by omega
  rw [List.getElem?_eq_getElem hL] at hy
  cases hy
  rcases Nat.lt_or_ge i (L.length - 1) with h1 | h1
  · exact Int.le_of_lt (List.pairwise_iff_getElem.1 h i _ hi hL h1)
  · have : i = L.length - 1 := by omega
    subst this; exact Int.le_refl _
theorem IsUp.step (h : IsUp l set k) (hx : set[k]? = some x) (hm : x ∈ l.map Spec.id) (hy : 0 < k → ∃ y, set[k - 1]? = some y ∧ y < x) : IsUp l set (k + 1) := by
  have hk := lt_of_get hx
  refine ⟨?_, fun n hn => ?_⟩
  · rw [take_snoc' hx, AscL, List.pairwise_append]
    refine ⟨h.asc, List.pairwise_singleton _ _, fun n hn z hz => ?_⟩
    rw [List.mem_singleton] at hz; subst hz
    rcases Nat.eq_zero_or_pos k with h0 | h0
    · subst h0; simp at hn
    · obtain ⟨y, hy, hlt⟩ := hy h0
      have := asc_last h.asc (y := y) (by rw [List.length_take, Nat.min_eq_left (by omega), List.getElem?_take, if_pos (by omega)]; exact hy) n hn
      omega
  · rw [take_snoc' hx] at hn
    rcases List.mem_append.1 hn with hn | hn
    · exact h.mem n hn
    · rw [List.mem_singleton] at hn; subst hn; exact hm
theorem isS_off (h : ofE l ≠ 0) : isS l a b set = false := by simp [isS, h]
theorem isS_mem (hx : set[k]? = some x) (hm : x ∉ l.map Spec.id) : isS l a b set = false := by
  have : set.all (fun n => decide (n ∈ l.map Spec.id)) = false := by
    rw [List.all_eq_false]; exact ⟨x, List.mem_of_getElem? hx, by simpa using hm⟩
  rw [isS, this]; simp
theorem isS_asc (h0 : 0 < k) (hx : set[k]? = some x) (hy : set[k - 1]? = some y) (h : x ≤ y) : isS l a b set = false := by
  have : ¬ AscL set := fun ha => by
    have hk := lt_of_get hx
    rw [List.getElem?_eq_getElem hk] at hx
    rw [List.getElem?_eq_getElem (show k - 1 < set.length by omega)] at hy
    have e1 := Option.some.inj hx; have e2 := Option.some.inj hy
    have := List.pairwise_iff_getElem.1 ha (k - 1) k (by omega) hk (by omega)
    omega
  simp [isS, this]
theorem isS_all (h : ofE l = 0) (hu : IsUp l set k) (hk : ¬ k < set.length) : isS l a b set = jnL (onlyL l set true) a b := by
  have h1 := hu.asc; have h2 := hu.mem
  rw [List.take_of_length_le (by omega)] at h1 h2
  have h3 : set.all (fun n => decide (n ∈ l.map Spec.id)) = true := List.all_eq_true.2 fun n hn => by simpa using h2 n hn
  rw [isS, h3]; simp [h, h1]
end
end Go.Proofs.YtlmjncncmgmehaaGreat
/- Package explanation: Is. Condition: the arguments read as such. -/
namespace Go.Proofs.YtlmjncncmgmehaaGreat
open Go.RowKit Go.Maps Go.Shelf

set_option maxHeartbeats 8000000 in
set_option maxRecDepth 100000 in
theorem IsE_ok (v iv : Value) (l : List Spec) (da db : Die) (set : List Int) (w : World) (h : Specs w v l) (hi : Ints w iv set) (hda : wfD da) (hdb : wfD db) (hl : l.length ≤ 1048576) :
    Calls Tryz.prog 12 #[v, vlD da, vlD db, iv] w fun e w' => e = .returned (.bool (isS l da db set)) ∧ Below w.heap.size w w' := by
  obtain ⟨X0, hX0, HzX0, hbX0, hltX0, hcX0⟩ := boxed w #[.int .i64 da.side, .int .i64 da.num] 24
  obtain ⟨X1, hX1, HzX1, hbX1, hltX1, hcX1⟩ := boxed X0 #[.int .i64 db.side, .int .i64 db.num] 24
  have hX := below_trans hbX0 hbX1
  have h0 := h.below hX
  have hi0 := hi.below hX
  have a0 := cell_later hbX1 (hcX0 0 _ rfl); have a1 := cell_later hbX1 (hcX0 1 _ rfl)
  have b0 := hcX1 0 _ rfl; have b1 := hcX1 1 _ rfl
  clear hcX0 hcX1
  obtain ⟨A, c, rfl, _⟩ := id h
  obtain ⟨Ai, ci, rfl, hi1, hi2, hci⟩ := hi.cells
  obtain ⟨B, hB⟩ : ∃ B, isS l da db set = B := ⟨_, rfl⟩
  rw [hB]
  have HB := Lib.hid hB
  have Hi := Lib.hid hi; have Hh := Lib.hid h
  clear hi0 hB hi h
  go_enter Tryz.func12, Tryz.ntmps12
  go_wp2_with fail
  refine (Of_ok _ l _ h0).mono ?_
  rintro e w1 ⟨ug, rfl, hg, hb1⟩
  have a0 := cell_later hb1 a0; have a1 := cell_later hb1 a1; have b0 := cell_later hb1 b0; have b1 := cell_later hb1 b1
  have hw1 := below_trans hX hb1
  generalize ofG l = g at hg ⊢
  obtain ⟨v1, v2, v3, rfl, ⟨A1k, c1k, rfl, _⟩, ⟨A2k, c2k, rfl, _⟩, ⟨A3k, c3k, rfl, _⟩⟩ := hg
  obtain ⟨W1, W2, hW1, hW2, HzW2, hkW1, hkW2, hbW2, hltW2⟩ := fresh w1 [.slice none 0 0, .slice none 0 0, .slice none 0 0] [.slice A1k (g).obv.length c1k, .slice A2k (g).rev.length c2k, .slice A3k (g).links.length c3k] 54 rfl
  have hsW2 : ((W1.setCell ⟨w1.heap.size, 0, none⟩ (.slice A1k (g).obv.length c1k)).setCell ⟨w1.heap.size, 1, none⟩ (.slice A2k (g).rev.length c2k)).setCell ⟨w1.heap.size, 2, none⟩ (.slice A3k (g).links.length c3k) = W2 := hW2
  clear hW2
  obtain ⟨⟨z0k, z1k, z2k⟩, f0k, f1k, f2k⟩ := cells3 hkW1
  obtain ⟨⟨s0k, s1k, s2k⟩, _⟩ := cells3 hkW2
  clear hkW1 hkW2
  have a0 := cell_later hbW2 a0; have a1 := cell_later hbW2 a1; have b0 := cell_later hbW2 b0; have b1 := cell_later hbW2 b1
  have hw2 := below_trans hw1 hbW2
  by_cases hE : ofE l = 0
  case neg =>
    have HR := Lib.hid (HB.out.symm.trans (isS_off (a := da) (b := db) (set := set) hE))
    generalize ofE l = E at hE
    have hd : (E != 0) = true := by simpa using hE
    clear hE
    go_wp2_with fail
    go_ret
    exact ⟨ret_bool HR.out.symm, hw2⟩
  have hd : (ofE l != 0) = false := by simp [hE]
  have HE := Lib.hid hE; clear hE
  go_wp2_with fail
  clear z0k z1k z2k f0k f1k f2k s0k s1k s2k hsW2 hW1 h0 hd
  go_loopw [24] (fun i wr => ∃ k : Nat, k ≤ set.length ∧ i = .int .i64 k ∧ Hid (IsUp l set k) ∧ Below W2.heap.size W2 wr) (fun i _ => set.length - (intOf i).toNat)
  case atStart => exact ⟨0, Nat.zero_le _, rfl, Lib.hid IsUp.start, Below.refl _ _⟩
  case round =>
    obtain ⟨k, hk, rfl, HU, hbr⟩ := hrel
    have hwr := below_trans hw2 hbr
    have hsz := hwr.size
    have a0 := cell_later hbr a0; have a1 := cell_later hbr a1; have b0 := cell_later hbr b0; have b1 := cell_later hbr b1
    by_cases hlt : k < set.length
    · obtain ⟨x, hx⟩ := get_of_lt hlt
      obtain ⟨bo, o, rfl, hbb, hc0⟩ := hci k hlt
      have y0 := hc0 wr hwr k x hx
      have HF := Lib.hid (Find_ok _ l x _ (Hh.out.below hwr))
      have hlt1 : (k : Int) < (set.length : Int) := by omega
      have hlt0 : (0 : Int) ≤ (k : Int) := by omega
      have Hx := Lib.hid hx; clear hx
      by_cases hm : x ∈ l.map Spec.id
      case neg =>
        have HR := Lib.hid (HB.out.symm.trans (isS_mem (a := da) (b := db) Hx.out hm))
        have hmd : decide (x ∈ l.map Spec.id) = false := by simpa using hm
        rw [hmd] at HF
        clear hm hmd hci hc0
        go_wp2_with fail
        refine HF.out.mono ?_
        rintro e w3 ⟨s, rfl, hb3⟩
        obtain ⟨V1, V2, hV1, hV2, HzV2, hkV1, hkV2, hbV2, hltV2⟩ := fresh w3 [.int .i64 0, .int .i64 0, .int .i64 0, .int .i64 0, .int .i64 0, .int .i64 0, .int .i64 0] [.int .i64 (s).id, .int .i64 (s).obv, .int .i64 (s).rev, .int .i64 (s).os, .int .i64 (s).rs, .int .i64 (s).ax, .int .i64 (s).wt] 38 rfl
        have hsV2 : ((((((V1.setCell ⟨w3.heap.size, 0, none⟩ (.int .i64 (s).id)).setCell ⟨w3.heap.size, 1, none⟩ (.int .i64 (s).obv)).setCell ⟨w3.heap.size, 2, none⟩ (.int .i64 (s).rev)).setCell ⟨w3.heap.size, 3, none⟩ (.int .i64 (s).os)).setCell ⟨w3.heap.size, 4, none⟩ (.int .i64 (s).rs)).setCell ⟨w3.heap.size, 5, none⟩ (.int .i64 (s).ax)).setCell ⟨w3.heap.size, 6, none⟩ (.int .i64 (s).wt) = V2 := hV2
        clear hV2
        obtain ⟨⟨z0, z1, z2, z3, z4, z5, z6⟩, f0, f1, f2, f3, f4, f5, f6⟩ := cellsS hkV1
        clear hkV1
        obtain ⟨⟨s0, s1, s2, s3, s4, s5, s6⟩, _⟩ := cellsS hkV2
        go_wp2_with fail
        go_ret
        exact ⟨ret_bool HR.out.symm, below_trans (below_trans hwr hb3) hbV2⟩
      have hmd : decide (x ∈ l.map Spec.id) = true := by simpa using hm
      rw [hmd] at HF
      have Hm := Lib.hid hm
      clear hm hmd
      by_cases h0k : 0 < k
      case neg =>
        have hk0 : k = 0 := by omega
        subst hk0
        have y0' : wr.cell? ⟨bo, o, none⟩ = some (.int .i64 x) := by simpa using y0
        clear hci hc0 y0
        go_wp2_with fail
        refine HF.out.mono ?_
        rintro e w3 ⟨s, rfl, hb3⟩
        obtain ⟨V1, V2, hV1, hV2, HzV2, hkV1, hkV2, hbV2, hltV2⟩ := fresh w3 [.int .i64 0, .int .i64 0, .int .i64 0, .int .i64 0, .int .i64 0, .int .i64 0, .int .i64 0] [.int .i64 (s).id, .int .i64 (s).obv, .int .i64 (s).rev, .int .i64 (s).os, .int .i64 (s).rs, .int .i64 (s).ax, .int .i64 (s).wt] 38 rfl
        have hsV2 : ((((((V1.setCell ⟨w3.heap.size, 0, none⟩ (.int .i64 (s).id)).setCell ⟨w3.heap.size, 1, none⟩ (.int .i64 (s).obv)).setCell ⟨w3.heap.size, 2, none⟩ (.int .i64 (s).rev)).setCell ⟨w3.heap.size, 3, none⟩ (.int .i64 (s).os)).setCell ⟨w3.heap.size, 4, none⟩ (.int .i64 (s).rs)).setCell ⟨w3.heap.size, 5, none⟩ (.int .i64 (s).ax)).setCell ⟨w3.heap.size, 6, none⟩ (.int .i64 (s).wt) = V2 := hV2
        clear hV2
        obtain ⟨⟨z0, z1, z2, z3, z4, z5, z6⟩, f0, f1, f2, f3, f4, f5, f6⟩ := cellsS hkV1
        clear hkV1
        obtain ⟨⟨s0, s1, s2, s3, s4, s5, s6⟩, _⟩ := cellsS hkV2
        have hb4 := below_trans hb3 hbV2
        go_wp2_with fail
        refine ⟨?rel, ?measure⟩
        case rel => exact ⟨1, by omega, by go_num, Lib.hid (HU.out.step Hx.out Hm.out fun h => absurd h (by omega)), below_trans hbr hb4⟩
        case measure => simp [intOf]; omega
      have d3 : decide ((0 : Int) < (k : Int)) = true := by simp; omega
      obtain ⟨y, hy⟩ := get_of_lt (show k - 1 < set.length by omega)
      have Hy := Lib.hid hy
      have HC := Lib.hid fun W (hW : Below w.heap.size w W) => hc0 W hW (k - 1) y hy
      clear hy hc0
      have H0k := Lib.hid h0k
      by_cases hyx : x ≤ y
      · have HR := Lib.hid (HB.out.symm.trans (isS_asc (l := l) (a := da) (b := db) h0k Hx.out Hy.out hyx))
        have d4 : decide (x ≤ y) = true := by simpa using hyx
        clear hci hyx
        go_wp2_with fail
        refine HF.out.mono ?_
        rintro e w3 ⟨s, rfl, hb3⟩
        obtain ⟨V1, V2, hV1, hV2, HzV2, hkV1, hkV2, hbV2, hltV2⟩ := fresh w3 [.int .i64 0, .int .i64 0, .int .i64 0, .int .i64 0, .int .i64 0, .int .i64 0, .int .i64 0] [.int .i64 (s).id, .int .i64 (s).obv, .int .i64 (s).rev, .int .i64 (s).os, .int .i64 (s).rs, .int .i64 (s).ax, .int .i64 (s).wt] 38 rfl
        have hsV2 : ((((((V1.setCell ⟨w3.heap.size, 0, none⟩ (.int .i64 (s).id)).setCell ⟨w3.heap.size, 1, none⟩ (.int .i64 (s).obv)).setCell ⟨w3.heap.size, 2, none⟩ (.int .i64 (s).rev)).setCell ⟨w3.heap.size, 3, none⟩ (.int .i64 (s).os)).setCell ⟨w3.heap.size, 4, none⟩ (.int .i64 (s).rs)).setCell ⟨w3.heap.size, 5, none⟩ (.int .i64 (s).ax)).setCell ⟨w3.heap.size, 6, none⟩ (.int .i64 (s).wt) = V2 := hV2
        clear hV2
        obtain ⟨⟨z0, z1, z2, z3, z4, z5, z6⟩, f0, f1, f2, f3, f4, f5, f6⟩ := cellsS hkV1
        clear hkV1
        obtain ⟨⟨s0, s1, s2, s3, s4, s5, s6⟩, _⟩ := cellsS hkV2
        have hb4 := below_trans hb3 hbV2
        have y1 := HC.out _ (below_trans hwr hb4)
        go_wp2_with fail
        go_ret
        exact ⟨ret_bool HR.out.symm, below_trans hwr hb4⟩
      · have d4 : decide (x ≤ y) = false := by simpa using hyx
        have Hyx := Lib.hid hyx
        clear hci hyx
        go_wp2_with fail
        refine HF.out.mono ?_
        rintro e w3 ⟨s, rfl, hb3⟩
        obtain ⟨V1, V2, hV1, hV2, HzV2, hkV1, hkV2, hbV2, hltV2⟩ := fresh w3 [.int .i64 0, .int .i64 0, .int .i64 0, .int .i64 0, .int .i64 0, .int .i64 0, .int .i64 0] [.int .i64 (s).id, .int .i64 (s).obv, .int .i64 (s).rev, .int .i64 (s).os, .int .i64 (s).rs, .int .i64 (s).ax, .int .i64 (s).wt] 38 rfl
        have hsV2 : ((((((V1.setCell ⟨w3.heap.size, 0, none⟩ (.int .i64 (s).id)).setCell ⟨w3.heap.size, 1, none⟩ (.int .i64 (s).obv)).setCell ⟨w3.heap.size, 2, none⟩ (.int .i64 (s).rev)).setCell ⟨w3.heap.size, 3, none⟩ (.int .i64 (s).os)).setCell ⟨w3.heap.size, 4, none⟩ (.int .i64 (s).rs)).setCell ⟨w3.heap.size, 5, none⟩ (.int .i64 (s).ax)).setCell ⟨w3.heap.size, 6, none⟩ (.int .i64 (s).wt) = V2 := hV2
        clear hV2
        obtain ⟨⟨z0, z1, z2, z3, z4, z5, z6⟩, f0, f1, f2, f3, f4, f5, f6⟩ := cellsS hkV1
        clear hkV1
        obtain ⟨⟨s0, s1, s2, s3, s4, s5, s6⟩, _⟩ := cellsS hkV2
        have hb4 := below_trans hb3 hbV2
        have y1 := HC.out _ (below_trans hwr hb4)
        go_wp2_with fail
        refine ⟨?rel, ?measure⟩
        case rel => exact ⟨k + 1, by omega, by go_num, Lib.hid (HU.out.step Hx.out Hm.out fun _ => ⟨y, Hy.out, by have := Hyx.out; omega⟩), below_trans hbr hb4⟩
        case measure => simp [intOf]; omega
    · have HR := Lib.hid (HB.out.symm.trans (isS_all HE.out HU.out hlt))
      have HJ := Lib.hid (joinsE_ok _ _ l da db set _ (Hh.out.below hwr) (Hi.out.below hwr) hda hdb hl)
      generalize jnL (onlyL l set true) da db = J at HJ HR
      clear hci
      go_wp2_with fail
      refine HJ.out.mono ?_
      rintro e w3 ⟨rfl, hb3⟩
      go_wp2_with fail
      go_ret
      exact ⟨ret_bool HR.out.symm, below_trans hwr hb3⟩
end Go.Proofs.YtlmjncncmgmehaaGreat
/- Package explanation: Minimal. Condition: the arguments read as such. -/
namespace Go.Proofs.YtlmjncncmgmehaaGreat
open Go.RowKit Go.Maps Go.Shelf

set_option maxHeartbeats 4000000 in
set_option maxRecDepth 100000 in
theorem cloneI_ok (v : Value) (xs : List Int) (w : World) (h : SlOf encI 1 w v xs) (hn : xs.length ≤ 1048576) :
    Calls Tryz.prog 39 #[v] w fun e w' => ∃ u, e = .returned u ∧ OwnI w.heap.size w' u xs ∧ Below w.heap.size w w' := by
  obtain ⟨A, c, rfl, h1, h2, h3⟩ := h
  have hS := h3
  have hnil := fun (A : Option Addr) (w : World) => Lib.run_eql_slice_nil (P := Tryz.prog) w 26 3 A xs.length c 0 0 Tryz.underlying26
  cases A with
  | none =>
    have h0 : xs = [] := by
      rcases Nat.eq_zero_or_pos xs.length with h0 | h0
      · exact List.eq_nil_of_length_eq_zero h0
      · obtain ⟨b, o, e, _⟩ := h3.2 h0
        cases e
    subst h0
    have hE : ∀ w, (binOp .eql 26 (.slice none 0 c) (.slice none 0 0)).run Tryz.prog w = .ok (.bool true) w := fun w => hnil none w
    clear hnil hS h3 h1 hn
    go_enter Tryz.func39, Tryz.ntmps39
    go_wp2
    go_ret
    exact ⟨_, rfl, own_nil _ _ _ _ _, Below.refl _ _⟩
  | some a =>
    have hE : ∀ w, (binOp .eql 26 (.slice (some a) xs.length c) (.slice none 0 0)).run Tryz.prog w = .ok (.bool false) w := fun w => hnil (some a) w
    clear hnil
    obtain ⟨i0, hi0, hz0, hk0, hb0⟩ := info_parts infoI
    have hS1 := Lib.hid (fun (o : Obj) => Sl.below hS ((Below.refl w.heap.size w).alloc (Nat.le_refl _) o))
    clear hS h3
    go_enter Tryz.func39, Tryz.ntmps39
    go_wp2_with (at_builtin; refine wpList_append_sl rfl (.tmp 5) (.tmp 6) _ rfl i0 _ 8 Tryz.underlying26 hi0 hz0 hk0 hb0 rfl (by decide) oneI rfl (own_empty (B := w.heap.size) (heap_alloc_new _ _) (Nat.le_refl _)) _ _ _ xs rfl rfl (hS1.out _) (by simp; omega) (by simp; omega) (by simp) ?_; intro v1 w1 ho1 hg1 _)
    go_ret
    exact ⟨_, rfl, by simpa using ho1, ((Below.refl w.heap.size w).alloc (Nat.le_refl _) _).grown hg1 (by simp) (fun k e => by have e' : some w.heap.size = some k := e; cases e'; exact Nat.le_refl _)⟩
theorem deleteI_ok (B : Nat) (v : Value) (xs : List Int) (i : Nat) (w : World) (h : OwnI B w v xs) (hi : i < xs.length) :
    Calls Tryz.prog 38 #[v, .int .i64 i, .int .i64 ((i : Int) + 1)] w fun e w' => ∃ u, e = .returned u ∧ OwnI B w' u (xs.eraseIdx i) ∧ w.grownBy w' v.ownBlock := by
  rcases h.cases with ⟨rfl, h0⟩ | ⟨g, cap, rfl, hg, hgw, hcap, hm⟩
  · rw [h0] at hi; simp at hi
  · have hc := AnyG.slices_Delete_int Tryz.layDel g 0 cap i (i + 1) xs w (own_holdsI h rfl) hcap hm (by omega) (by omega)
    rw [show ((i + 1 : Nat) : Int) = (i : Int) + 1 from by simp, show i + 1 - i = 1 from by omega] at hc
    refine (show Calls Tryz.prog 38 _ w _ from hc).mono ?_
    rintro e w' ⟨rfl, q, rfl⟩
    have hl : (xs.eraseIdx i).length = xs.length - 1 := List.length_eraseIdx_of_lt hi
    have := own_compactI (q := q) h rfl (ys := xs.eraseIdx i) (zs := [0]) (by rw [hl]; simp; omega)
    rw [hl, List.eraseIdx_eq_take_drop_succ] at this
    rw [List.eraseIdx_eq_take_drop_succ]
    exact ⟨_, rfl, this.1, this.2⟩
section
variable {l : List Spec} {a b : Die} {set : List Int} {k : Nat}
def minUp (l : List Spec) (a b : Die) (set : List Int) (k : Nat) : Prop := ∀ i, i < k → jnL (onlyL l (set.eraseIdx i) true) a b = false
theorem minS_off (h : isS l a b set = false) : minS l a b set = false := by rw [minS, h]; rfl
theorem minS_hit (hk : k < set.length) (h : jnL (onlyL l (set.eraseIdx k) true) a b = true) : minS l a b set = false := by
  have : ((List.range set.length).all fun i => !jnL (onlyL l (set.eraseIdx i) true) a b) = false := by
    rw [List.all_eq_false]; exact ⟨k, List.mem_range.2 hk, by simp [h]⟩
  rw [minS, this, Bool.and_false]
theorem minS_all (h : isS l a b set = true) (hu : minUp l a b set k) (hk : ¬ k < set.length) : minS l a b set = true := by
  have : ((List.range set.length).all fun i => !jnL (onlyL l (set.eraseIdx i) true) a b) = true := by
    rw [List.all_eq_true]; intro i hi; simpa using hu i (by have := List.mem_range.1 hi; omega)
  rw [minS, this, h]; rfl
end
set_option maxHeartbeats 8000000 in
set_option maxRecDepth 100000 in
theorem MinE_ok (v iv : Value) (l : List Spec) (da db : Die) (set : List Int) (w : World) (h : Specs w v l) (hi : Ints w iv set) (hda : wfD da) (hdb : wfD db) (hl : l.length ≤ 1048576) (hls : set.length ≤ 1048576) :
    Calls Tryz.prog 14 #[v, vlD da, vlD db, iv] w fun e w' => e = .returned (.bool (minS l da db set)) ∧ Below w.heap.size w w' := by
  obtain ⟨X0, hX0, HzX0, hbX0, hltX0, hcX0⟩ := boxed w #[.int .i64 da.side, .int .i64 da.num] 24
  obtain ⟨X1, hX1, HzX1, hbX1, hltX1, hcX1⟩ := boxed X0 #[.int .i64 db.side, .int .i64 db.num] 24
  have hX := below_trans hbX0 hbX1
  have h0 := h.below hX
  have hi0 := hi.below hX
  have a0 := cell_later hbX1 (hcX0 0 _ rfl); have a1 := cell_later hbX1 (hcX0 1 _ rfl)
  have b0 := hcX1 0 _ rfl; have b1 := hcX1 1 _ rfl
  clear hcX0 hcX1
  obtain ⟨A, c, rfl, _⟩ := id h
  obtain ⟨Ai, ci, rfl, _⟩ := id hi
  obtain ⟨B, hB⟩ : ∃ B, minS l da db set = B := ⟨_, rfl⟩
  rw [hB]
  have HB := Lib.hid hB
  have HI := Lib.hid (IsE_ok _ _ l da db set _ h0 hi0 hda hdb hl)
  have Hi := Lib.hid hi; have Hh := Lib.hid h
  clear h0 hi0 hB hi h
  cases hIs : isS l da db set
  case false =>
    rw [hIs] at HI
    have HR := Lib.hid (HB.out.symm.trans (minS_off hIs))
    clear hIs HB
    go_enter Tryz.func14, Tryz.ntmps14
    go_wp2_with fail
    refine HI.out.mono ?_
    rintro e w1 ⟨rfl, hb1⟩
    go_wp2_with fail
    go_ret
    exact ⟨ret_bool HR.out.symm, below_trans hX hb1⟩
  rw [hIs] at HI
  have HS := Lib.hid hIs
  clear hIs
  go_enter Tryz.func14, Tryz.ntmps14
  go_wp2_with fail
  refine HI.out.mono ?_
  rintro e w1 ⟨rfl, hb1⟩
  have a0 := cell_later hb1 a0; have a1 := cell_later hb1 a1; have b0 := cell_later hb1 b0; have b1 := cell_later hb1 b1
  have hw1 := below_trans hX hb1
  clear HI hX0 hX1
  go_wp2_with fail
  go_loopw [18] (fun i wr => ∃ k : Nat, k ≤ set.length ∧ i = .int .i64 k ∧ Hid (minUp l da db set k) ∧ Below w1.heap.size w1 wr) (fun i _ => set.length - (intOf i).toNat)
  case atStart => exact ⟨0, Nat.zero_le _, rfl, Lib.hid (fun i hi => absurd hi (by omega)), Below.refl _ _⟩
  case round =>
    obtain ⟨k, hk, rfl, HU, hbr⟩ := hrel
    have hwr := below_trans hw1 hbr
    have hsz := hwr.size
    have a0 := cell_later hbr a0; have a1 := cell_later hbr a1; have b0 := cell_later hbr b0; have b1 := cell_later hbr b1
    by_cases hlt : k < set.length
    · have hlt1 : (k : Int) < (set.length : Int) := by omega
      go_upto_region 6 with fail
      have hba : Below wr.heap.size wr wr.drew := (Below.refl _ _).drew
      obtain ⟨wa, hwa⟩ : ∃ W, wr.drew = W := ⟨_, rfl⟩
      rw [hwa] at hba
      have hwA := below_trans hwr hba
      have hHeld : (fun w' : World => w'.cell? ⟨w.heap.size, 0, none⟩ = some (.int .i64 da.side) ∧ w'.cell? ⟨w.heap.size, 1, none⟩ = some (.int .i64 da.num) ∧ w'.cell? ⟨X0.heap.size, 0, none⟩ = some (.int .i64 db.side) ∧ w'.cell? ⟨X0.heap.size, 1, none⟩ = some (.int .i64 db.num)) wa := ⟨cell_later hba a0, cell_later hba a1, cell_later hba b0, cell_later hba b1⟩
      have HH := Lib.hid hHeld
      refine wp_region_S 9 (fun w' : World => w'.cell? ⟨w.heap.size, 0, none⟩ = some (.int .i64 da.side) ∧ w'.cell? ⟨w.heap.size, 1, none⟩ = some (.int .i64 da.num) ∧ w'.cell? ⟨X0.heap.size, 0, none⟩ = some (.int .i64 db.side) ∧ w'.cell? ⟨X0.heap.size, 1, none⟩ = some (.int .i64 db.num)) (by kernel_rfl) (by decide) ?_
      rw [hwa]
      have hwr1 : IntKind.i64.wrap ((k : Int) + 1) = (k : Int) + 1 := IntWalk.i64_in _ (by omega)
      clear hwa a0 a1 b0 b1
      refine wpAnyS_takeD 0 (some 21) (.slice A l.length c) (by rfl) (by rfl) (by kernel_rfl) (by exact fun _ _ _ h => h) (by rfl) (fun w' hS => by go_simp) hHeld ?_
      simp only [Act.put, List.setIfInBounds_toArray, List.set_cons_succ, List.set_cons_zero]
      refine wpAnyS_takeD 1 (some 22) (vlD da) (by rfl) (by rfl) (by kernel_rfl) (by exact fun _ _ _ h => h) (by rfl) (fun w' hS => by (obtain ⟨x0, x1, x2, x3⟩ := hS; go_simp)) hHeld ?_
      simp only [Act.put, List.setIfInBounds_toArray, List.set_cons_succ, List.set_cons_zero]
      refine wpAnyS_takeD 2 (some 23) (vlD db) (by rfl) (by rfl) (by kernel_rfl) (by exact fun _ _ _ h => h) (by rfl) (fun w' hS => by (obtain ⟨x0, x1, x2, x3⟩ := hS; go_simp)) hHeld ?_
      simp only [Act.put, List.setIfInBounds_toArray, List.set_cons_succ, List.set_cons_zero]
      refine wpAnyS_takeD 3 (some 24) (.slice Ai set.length ci) (by rfl) (by rfl) (by kernel_rfl) (by exact fun _ _ _ h => h) (by rfl) (fun w' hS => by go_simp) hHeld ?_
      simp only [Act.put, List.setIfInBounds_toArray, List.set_cons_succ, List.set_cons_zero]
      refine wpAnyS_takeD 5 (some 26) (.int .i64 (k : Int)) (by rfl) (by rfl) (by kernel_rfl) (by exact fun _ _ _ h => h) (by rfl) (fun w' hS => by go_simp) hHeld ?_
      simp only [Act.put, List.setIfInBounds_toArray, List.set_cons_succ, List.set_cons_zero]
      refine wpAnyS_takeD 6 (some 27) (.int .i64 (k : Int)) (by rfl) (by rfl) (by kernel_rfl) (by exact fun _ _ _ h => h) (by rfl) (fun w' hS => by go_simp) hHeld ?_
      simp only [Act.put, List.setIfInBounds_toArray, List.set_cons_succ, List.set_cons_zero]
      refine wpAnyS_takeD 7 (some 28) (.int .i64 ((k : Int) + 1)) (by rfl) (by rfl) (by kernel_rfl) (by exact fun _ _ _ h => h) (by rfl) (fun w' hS => by go_simp) hHeld ?_
      simp only [Act.put, List.setIfInBounds_toArray, List.set_cons_succ, List.set_cons_zero]
      clear hHeld hwr1
      refine wpAnyS_one 4 (by kernel_rfl) (by rfl) (by decide) (fun K hK => ?_)
      have HK := Lib.hid hK; clear hK
      rw [if_pos (by rfl)]
      go_simp
      refine (cloneI_ok _ set _ (Hi.out.below hwA) hls).mono ?_
      rintro e w3 ⟨u3, rfl, ho3, hb3⟩
      have hx0 := hb3.size
      have hHeld : (fun w' : World => w'.cell? ⟨w.heap.size, 0, none⟩ = some (.int .i64 da.side) ∧ w'.cell? ⟨w.heap.size, 1, none⟩ = some (.int .i64 da.num) ∧ w'.cell? ⟨X0.heap.size, 0, none⟩ = some (.int .i64 db.side) ∧ w'.cell? ⟨X0.heap.size, 1, none⟩ = some (.int .i64 db.num)) w3 := ⟨cell_later hb3 HH.out.1, cell_later hb3 HH.out.2.1, cell_later hb3 HH.out.2.2.1, cell_later hb3 HH.out.2.2.2⟩
      refine HK.out _ _ hHeld ?_
      clear HK hHeld
      refine wpAnyS_one 8 (by kernel_rfl) (by rfl) (by decide) (fun K hK => ?_)
      have HK := Lib.hid hK; clear hK
      rw [if_pos (by rfl)]
      go_simp
      refine (deleteI_ok _ _ set k _ ho3 hlt).mono ?_
      rintro e w4 ⟨u4, rfl, ho4, hg4⟩
      have hb4 : Below wa.heap.size wa w4 := hb3.grown hg4 hx0 (fun g e => (ho3.lt g e).1)
      have hHeld : (fun w' : World => w'.cell? ⟨w.heap.size, 0, none⟩ = some (.int .i64 da.side) ∧ w'.cell? ⟨w.heap.size, 1, none⟩ = some (.int .i64 da.num) ∧ w'.cell? ⟨X0.heap.size, 0, none⟩ = some (.int .i64 db.side) ∧ w'.cell? ⟨X0.heap.size, 1, none⟩ = some (.int .i64 db.num)) w4 := ⟨cell_later hb4 HH.out.1, cell_later hb4 HH.out.2.1, cell_later hb4 HH.out.2.2.1, cell_later hb4 HH.out.2.2.2⟩
      refine HK.out _ _ hHeld ?_
      clear HK hHeld
      have hw4 := below_trans hwA hb4
      have HJ := Lib.hid (joinsE_ok _ _ l da db (set.eraseIdx k) _ (Hh.out.below hw4) ho4.slOf hda hdb hl)
      have HN : Hid (minUp l da db set k → jnL (onlyL l (set.eraseIdx k) true) da db = false → minUp l da db set (k + 1)) := Lib.hid fun hu hj i hi => by
        rcases Nat.lt_or_ge i k with h1 | h1
        · exact hu i h1
        · have : i = k := by omega
          subst this; exact hj
      have HT : Hid (jnL (onlyL l (set.eraseIdx k) true) da db = true → B = false) := Lib.hid fun hj => HB.out.symm.trans (minS_hit hlt hj)
      generalize jnL (onlyL l (set.eraseIdx k) true) da db = J at HJ HN HT
      refine (show tailOf _ _ _ _ _ _ _ _ from ⟨by kernel_rfl, ?_⟩)
      simp only [List.drop_succ_cons, List.drop_zero]
      obtain ⟨Au, cu, rfl, _⟩ := ho4.slOf
      clear ho3 ho4 hg4
      cases J
      · go_wp2_with fail
        refine HJ.out.mono ?_
        rintro e w5 ⟨rfl, hb5⟩
        go_wp2_with fail
        refine ⟨?rel, ?measure⟩
        case rel => exact ⟨k + 1, by omega, by go_num, Lib.hid (HN.out HU.out (by trivial)), below_trans hbr (below_trans hba (below_trans hb4 hb5))⟩
        case measure => simp [intOf]; omega
      · go_wp2_with fail
        refine HJ.out.mono ?_
        rintro e w5 ⟨rfl, hb5⟩
        go_wp2_with fail
        go_ret
        exact ⟨ret_bool (HT.out (by trivial)).symm, below_trans hw4 hb5⟩
    · have HR := Lib.hid (HB.out.symm.trans (minS_all HS.out HU.out hlt))
      go_wp2_with fail
      go_ret
      exact ⟨ret_bool HR.out.symm, hwr⟩
end Go.Proofs.YtlmjncncmgmehaaGreat
