/- cover.Free. Condition: the arguments read as a graph and pairs of wellformed numbers. -/
import Derived.Test.YtnaoiochfdipiaaCovG
import Derived.Test.YtnaoiochfdipiaaDelL
namespace Go.Proofs.Ytnaoiochfdipiaa
open Go.RowKit Go.Shelf Go.Maps

/-- Whether a die is in a pair. -/
def inPair (l : List Pair) (d : Die) : Bool := if d.side = 1 then decide (d.num ∈ l.map Pair.b) else decide (d.num ∈ l.map Pair.a)
theorem putAll_keys {f h : Pair → Int} {x : Int} : ∀ (l : List Pair) (m : List (Int × Int)), (lookM (l.foldl (fun m p => putM m (f p) (h p)) m) x).isSome = true ↔ x ∈ m.map Prod.fst ∨ x ∈ l.map f
  | [], m => by simp [isSome_mem]
  | p :: l, m => by
    rw [List.foldl_cons, putAll_keys l (putM m (f p) (h p)), List.map_cons, List.mem_cons, ← isSome_mem, ← isSome_mem, lookM_putM]
    by_cases e : f p = x
    · rw [if_pos e]; simp [e]
    · rw [if_neg e]
      constructor
      · rintro (h | h)
        · exact .inl h
        · exact .inr (.inr h)
      · rintro (h | h | h)
        · exact .inl h
        · exact absurd h.symm e
        · exact .inr h
theorem ofS_fold (l : List Pair) (s : St) : l.foldl (fun s p => s.set p.a p.b) s = ⟨l.foldl (fun m p => putM m p.a p.b) s.obv, l.foldl (fun m p => putM m p.b p.a) s.rev, s.seen⟩ := by
  induction l generalizing s with
  | nil => rfl
  | cons p l ih => rw [List.foldl_cons, ih]; rfl
theorem inPair_one {l : List Pair} {d : Die} (h : d.side = 1) : inPair l d = (lookM (ofS l).rev d.num).isSome := by
  rw [inPair, if_pos h, Bool.eq_iff_iff, decide_eq_true_eq, ofS, ofS_fold, putAll_keys]
  simp
theorem inPair_zero {l : List Pair} {d : Die} (h : d.side ≠ 1) : inPair l d = (lookM (ofS l).obv d.num).isSome := by
  rw [inPair, if_neg h, Bool.eq_iff_iff, decide_eq_true_eq, ofS, ofS_fold, putAll_keys]
  simp
/-- The free dies. -/
noncomputable def freeG (g : Graph) (l : List Pair) : List Die := if isMatB g l = true then (diesG g).filter fun d => !inPair l d else []
noncomputable def freeE (g : Graph) (l : List Pair) : Int := if isMatB g l = true then 0 else 1

set_option maxHeartbeats 2000000 in
set_option maxRecDepth 100000 in
theorem taken_ok (l : List Pair) (d : Die) (m bo br : Nat) (w : World) (hS : StAt w bo br (ofS l)) (hm : w.heap[m]? = some (.cells #[.map (some bo), .map (some br)] 62 (0, 0))) (hwf : wfI d.num) :
    Calls Try.prog 49 #[valD d, .pointer (some ⟨m, 0, none⟩)] w fun e w' => e = .returned (.bool (inPair l d)) ∧ Below w.heap.size w w' := by
  obtain ⟨W, hW, Hz, hwW, hlt0, hc0⟩ := boxed w #[.int .i64 d.side, .int .i64 d.num] 46
  have a0 := hc0 0 _ rfl; have a1 := hc0 1 _ rfl
  have m0' := cell_later hwW ((heap_cell (i := 0) hm).trans rfl); have m1' := cell_later hwW ((heap_cell (i := 1) hm).trans rfl)
  have m0 : W.cell? ⟨m, 0, none⟩ = some (.map (some bo)) := m0'
  have m1 : W.cell? ⟨m, 1, none⟩ = some (.map (some br)) := m1'
  have hS1 := hS.below hwW
  clear hc0 m0' m1' hm
  by_cases hs : d.side = 1
  · have d1 : (d.side == 1) = true := by simpa using hs
    have k1 := hS1.r.look_ok hwf
    rw [← inPair_one hs] at k1
    generalize inPair l d = B at k1 ⊢
    clear hs
    go_enter Try.func49, Try.ntmps49
    go_wp2_with fail
    go_ret
    exact ⟨rfl, hwW⟩
  · have d1 : (d.side == 1) = false := by simpa using hs
    have k1 := hS1.o.look_ok hwf
    rw [← inPair_zero hs] at k1
    generalize inPair l d = B at k1 ⊢
    clear hs
    go_enter Try.func49, Try.ntmps49
    go_wp2_with fail
    go_ret
    exact ⟨rfl, hwW⟩
def zeroD : Value := .agg #[.int .i64 0, .int .i64 0]
theorem zeroD_run (w : World) : (zeroValue 46).run Try.prog w = .ok zeroD w := by unfold zeroD; kernel_rfl
set_option maxHeartbeats 4000000 in
set_option maxRecDepth 100000 in
theorem indexDF_ok (p : Die → Bool) (q : Value) (B : Nat) (v : Value) (xs : List Die) (w : World) (h : OwnD B w v xs) (hn : xs.length ≤ 1048576)
    (hp : ∀ x ∈ xs, ∀ W, Below B w W → Calls Try.prog 49 #[valD x, q] W fun e w' => e = .returned (.bool (p x)) ∧ Below W.heap.size W w') :
    Calls Try.prog 65 #[v, .func (.func 49) #[] #[q]] w fun e w' => e = .returned (.int .i64 (firstI p xs)) ∧ Below w.heap.size w w' := by
  have Hp := Lib.hid hp; clear hp
  have hv : ∃ A c, v = .slice A xs.length c := by
    rcases h.cases with ⟨rfl, rfl⟩ | ⟨g, cap, rfl, _⟩
    · exact ⟨_, _, rfl⟩
    · exact ⟨_, _, rfl⟩
  obtain ⟨A, c, rfl⟩ := hv
  go_enter Try.func65, Try.ntmps65
  go_wp2
  go_loopw [8] (fun i wr => ∃ k : Nat, k ≤ xs.length ∧ i = .int .i64 k ∧ Hid ((xs.take k).all (fun x => !p x) = true) ∧ Below w.heap.size w wr) (fun i _ => xs.length - (intOf i).toNat)
  case atStart => exact ⟨0, Nat.zero_le _, rfl, by show _ = _; simp, Below.refl _ _⟩
  case round =>
    obtain ⟨k, hk, rfl, Hr, hb⟩ := hrel
    by_cases hlt : k < xs.length
    · obtain ⟨x, hx⟩ := get_of_lt hlt
      rcases h.cases with ⟨_, h0⟩ | ⟨g, cap, e, hg, _, _⟩
      · rw [h0] at hlt; simp at hlt
      cases e
      have hw := h.below hb
      have c_0 := (hw.cellsAt lenD rfl hx (j := 0) rfl); have c_1 := (hw.cellsAt lenD rfl hx (j := 1) rfl)
      obtain ⟨c_0, fc_0⟩ := c_0; obtain ⟨c_1, fc_1⟩ := c_1
      simp only [Nat.add_zero] at c_0 fc_0
      have Hx := Lib.hid hx; clear hx hw h
      have hP := Hp.out x (List.mem_of_getElem? Hx.out) wr (hb.mono (by omega))
      have hl1 : (k : Int) < (xs.length : Int) := by omega
      have hl0 : (0 : Int) ≤ (k : Int) := by omega
      cases hpx : p x
      · rw [hpx] at hP
        have HP := Lib.hid hP; clear hP
        go_wp2_with fail
        refine HP.out.mono ?_
        rintro e w1 ⟨rfl, hb1⟩
        go_wp2_with fail
        refine ⟨?rel, ?measure⟩
        case rel => exact ⟨k + 1, by omega, by go_num, all_snoc Hx.out Hr.out (by simp [hpx]), below_trans hb hb1⟩
        case measure => simp [intOf]; omega
      · rw [hpx] at hP
        have HP := Lib.hid hP; clear hP
        go_wp2_with fail
        refine HP.out.mono ?_
        rintro e w1 ⟨rfl, hb1⟩
        go_wp2_with fail
        go_ret
        exact ⟨ret_i64 (firstI_hit Hx.out Hr.out hpx).symm, below_trans hb hb1⟩
    · have Hm : Hid (firstI p xs = -1) := firstI_miss (all_end hlt Hr.out)
      go_wp2_with fail
      go_ret
      exact ⟨ret_i64 Hm.out.symm, hb⟩
set_option maxHeartbeats 8000000 in
set_option maxRecDepth 100000 in
theorem deleteDF_ok (p : Die → Bool) (q : Value) (B : Nat) (v : Value) (xs : List Die) (w : World) (h : OwnD B w v xs) (hn : xs.length ≤ 1048576) (hB : B ≤ w.heap.size)
    (hp : ∀ x ∈ xs, ∀ W, Below B w W → Calls Try.prog 49 #[valD x, q] W fun e w' => e = .returned (.bool (p x)) ∧ Below W.heap.size W w') :
    Calls Try.prog 48 #[v, .func (.func 49) #[] #[q]] w fun e w' => ∃ u, e = .returned u ∧ OwnD B w' u (xs.filter fun x => !p x) ∧ Below B w w' := by
  have HI := Lib.hid (indexDF_ok p q B v xs w h hn hp)
  have Hp := Lib.hid hp; clear hp
  by_cases hall : xs.all (fun x => !p x) = true
  · have hF : xs.filter (fun x => !p x) = xs := List.filter_eq_self.2 (List.all_eq_true.1 hall)
    have hm : firstI p xs = -1 := firstI_miss hall
    rw [hm] at HI
    have HF := Lib.hid hF; clear hF hm hall
    go_enter Try.func48, Try.ntmps48
    go_wp2_with fail
    refine HI.out.mono ?_
    rintro e w1 ⟨rfl, hb1⟩
    go_wp2_with fail
    go_ret
    exact ⟨_, rfl, by rw [HF.out]; exact h.below hb1, hb1.mono hB⟩
  obtain ⟨i0, x0, hx0, hall0, hp0⟩ := first_hit hall
  have hm : firstI p xs = i0 := firstI_hit hx0 hall0 hp0
  have hi0 := lt_of_get hx0
  rw [hm] at HI
  have hd : (((i0 : Nat) : Int) == -1) = false := by simp <;> omega
  rcases h.cases with ⟨rfl, h0⟩ | ⟨g, cap, rfl, hg, hgw, hcap, hmx⟩
  · rw [h0] at hi0; simp at hi0
  have hmx' : (cap : Int) ≤ 9223372036854775807 := by simp only [maxLen] at hmx; omega
  have Hst : Hid ((xs.take (i0 + 1)).filter (fun x => !p x) = xs.take i0) := by
    show _ = _
    rw [take_snoc' hx0, List.filter_append, List.filter_eq_self.2 (List.all_eq_true.1 hall0)]
    simp [hp0]
  clear hm hall0 hp0 hx0 hall
  go_enter Try.func48, Try.ntmps48
  go_wp2_with fail
  refine HI.out.mono ?_
  rintro e w1 ⟨rfl, hb1⟩
  have h1 := h.below hb1
  have hbB := hb1.mono hB
  clear h
  go_wp2_with fail
  go_loopw [5, 6] (fun t5 t6 wr => ∃ (i j : Nat) (dk : List Die), t5 = .int .i64 i ∧ t6 = .int .i64 j ∧ i < j ∧ j ≤ xs.length ∧ OwnD B wr (.slice (some ⟨g, 0, none⟩) xs.length cap) dk ∧ Hid (xs.length = dk.length) ∧ Hid (dk.take i = (xs.take j).filter (fun x => !p x)) ∧ Hid (∀ t, j ≤ t → dk[t]? = xs[t]?) ∧ Hid (((xs.take j).filter (fun x => !p x)).length = i) ∧ Below B w wr) (fun _ t6 _ => xs.length - (intOf t6).toNat)
  case atStart => exact ⟨i0, i0 + 1, xs, rfl, by go_num, by omega, by omega, h1, rfl, Hst.out.symm, fun _ _ => rfl, by show _ = _; rw [Hst.out, List.length_take]; omega, hbB⟩
  case round =>
    clear h1 hbB hb1
    obtain ⟨i, j, dk, rfl, rfl, hij, hj, hown, Hl, Htk, Htl, Hlen, hb⟩ := hrel
    by_cases hlt : j < xs.length
    · obtain ⟨x, hx⟩ := get_of_lt hlt
      have hxd : dk[j]? = some x := by rw [Htl.out j (Nat.le_refl _)]; exact hx
      obtain ⟨y, hy⟩ := get_of_lt (show i < dk.length by have := Hl.out; omega)
      have c_0 := (hown.cellsAt lenD Hl.out hxd (j := 0) rfl); have c_1 := (hown.cellsAt lenD Hl.out hxd (j := 1) rfl)
      obtain ⟨c_0, fc_0⟩ := c_0; obtain ⟨c_1, fc_1⟩ := c_1
      simp only [Nat.add_zero] at c_0 fc_0
      clear hxd
      obtain ⟨W1, hW1, Hz1, hb2, hlt1, hc1⟩ := boxed wr (encD x).toArray 46
      simp only [encD] at hW1 hc1
      have hgl : g < wr.heap.size := by obtain ⟨cur, _, hg, _⟩ := hown.row Hl.out; exact heap_lt hg
      have hB1 := Below.size hb
      have hP := Hp.out x (List.mem_of_getElem? hx) W1 (hb.trans (hb2.mono (by omega)))
      have own1 := hown.below hb2
      have hl1 : (j : Int) < (xs.length : Int) := by omega
      have hl0 : (0 : Int) ≤ (j : Int) := by omega
      have hl2 : (i : Int) < (xs.length : Int) := by omega
      have hl3 : (0 : Int) ≤ (i : Int) := by omega
      have hbW := hb.trans (hb2.mono (by omega))
      have hBg : B ≤ wr.heap.size := by omega
      have hsn : (xs.take (j + 1)).filter (fun x => !p x) = (xs.take j).filter (fun x => !p x) ++ (if p x = true then [] else [x]) := by
        rw [take_snoc' hx, List.filter_append]
        cases hpx : p x <;> simp [hpx]
      have Hx := Lib.hid hx; have Hy := Lib.hid hy; clear hx hy hown
      have m1 := fun i v h => Later.cell_all (hc1 i v h)
      cases hpx : p x
      · rw [hpx] at hP
        rw [hpx, if_neg (by simp)] at hsn
        have HP := Lib.hid hP; have Hsn := Lib.hid hsn; clear hP hsn m1
        go_wp2_with fail
        refine HP.out.mono ?_
        rintro e w2 ⟨rfl, hb3⟩
        have own2 := own1.below hb3
        have d_0 := (own2.cellsAt lenD Hl.out Hy.out (j := 0) rfl); have d_1 := (own2.cellsAt lenD Hl.out Hy.out (j := 1) rfl)
        obtain ⟨d_0, fd_0⟩ := d_0; obtain ⟨d_1, fd_1⟩ := d_1
        simp only [Nat.add_zero] at d_0 fd_0
        have hput := own2.put lenD (by omega) Hl.out (i := i) (by omega) x
        have Hput := Lib.hid hput; clear hput own1 own2 hW1
        have b0 := cell_later hb3 (hc1 0 _ rfl); have b1 := cell_later hb3 (hc1 1 _ rfl)
        clear hc1
        go_wp2_with fail
        refine ⟨?rel, ?measure⟩
        case rel =>
          refine ⟨i + 1, j + 1, dk.set i x, by go_num, by go_num, by omega, by omega, Hput.out, by show _ = _; rw [List.length_set]; exact Hl.out, ?_, ?_, ?_, ?_⟩
          · show _ = _
            rw [Hsn.out, ← Htk.out]
            have hi := lt_of_get Hy.out
            apply List.ext_getElem?
            intro t
            rcases Nat.lt_trichotomy t i with e | e | e
            · rw [List.getElem?_take_of_lt (by omega), List.getElem?_set_ne (by omega), List.getElem?_append_left (by simp; omega), List.getElem?_take_of_lt e]
            · subst e
              rw [List.getElem?_take_of_lt (by omega), List.getElem?_set_self hi, List.getElem?_append_right (by simp; omega), show t - (dk.take t).length = 0 by simp; omega]
              rfl
            · rw [List.getElem?_take_eq_none (by omega), List.getElem?_eq_none (by simp; omega)]
          · intro t ht
            rw [List.getElem?_set_ne (by omega)]
            exact Htl.out t (by omega)
          · show _ = _
            rw [Hsn.out, List.length_append, Hlen.out]
            rfl
          · exact (hbW.trans (hb3.mono (by omega))).grown (setCells_grown g (encD x) w2 (i * 2)) (by have := hb3.size; omega) (fun k e => by cases e; exact hg)
        case measure => simp [intOf]; omega
      · rw [hpx] at hP
        rw [hpx, if_pos rfl, List.append_nil] at hsn
        have HP := Lib.hid hP; have Hsn := Lib.hid hsn; clear hP hsn m1
        go_wp2_with fail
        refine HP.out.mono ?_
        rintro e w2 ⟨rfl, hb3⟩
        have own2 := own1.below hb3
        clear hW1 own1
        go_wp2_with fail
        refine ⟨?rel, ?measure⟩
        case rel => exact ⟨i, j + 1, dk, rfl, by go_num, by omega, by omega, own2, Hl, by show _ = _; rw [Hsn.out]; exact Htk.out, fun t ht => Htl.out t (by omega), by show _ = _; rw [Hsn.out]; exact Hlen.out, hbW.trans (hb3.mono (by omega))⟩
        case measure => simp [intOf]; omega
    · have hje : xs.take j = xs := List.take_of_length_le (by omega)
      have Hfin : Hid (dk.take i = xs.filter (fun x => !p x)) := by show _ = _; rw [Htk.out, hje]
      clear hje
      obtain ⟨cur, hBg, hgc, q1, q2, q3, q4⟩ := hown.row Hl.out
      have hcl := fun ty => run_clear_rows (P := Try.prog) wr 26 46 ty (zeroD) Try.underlying26 zeroD_run (by simp [zeroD, Value.cells, Value.oneCell']) g (i * 2) (xs.length - i) (cap - i) (by omega)
        (fun t ht => by rw [heap_cell hgc]; simp [zeroD, Value.cells] at ht; rw [Array.getElem?_eq_getElem (by omega)]; rfl) (fun t ht => heap_free hgc)
      obtain ⟨Z, hZ⟩ : ∃ Z, (Builtin.zeroCells (zeroD).cells (xs.length - i)).toList = Z := ⟨_, rfl⟩
      have hZl : Z.length = (xs.length - i) * 2 := by rw [← hZ, zeros_len]; rfl
      simp only [hZ] at hcl
      clear hZ
      have HZl := Lib.hid hZl; clear hZl
      have Hown := Lib.hid hown; clear hown q3 q4 hgc
      have i2 : (i : Int) ≤ (xs.length : Int) := by omega
      have i3 : (0 : Int) ≤ (i : Int) := by omega
      have i4 : (i : Int) ≤ (cap : Int) := by omega
      have i5 : ¬ cap = i := by omega
      have hBw := Below.size hb
      go_wp2
      go_ret
      have hcut := Hown.out.cut lenD Hl.out (m := i) (by omega)
      rw [Hfin.out] at hcut
      have hlen : i = (xs.filter (fun x => !p x)).length := by rw [← Hfin.out, List.length_take]; have := Hl.out; omega
      exact ⟨_, rfl, hcut.putTail lenD hlen (Nat.le_refl _) Z (by rw [HZl.out]; omega), hb.grown (setCells_grown g _ wr (i * 2)) (by omega) (fun k e => by cases e; exact hg)⟩
theorem dies_wf {g : Graph} (hwf : WfG g) {d : Die} (hd : d ∈ diesG g) : wfI d.num := by
  unfold diesG at hd
  split at hd
  · rcases List.mem_append.1 hd with h | h
    · obtain ⟨x, hx, rfl⟩ := List.mem_map.1 h; exact hwf.o x hx
    · obtain ⟨x, hx, rfl⟩ := List.mem_map.1 h; exact hwf.r x hx
  · cases hd
theorem dies_len {g : Graph} (hg : graphB g = true) : (diesG g).length ≤ 64 := by
  have hok := (graphB_iff g).1 hg
  have h1 := hok.lo; have h2 := hok.lr
  simp only [diesG, if_pos hg, List.length_append, List.length_map]
  omega
set_option maxHeartbeats 8000000 in
set_option maxRecDepth 100000 in
theorem Free_ok (g : Graph) (hwf : WfG g) (v u : Value) (l : List Pair) (w : World) (h : GraphAt w v g) (hl : Pairs w u l) (hwl : ∀ p ∈ l, wfI p.a ∧ wfI p.b) :
    Calls Try.prog 25 #[v, u] w fun e w' => ∃ z, e = .returned (.tuple #[z, .int .i64 (freeE g l)]) ∧ OwnD w.heap.size w' z (freeG g l) ∧ Below w.heap.size w w' := by
  have h0 := h
  obtain ⟨v1, v2, v3, rfl, ho, hr, hk⟩ := h
  obtain ⟨A1, c1, rfl, _, _, _⟩ := ho.cells
  obtain ⟨A2, c2, rfl, _, _, _⟩ := hr.cells
  obtain ⟨A3, c3, rfl, _, _, _⟩ := hk.cells
  obtain ⟨A, c, rfl, _, _, _⟩ := hl.cells
  obtain ⟨W, hW, Hz, hwW, hlt0, hc0⟩ := boxed w #[.slice A1 g.obv.length c1, .slice A2 g.rev.length c2, .slice A3 g.links.length c3] 25
  have a0 := hc0 0 _ rfl; have a1 := hc0 1 _ rfl; have a2 := hc0 2 _ rfl
  clear hc0 ho hr hk
  have HM := Lib.hid (IsMatching_ok g _ _ l W (h0.below hwW) (hl.below hwW) hwl)
  have HE : Hid (freeE g l = if isMatB g l = true then 0 else 1) := Lib.hid rfl
  have HG : Hid (freeG g l = if isMatB g l = true then (diesG g).filter fun d => !inPair l d else []) := Lib.hid rfl
  have HB : Hid (isMatB g l = true → graphB g = true) := Lib.hid fun h => (isMatB_iff.1 h).1
  go_enter Try.func25, Try.ntmps25
  go_wp2_with fail
  clear hW
  refine HM.out.mono ?_
  rintro e w1 ⟨rfl, hb1⟩
  clear HM
  have b0 := cell_later hb1 a0; have b1 := cell_later hb1 a1; have b2 := cell_later hb1 a2
  have hw1 := below_trans hwW hb1
  clear a0 a1 a2
  cases hm : isMatB g l
  · rw [hm, if_neg (by simp)] at HE HG
    go_wp2_with fail
    go_ret2
    exact ⟨_, ret_mat HE.out.symm, by rw [HG.out]; exact own_nil _ _ _ _ _, hw1⟩
  rw [hm, if_pos rfl] at HE HG
  have hg := HB.out hm
  have hdl := dies_len hg
  have hvz : validE g = 0 := by simp [validE, hg]
  have Hvz := Lib.hid hvz
  clear hm hg hvz HB
  go_wp2_with fail
  refine (of_ok _ l w1 (hl.below hw1) hwl).mono ?_
  rintro e w2 ⟨bo, br, rfl, hS, _, _, hb2⟩
  have hw2 := below_trans hw1 hb2
  have c0 := cell_later hb2 b0; have c1' := cell_later hb2 b1; have c2' := cell_later hb2 b2
  clear b0 b1 b2
  obtain ⟨w3, hW3, Hz3, hb3, hlt3, hc3⟩ := boxed w2 #[.map (some bo), .map (some br)] 62
  have hM : w3.heap[w2.heap.size]? = some (.cells #[.map (some bo), .map (some br)] 62 (0, 0)) := by rw [← hW3]; exact heap_alloc_new _ _
  have hw3 := below_trans hw2 hb3
  have d0 := cell_later hb3 c0; have d1 := cell_later hb3 c1'; have d2 := cell_later hb3 c2'
  have hS3 := hS.below hb3
  clear hc3 c0 c1' c2'
  go_wp2_with fail
  clear hW3
  refine (Dies_own _ g w3 (h0.below hw3)).mono ?_
  rintro e w4 ⟨ud, rfl, hud, hb4⟩
  rw [Hvz.out]
  have hw4 := below_trans hw3 hb4
  have hS4 := hS3.below hb4
  have hM4 := heap_below hM hb4 (heap_lt hM)
  have HF := Lib.hid (fun (x : Die) (hx : x ∈ diesG g) (W' : World) (hb : Below w3.heap.size w4 W') => taken_ok l x w2.heap.size bo br W' (hS3.below (hb4.trans hb)) (heap_below hM (hb4.trans hb) (heap_lt hM)) (dies_wf hwf hx))
  have HD := Lib.hid hud
  clear hud hS4 hM4
  go_wp2_with fail
  refine (deleteDF_ok (fun d => inPair l d) (.pointer (some ⟨w2.heap.size, 0, none⟩)) w3.heap.size ud (diesG g) w4 HD.out (by omega) hb4.size HF.out).mono ?_
  rintro e w5 ⟨y, rfl, hy, hb5⟩
  go_wp2_with fail
  go_ret2
  exact ⟨_, ret_mat HE.out.symm, by rw [HG.out]; exact hy.base hw3.size, hw4.trans (hb5.mono hw3.size)⟩
end Go.Proofs.Ytnaoiochfdipiaa
