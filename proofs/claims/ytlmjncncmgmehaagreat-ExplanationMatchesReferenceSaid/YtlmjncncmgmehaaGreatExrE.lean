/- Reference 51: feasible. Condition: a valid graph, lists that read as such. -/
import Derived.Test.YtlmjncncmgmehaaGreatExrA
import Derived.Test.YtlmjncncmgmehaaGreatExpP
import Derived.Deep.DeepCutAuto
namespace Go.Proofs.YtlmjncncmgmehaaGreat
open Go.RowKit Go.Maps Go.Shelf

theorem infoBx : (Tryz.prog.info? 4).map (fun i => (i.zero, i.size, i.bytes)) = some (some (.bool false), 1, 1) := by kernel_rfl
theorem made_boolX (n : Nat) : madeCells #[.bool false] n = Array.replicate n (Value.bool false) := by
  apply Array.ext_getElem?
  intro i
  simp only [madeCells, Array.getElem?_map, Array.getElem?_replicate]
  by_cases h : i < n
  · simp [h, Nat.mod_one]
  · simp [h]
/-- A row of booleans in a block of its own. -/
def RowBl (w : World) (b : Nat) (r : List Bool) : Prop := w.heap[b]? = some (.cells (r.map Value.bool).toArray 4 (0, 0))
section
variable {w w' : World} {b : Nat} {r : List Bool}
theorem RowBl.cell (h : RowBl w b r) {k : Nat} {x : Bool} (hx : r[k]? = some x) : w.cell? ⟨b, k, none⟩ = some (.bool x) ∧ w.frozen? ⟨b, k, none⟩ = false := by
  refine ⟨?_, heap_free h⟩
  rw [heap_cell h]; simp [hx]
theorem RowBl.set (h : RowBl w b r) (k : Nat) (x : Bool) : RowBl (w.setCell ⟨b, k, none⟩ (.bool x)) b (r.set k x) := by
  have := heap_setCell_same w b k _ _ (.bool x) h
  unfold RowBl
  rw [this]; simp [List.map_set]
theorem RowBl.lt (h : RowBl w b r) : b < w.heap.size := heap_lt h
theorem RowBl.below (h : RowBl w b r) (hb : Below w.heap.size w w') : RowBl w' b r := heap_below h hb (heap_lt h)
theorem RowBl.off (h : RowBl w b r) {b' k : Nat} {x : Value} (hne : b ≠ b') : RowBl (w.setCell ⟨b', k, none⟩ x) b r :=
  ((setCells_grown b' [x] w k).block b (heap_lt h) fun e => hne (Option.some.inj e)).trans h
theorem below_setB {b' k : Nat} {x : Value} {w0 : World} (hb : Below w0.heap.size w0 w) (hB : w0.heap.size ≤ b') : Below w0.heap.size w0 (w.setCell ⟨b', k, none⟩ x) :=
  hb.grown (setCells_grown b' [x] w k) hb.size fun j e => by cases e; exact hB
end
section
variable {ds : List Die} {ls : List Link} {F : Die → Int} {R : List Int} {s m j k : Nat} {N : Die → Bool} {x : Link} {d : Die}
def initF (f : Die → Bool) (ds : List Die) (j : Nat) : List Bool := (ds.take j).map f ++ List.replicate (ds.length - j) false
theorem init_set {f : Die → Bool} (h : ds[j]? = some d) : (initF f ds j).set j (f d) = initF f ds (j + 1) := by
  have hj := lt_of_get h
  have hl : ((ds.take j).map f).length = j := by simp; omega
  rw [initF, initF, List.set_append_right _ _ (by omega), hl, Nat.sub_self, take_snoc' h, List.map_append, show ds.length - j = (ds.length - (j + 1)) + 1 by omega, List.replicate_succ, List.set_cons_zero]
  simp
theorem init_at {f : Die → Bool} (h : j < ds.length) : (initF f ds j)[j]? = some false := by
  have hl : ((ds.take j).map f).length = j := by simp; omega
  rw [initF, List.getElem?_append_right (by omega), hl, Nat.sub_self, List.getElem?_replicate, if_pos (by omega)]
theorem init_end {f : Die → Bool} : initF f ds ds.length = ds.map f := by simp [initF]
theorem init_zero {f : Die → Bool} : initF f ds 0 = List.replicate ds.length false := by simp [initF]
def updX (f : Die → Bool) (d : Die) (x : Bool) : Die → Bool := fun e => if e = d then x else f e
theorem map_set_updX (hn : ds.Nodup) {k : Nat} {d : Die} (hd : ds[k]? = some d) (f : Die → Bool) (x : Bool) : (ds.map f).set k x = ds.map (updX f d x) := by
  refine List.ext_getElem? fun i => ?_
  rw [List.getElem?_set, List.getElem?_map, List.getElem?_map]
  have hk := lt_of_get hd
  by_cases e : k = i
  · subst e
    rw [if_pos rfl, if_pos (by rw [List.length_map]; exact hk), hd]
    simp [updX]
  · rw [if_neg e]
    cases hi : ds[i]? with
    | none => rfl
    | some y =>
      have : y ≠ d := fun h => by
        subst h
        obtain ⟨h1, h2⟩ := List.getElem?_eq_some_iff.1 hd
        obtain ⟨h3, h4⟩ := List.getElem?_eq_some_iff.1 hi
        exact e ((List.getElem_inj (h₀ := h1) (h₁ := h3) hn).1 (h2.trans h4.symm))
      simp [updX, this]
def nxtF (ls : List Link) (F : Die → Int) (R : List Int) (s m : Nat) (N : Die → Bool) (j : Nat) (d : Die) : Bool := (ls.take j).any fun x => stepN F R s m N x d
theorem nxt_succ (h : ls[j]? = some x) (d : Die) : nxtF ls F R s m N (j + 1) d = (nxtF ls F R s m N j d || stepN F R s m N x d) := by
  rw [nxtF, take_snoc' h, List.any_append]
  simp [nxtF]
theorem map_nxt_no (h : ls[j]? = some x) (hn : ∀ d, stepN F R s m N x d = false) : ds.map (nxtF ls F R s m N (j + 1)) = ds.map (nxtF ls F R s m N j) :=
  List.map_congr_left fun d _ => by rw [nxt_succ h, hn, Bool.or_false]
theorem map_nxt_B (hnd : ds.Nodup) (h : ls[j]? = some x) (hk : ds[k]? = some (lB x)) (hm : m = 0 ∨ hasB R x.id = true) (h1 : F (lA x) = s) (h2 : F (lB x) = s + 1) :
    (ds.map (nxtF ls F R s m N j)).set k (nxtF ls F R s m N j (lB x) || N (lA x)) = ds.map (nxtF ls F R s m N (j + 1)) := by
  rw [map_set_updX hnd hk]
  refine List.map_congr_left fun d _ => ?_
  have hm' : (decide (m = 0) || hasB R x.id) = true := by rcases hm with h | h <;> simp [h]
  have hn : decide (F (lB x) = (s : Int)) = false := by simp; omega
  rw [nxt_succ h, stepN, hm', updX, hn, decide_eq_true h1, decide_eq_true h2]
  by_cases e : d = lB x
  · subst e; simp
  · rw [if_neg e, decide_eq_false fun e' : lB x = d => e e'.symm]
    simp
theorem map_nxt_A (hnd : ds.Nodup) (h : ls[j]? = some x) (hk : ds[k]? = some (lA x)) (hm : m = 0 ∨ hasB R x.id = true) (h1 : F (lB x) = s) (h2 : F (lA x) = s + 1) :
    (ds.map (nxtF ls F R s m N j)).set k (nxtF ls F R s m N j (lA x) || N (lB x)) = ds.map (nxtF ls F R s m N (j + 1)) := by
  rw [map_set_updX hnd hk]
  refine List.map_congr_left fun d _ => ?_
  have hm' : (decide (m = 0) || hasB R x.id) = true := by rcases hm with h | h <;> simp [h]
  have hn : decide (F (lA x) = (s : Int)) = false := by simp; omega
  rw [nxt_succ h, stepN, hm', updX, hn, decide_eq_true h1, decide_eq_true h2]
  by_cases e : d = lA x
  · subst e; simp
  · rw [if_neg e, decide_eq_false fun e' : lA x = d => e e'.symm]
    simp
theorem step_not (h : ¬ (m = 0 ∨ hasB R x.id = true)) (d : Die) : stepN F R s m N x d = false := by
  have : (decide (m = 0) || hasB R x.id) = false := by
    cases hh : (decide (m = 0) || hasB R x.id)
    · rfl
    · exact absurd (by simpa using hh) h
  rw [stepN, this, Bool.false_and]
theorem step_lay (h : ¬ (F (lA x) = s ∧ F (lB x) = s + 1)) (h' : ¬ (F (lB x) = s ∧ F (lA x) = s + 1)) (d : Die) : stepN F R s m N x d = false := by
  cases hs : stepN F R s m N x d
  · rfl
  · simp only [stepN, Bool.and_eq_true, Bool.or_eq_true, decide_eq_true_eq] at hs
    obtain ⟨_, ⟨⟨⟨a, b⟩, _⟩, _⟩ | ⟨⟨⟨a, b⟩, _⟩, _⟩⟩ := hs
    · exact absurd ⟨a, b⟩ h
    · exact absurd ⟨a, b⟩ h'
def mustK (ls : List Link) (F : Die → Int) (R : List Int) (s j : Nat) : Nat := ((ls.take j).filter fun x => layF F x s && hasB R x.id).length
theorem must_succ (h : ls[j]? = some x) : mustK ls F R s (j + 1) = mustK ls F R s j + (if (layF F x s && hasB R x.id) = true then 1 else 0) := by
  rw [mustK, take_snoc' h, List.filter_append, List.length_append, mustK, List.filter_cons]
  cases layF F x s && hasB R x.id <;> rfl
theorem must_end (h : ¬ j < ls.length) : mustK ls F R s j = mustF ls F R s := by rw [mustK, List.take_of_length_le (by omega)]; rfl
theorem must_le : mustK ls F R s j ≤ ls.length := Nat.le_trans (List.length_filter_le _ _) (by rw [List.length_take]; omega)
theorem used_le : usedF ls F R k ≤ ls.length := by rw [used_len]; exact List.length_filter_le _ _
theorem lay_min : layF F x s = (decide (min (F (lA x)) (F (lB x)) = s) && decide (max (F (lA x)) (F (lB x)) = s + 1)) := by
  rw [Bool.eq_iff_iff, lay_iff, Bool.and_eq_true, decide_eq_true_eq, decide_eq_true_eq]
  omega
end
set_option maxHeartbeats 16000000 in
set_option maxRecDepth 100000 in
theorem feasible_ok (v u r q : Value) (g : Graph) (ds : List Die) (F : Die → Int) (db : Die) (k : Nat) (R : List Int) (w : World) (hg : graphB g = true) (h : GraphAt w v g) (hd : Dies w u ds) (hrr : Ints w r (ds.map F)) (hq : Ints w q R)
    (hnd : ds.Nodup) (hin : ∀ x ∈ g.links, lA x ∈ ds ∧ lB x ∈ ds) (hdb : db ∈ ds) (hk100 : k ≤ 200) (hF : ∀ d, -1000 ≤ F d ∧ F d ≤ 1000) (hdl : ds.length ≤ 1024) :
    Calls Tryz.prog 49 #[v, u, r, vlD db, .int .i64 k, q] w fun e w' => e = .returned (.bool (feasF g.links F db k R)) ∧ Below w.heap.size w w' := by
  have h' := h
  obtain ⟨v1, v2, v3, rfl, ho, hr, hk⟩ := h
  obtain ⟨A1, c1, rfl, _, _, _⟩ := ho.cells
  obtain ⟨A2, c2, rfl, _, _, _⟩ := hr.cells
  obtain ⟨A3, c3, rfl, _, _, _⟩ := hk.cells
  obtain ⟨W0, hW0, Hz0, hb0, hlt0, hc0⟩ := boxed w #[.slice A1 g.obv.length c1, .slice A2 g.rev.length c2, .slice A3 g.links.length c3] 54
  obtain ⟨W1, hW1, Hz1, hb1, hlt1, hc1⟩ := boxed W0 #[.int .i64 db.side, .int .i64 db.num] 24
  have a2 := cell_later hb1 (hc0 2 _ rfl)
  have b0 := hc1 0 _ rfl; have b1 := hc1 1 _ rfl
  have hw1 := below_trans hb0 hb1
  obtain ⟨Ad, cd, rfl, _, _, hdc⟩ := id hd.cells
  obtain ⟨Ar, cr, rfl, _, _, hrc⟩ := hrr.cells
  obtain ⟨Aq, cq, rfl, _⟩ := id hq
  obtain ⟨_, _, e3, _, _, hkc⟩ := hk.cells
  cases e3
  rw [List.length_map] at hrc ⊢
  have hll : g.links.length ≤ 64 := ((graphB_iff _).1 hg).ll
  obtain ⟨B, hB⟩ : ∃ B, feasF g.links F db k R = B := ⟨_, rfl⟩
  rw [hB]
  have HB := Lib.hid hB; have Hnd := Lib.hid hnd; have Hin := Lib.hid hin; have Hdb := Lib.hid hdb; have Hd := Lib.hid hd; have Hq := Lib.hid hq
  have hmk := run_make_row' (P := Tryz.prog) 110 4 (.bool false) 1 Tryz.underlying110 infoBx rfl .i64 .i64 ds.length (by omega) (by omega)
  rw [made_boolX] at hmk
  obtain ⟨M1, hM1⟩ : ∃ z, W1.alloc (.cells (Array.replicate ds.length (Value.bool false)) 4) = z := ⟨_, rfl⟩
  have hbM1 : Below W1.heap.size W1 M1 := by rw [← hM1]; exact (Below.refl _ _).alloc (Nat.le_refl _) _
  have hrow : RowBl M1 W1.heap.size (initF (fun d => decide (F d = 0)) ds 0) := by
    rw [init_zero, ← hM1]
    unfold RowBl
    rw [List.map_replicate, List.toArray_replicate]
    exact heap_alloc_new _ _
  have Hrow := Lib.hid hrow
  clear hc0 hc1 ho hr hk hg h' hd hrr hq hB hnd hin hdb hrow
  go_enter Tryz.func49, Tryz.ntmps49
  go_wp2_with fail
  clear hM1 hW0 hW1
  go_loopw [14] (fun iv wr => ∃ j : Nat, j ≤ ds.length ∧ iv = .int .i64 j ∧ RowBl wr W1.heap.size (initF (fun d => decide (F d = 0)) ds j) ∧ Below W1.heap.size W1 wr) (fun iv _ => ds.length - (intOf iv).toNat)
  case atStart => exact ⟨0, Nat.zero_le _, rfl, Hrow.out, hbM1⟩
  case round =>
    clear Hrow hbM1
    obtain ⟨j, hj, rfl, hR, hb⟩ := hrel
    have hwr := below_trans hw1 hb
    by_cases hlt : j < ds.length
    case pos =>
      obtain ⟨x, hx⟩ := get_of_lt hlt
      obtain ⟨br, orr, rfl, _, hrb⟩ := hrc j hlt
      have y0 := hrb wr hwr j (F x) (by rw [List.getElem?_map, hx]; rfl)
      obtain ⟨p0, p1⟩ := hR.cell (init_at hlt)
      obtain ⟨Z, hZ⟩ : ∃ Z, (F x == 0) = Z := ⟨_, rfl⟩
      have HRn := Lib.hid (hR.set j (decide (F x = 0)))
      rw [init_set (f := fun d => decide (F d = 0)) hx, show decide (F x = 0) = Z from hZ] at HRn
      have HBn := Lib.hid (below_setB (k := j) (x := .bool Z) hb (Nat.le_refl _))
      have hl1 : (j : Int) < (ds.length : Int) := by omega
      have hl0 : (0 : Int) ≤ (j : Int) := by omega
      clear hR hx hrb hrc hkc hdc
      go_wp2_with fail
      refine ⟨?rel, ?measure⟩
      case rel => exact ⟨j + 1, by omega, by go_num, HRn.out, HBn.out⟩
      case measure => first | (simp [intOf]; done) | (simp [intOf]; omega)
    have ej : j = ds.length := by omega
    subst ej
    rw [init_end] at hR
    have HR0 := Lib.hid hR
    clear hR
    have Hmk := Lib.hid hmk
    clear hmk hlt
    go_wp2_with fail
    go_loopw [13, 15, 16] (fun nv uv sv wr => ∃ (s gn : Nat), s ≤ k ∧ sv = .int .i64 s ∧ uv = .int .i64 ((usedF g.links F R s : Nat) : Int) ∧ nv = .slice (some ⟨gn, 0, none⟩) ds.length ds.length ∧ RowBl wr gn (ds.map (nowF g.links F R s)) ∧ W1.heap.size ≤ gn ∧ Hid (∀ i, i < s → mustF g.links F R i ≤ 1) ∧ Below W1.heap.size W1 wr) (fun _ _ sv _ => k - (intOf sv).toNat)
    case atStart => exact ⟨0, W1.heap.size, Nat.zero_le _, rfl, rfl, rfl, HR0.out, Nat.le_refl _, Lib.hid (fun i hi => absurd hi (by omega)), hb⟩
    case round =>
      clear HR0 hb hwr
      obtain ⟨s, gn, hs, rfl, rfl, rfl, hN, hgn, HU, hb⟩ := hrel
      have hwr := below_trans hw1 hb
      have hul : usedF g.links F R s ≤ g.links.length := used_le
      obtain ⟨U, hU⟩ : ∃ U, usedF g.links F R s = U := ⟨_, rfl⟩
      rw [hU] at hul ⊢
      have HUs := Lib.hid hU
      by_cases hlt : s < k
      case neg =>
        have es : s = k := by omega
        subst es
        have b0 := cell_later hb b0; have b1 := cell_later hb b1
        clear hkc hrc hdc hU
        by_cases hUR : U = R.length
        case neg =>
          have t : ((U : Int) == (R.length : Int)) = false := by simp; omega
          have HBf : Hid (B = false) := Lib.hid (by rw [← HB.out, feasF, HUs.out, decide_eq_false hUR]; simp)
          clear hUR
          go_wp2_with fail
          go_ret
          exact ⟨ret_bool HBf.out.symm, hwr⟩
        have t : ((U : Int) == (R.length : Int)) = true := by simp; omega
        have HBt : Hid (B = nowF g.links F R s db) := Lib.hid (by
          rw [← HB.out, feasF, HUs.out, decide_eq_true hUR, Bool.and_true, show ((List.range s).all fun i => decide (mustF g.links F R i ≤ 1)) = true from List.all_eq_true.2 fun i hi => decide_eq_true (HU.out i (List.mem_range.1 hi)), Bool.true_and])
        have hip := plN_at Hdb.out
        have H1 := Lib.hid fun w9 (hh : Dies w9 (.slice Ad ds.length cd) ds) => place51_ok _ ds db w9 hh
        obtain ⟨ip, hipe⟩ : ∃ i, plN ds db = i := ⟨_, rfl⟩
        rw [hipe] at hip H1
        obtain ⟨Z, hZ⟩ : ∃ Z, nowF g.links F R s db = Z := ⟨_, rfl⟩
        have hcell : (ds.map (nowF g.links F R s))[ip]? = some Z := by rw [List.getElem?_map, hip, ← hZ]; rfl
        have hl1 : (ip : Int) < (ds.length : Int) := by have := lt_of_get hip; omega
        have hl0 : (0 : Int) ≤ (ip : Int) := by omega
        rw [hZ] at HBt
        have Hcell := Lib.hid hcell
        clear hUR hip hipe hZ hcell
        go_wp2_with fail
        refine (H1.out _ (Hd.out.below hwr)).mono ?_
        rintro e w5 ⟨rfl, hb5⟩
        obtain ⟨p0, p1⟩ := (hN.below hb5).cell Hcell.out
        go_wp2_with fail
        go_ret
        exact ⟨ret_bool HBt.out.symm, below_trans hwr hb5⟩
      have hl1 : (s : Int) < (k : Int) := by omega
      have hmk := Hmk.out wr
      obtain ⟨gx, hgx⟩ : ∃ z, wr.heap.size = z := ⟨_, rfl⟩
      obtain ⟨M, hM⟩ : ∃ z, wr.alloc (.cells (Array.replicate ds.length (Value.bool false)) 4) = z := ⟨_, rfl⟩
      have hbM : Below wr.heap.size wr M := by rw [← hM]; exact (Below.refl _ _).alloc (Nat.le_refl _) _
      have hX : RowBl M gx (List.replicate ds.length false) := by
        rw [← hM, ← hgx]
        unfold RowBl
        rw [List.map_replicate, List.toArray_replicate]
        exact heap_alloc_new _ _
      have hNM := hN.below hbM
      have hne : gn ≠ gx := by have := hN.lt; omega
      have hgx' : W1.heap.size ≤ gx := by have := hb.size; omega
      have hbM1 := below_trans hb hbM
      have HX := Lib.hid hX; have HN := Lib.hid hNM
      rw [hgx] at hmk
      obtain ⟨Nw, hNw⟩ : ∃ z, nowF g.links F R s = z := ⟨_, rfl⟩
      rw [hNw] at HN
      have HNw := Lib.hid hNw
      clear hX hNM hN hU hNw hdc
      go_wp2_with fail
      clear hM hmk
      go_loopw [18, 19] (fun mv iv wt => ∃ j : Nat, j ≤ g.links.length ∧ iv = .int .i64 j ∧ mv = .int .i64 ((mustK g.links F R s j : Nat) : Int) ∧ Below M.heap.size M wt) (fun _ iv _ => g.links.length - (intOf iv).toNat)
      case atStart => exact ⟨0, Nat.zero_le _, rfl, rfl, Below.refl _ _⟩
      case round =>
        obtain ⟨wt, hwt0⟩ : ∃ z, z = wr := ⟨_, rfl⟩
        subst hwt0
        obtain ⟨j, hj, rfl, rfl, hbt⟩ := hrel
        have hbt1 := below_trans hbM1 hbt
        have hwt := below_trans hw1 hbt1
        have hml : mustK g.links F R s j ≤ g.links.length := must_le
        by_cases hlt3 : j < g.links.length
        case pos =>
          as_aux_lemma =>
            obtain ⟨bl, ol, rfl, _, hlc⟩ := hkc j hlt3
            obtain ⟨x, hx⟩ := get_of_lt hlt3
            obtain ⟨y0, y1, y2⟩ := hlc wt hwt j x hx
            have a2t := cell_later hbt1 a2
            obtain ⟨hA, hBm⟩ := Hin.out x (List.mem_of_getElem? hx)
            have hia := plN_at hA; have hib := plN_at hBm
            have H1 := Lib.hid fun w9 (hh : Dies w9 (.slice Ad ds.length cd) ds) => place51_ok _ ds (lA x) w9 hh
            have H2 := Lib.hid fun w9 (hh : Dies w9 (.slice Ad ds.length cd) ds) => place51_ok _ ds (lB x) w9 hh
            obtain ⟨ia, hiae⟩ : ∃ i, plN ds (lA x) = i := ⟨_, rfl⟩
            obtain ⟨ib, hibe⟩ : ∃ i, plN ds (lB x) = i := ⟨_, rfl⟩
            rw [hiae] at H1 hia
            rw [hibe] at H2 hib
            have Hia := Lib.hid hia; have Hib := Lib.hid hib
            obtain ⟨br, orr, rfl, _, hrb⟩ := hrc ia (lt_of_get hia)
            have hFAb := hF (lA x); have hFBb := hF (lB x)
            obtain ⟨FA, hFA⟩ : ∃ z, F (lA x) = z := ⟨_, rfl⟩
            obtain ⟨FB, hFB⟩ : ∃ z, F (lB x) = z := ⟨_, rfl⟩
            rw [hFA] at hFAb
            rw [hFB] at hFBb
            have hj1 : (j : Int) < (g.links.length : Int) := by omega
            have hj0 : (0 : Int) ≤ (j : Int) := by omega
            clear hA hBm hia hib hiae hibe
            obtain ⟨T1, hT1⟩ : ∃ T, (min FA FB == (s : Int)) = T := ⟨_, rfl⟩
            obtain ⟨T2, hT2⟩ : ∃ T, (max FA FB == (s : Int) + 1) = T := ⟨_, rfl⟩
            obtain ⟨T3, hT3⟩ : ∃ T, hasB R x.id = T := ⟨_, rfl⟩
            have hms := must_succ (F := F) (R := R) (s := s) hx
            rw [lay_min, hFA, hFB, hT3, show decide (min FA FB = (s : Int)) = T1 from hT1, show decide (max FA FB = (s : Int) + 1) = T2 from hT2] at hms
            obtain ⟨m, hm⟩ : ∃ m, mustK g.links F R s j = m := ⟨_, rfl⟩
            rw [hm] at hms hml ⊢
            have Hms := Lib.hid hms
            clear hkc hlc hx hms hm
            go_wp2_with fail
            refine (H1.out _ (Hd.out.below hwt)).mono ?_
            rintro e w5 ⟨rfl, hb5⟩
            have y0 := cell_later hb5 y0; have y1 := cell_later hb5 y1; have y2 := cell_later hb5 y2; have a2t := cell_later hb5 a2t
            go_wp2_with fail
            refine (H2.out _ (Hd.out.below (below_trans hwt hb5))).mono ?_
            rintro e w6 ⟨rfl, hb6⟩
            have hb56 := below_trans hb5 hb6
            have hw6 := below_trans hwt hb56
            have y0 := Later.cell_all (cell_later hb6 y0); have a2t := Later.cell_all (cell_later hb6 a2t)
            have e1 := Later.cell_all (hrb w6 hw6 ia FA (by rw [List.getElem?_map, Hia.out, ← hFA]; rfl))
            have e2 := Later.cell_all (hrb w6 hw6 ib FB (by rw [List.getElem?_map, Hib.out, ← hFB]; rfl))
            have q1 : (ia : Int) < (ds.length : Int) := by have := lt_of_get Hia.out; omega
            have q2 : (ib : Int) < (ds.length : Int) := by have := lt_of_get Hib.out; omega
            have q3 : (0 : Int) ≤ (ia : Int) := by omega
            have q4 : (0 : Int) ≤ (ib : Int) := by omega
            have HH := Lib.hid fun y : Later w6 => (Has_ok _ R x.id y.to ((Hq.out.below hw6).below y.h)).mono fun e w' (h : _ ∧ _) => (⟨h.1, by rw [h.2]; exact Below.refl _ _⟩ : e = _ ∧ Below y.to.heap.size y.to w')
            rw [hT3] at HH
            have hbt6 := below_trans hbt hb56
            clear hFA hFB y1 y2 hrb hT3
            cases T1
            · go_wp2_with fail
              refine wp_region_later (by kernel_rfl) (by kernel_rfl) ?_
              repeat (go_big_quiet_step (first | fail))
              refine wpQuiet_nil ?_
              intro _ hw'
              obtain ⟨xq, hw''⟩ := hw'
              subst hw''
              have hb7 := xq.h
              generalize xq.to = w7 at hb7 ⊢
              clear y0 a2t e1 e2
              have hb7' := below_trans hbt6 hb7
              have Hm2 : Hid (mustK g.links F R s (j + 1) = m) := Lib.hid (by rw [Hms.out]; simp)
              go_wp2_with fail
              refine ⟨?rel, ?measure⟩
              case rel => exact ⟨j + 1, by omega, by go_num, by rw [Hm2.out], hb7'⟩
              case measure => first | (simp [intOf]; done) | (simp [intOf]; omega)
            · cases T2
              · go_wp2_with fail
                refine wp_region_later (by kernel_rfl) (by kernel_rfl) ?_
                repeat (go_big_quiet_step (first | fail))
                refine wpQuiet_nil ?_
                intro _ hw'
                obtain ⟨xq, hw''⟩ := hw'
                subst hw''
                have hb7 := xq.h
                generalize xq.to = w7 at hb7 ⊢
                clear y0 a2t e1 e2
                have hb7' := below_trans hbt6 hb7
                have Hm2 : Hid (mustK g.links F R s (j + 1) = m) := Lib.hid (by rw [Hms.out]; simp)
                go_wp2_with fail
                refine ⟨?rel, ?measure⟩
                case rel => exact ⟨j + 1, by omega, by go_num, by rw [Hm2.out], hb7'⟩
                case measure => first | (simp [intOf]; done) | (simp [intOf]; omega)
              · cases T3
                · go_wp2_with fail
                  refine wp_region_later (by kernel_rfl) (by kernel_rfl) ?_
                  repeat (go_big_quiet_step (first | (go_at_call 21; with_reducible exact calls_later (HH.out _))))
                  refine wpQuiet_nil ?_
                  intro _ hw'
                  obtain ⟨xq, hw''⟩ := hw'
                  subst hw''
                  have hb7 := xq.h
                  generalize xq.to = w7 at hb7 ⊢
                  clear y0 a2t e1 e2
                  have hb7' := below_trans hbt6 hb7
                  have Hm2 : Hid (mustK g.links F R s (j + 1) = m) := Lib.hid (by rw [Hms.out]; simp)
                  go_wp2_with fail
                  refine ⟨?rel, ?measure⟩
                  case rel => exact ⟨j + 1, by omega, by go_num, by rw [Hm2.out], hb7'⟩
                  case measure => first | (simp [intOf]; done) | (simp [intOf]; omega)
                · go_wp2_with fail
                  refine wp_region_later (by kernel_rfl) (by kernel_rfl) ?_
                  repeat (go_big_quiet_step (first | (go_at_call 21; with_reducible exact calls_later (HH.out _))))
                  refine wpQuiet_nil ?_
                  intro _ hw'
                  obtain ⟨xq, hw''⟩ := hw'
                  subst hw''
                  have hb7 := xq.h
                  generalize xq.to = w7 at hb7 ⊢
                  clear y0 a2t e1 e2
                  have hb7' := below_trans hbt6 hb7
                  have Hm2 : Hid (mustK g.links F R s (j + 1) = m + 1) := Lib.hid (by rw [Hms.out]; simp)
                  go_wp2_with fail
                  refine ⟨?rel, ?measure⟩
                  case rel => exact ⟨j + 1, by omega, by go_num, by rw [Hm2.out]; go_num, hb7'⟩
                  case measure => first | (simp [intOf]; done) | (simp [intOf]; omega)
        have hme : mustK g.links F R s j = mustF g.links F R s := must_end hlt3
        rw [hme] at hml ⊢
        obtain ⟨m, hm⟩ : ∃ m, mustF g.links F R s = m := ⟨_, rfl⟩
        rw [hm] at hml ⊢
        have Hm := Lib.hid hm
        have a2t := cell_later hbt1 a2
        have HX2 := Lib.hid (HX.out.below hbt); have HN2 := Lib.hid (HN.out.below hbt)
        clear hme hm
        go_wp2_with fail
        clear a2t hlt3 hj
        go_loopw [22] (fun iv wt => ∃ j : Nat, j ≤ g.links.length ∧ iv = .int .i64 j ∧ RowBl wt gx (ds.map (nxtF g.links F R s m Nw j)) ∧ RowBl wt gn (ds.map Nw) ∧ Below W1.heap.size W1 wt) (fun iv _ => g.links.length - (intOf iv).toNat)
        case atStart => exact ⟨0, Nat.zero_le _, rfl, by rw [show nxtF g.links F R s m Nw 0 = fun _ => false from funext fun d => by simp [nxtF], List.map_const']; exact HX2.out, HN2.out, hbt1⟩
        case round =>
          clear HX2 HN2 HX HN hbt1 hwt hbt hbM hbM1 hwr hb
          obtain ⟨wt, hwt0⟩ : ∃ z, z = wr := ⟨_, rfl⟩
          subst hwt0
          obtain ⟨j, hj, rfl, hX, hN, hbt1⟩ := hrel
          have hwt := below_trans hw1 hbt1
          by_cases hlt3 : j < g.links.length
          case neg =>
            have ej : j = g.links.length := by omega
            subst ej
            have hXe : ds.map (nxtF g.links F R s m Nw g.links.length) = ds.map (nowF g.links F R (s + 1)) := List.map_congr_left fun d _ => by rw [nxtF, List.take_length, nowF, Hm.out, HNw.out]
            rw [hXe] at hX
            have HX3 := Lib.hid hX
            have a2t := cell_later hbt1 a2
            clear hXe hX hN hkc hrc
            by_cases hm1 : m ≤ 1
            case neg =>
              have t : decide ((1 : Int) < (m : Int)) = true := by simp; omega
              have HBf : Hid (B = false) := Lib.hid (by
                rw [← HB.out, feasF, show ((List.range k).all fun i => decide (mustF g.links F R i ≤ 1)) = false from Bool.eq_false_iff.2 fun hh => hm1 (by have := List.all_eq_true.1 hh s (List.mem_range.2 hlt); rw [decide_eq_true_eq, Hm.out] at this; exact this)]
                simp)
              go_wp2_with fail
              go_ret
              exact ⟨ret_bool HBf.out.symm, hwt⟩
            have t : decide ((1 : Int) < (m : Int)) = false := by simp; omega
            have HU2 : Hid (∀ i, i < s + 1 → mustF g.links F R i ≤ 1) := Lib.hid fun i hi => by
              by_cases e : i = s
              · rw [e, Hm.out]; exact hm1
              · exact HU.out i (by omega)
            have HUs2 : Hid (usedF g.links F R (s + 1) = U + m) := Lib.hid (by rw [usedF, HUs.out, Hm.out])
            go_wp2_with fail
            refine ⟨?rel, ?measure⟩
            case rel => exact ⟨s + 1, gx, by omega, by go_num, by rw [HUs2.out]; go_num, rfl, HX3.out, hgx', HU2, hbt1⟩
            case measure => first | (simp [intOf]; done) | (simp [intOf]; omega)
          obtain ⟨bl, ol, rfl, _, hlc⟩ := hkc j hlt3
          obtain ⟨x, hx⟩ := get_of_lt hlt3
          obtain ⟨y0, y1, y2⟩ := hlc wt hwt j x hx
          have a2t := cell_later hbt1 a2
          obtain ⟨hA, hBm⟩ := Hin.out x (List.mem_of_getElem? hx)
          have hia := plN_at hA; have hib := plN_at hBm
          have H1 := Lib.hid fun w9 (hh : Dies w9 (.slice Ad ds.length cd) ds) => place51_ok _ ds (lA x) w9 hh
          have H2 := Lib.hid fun w9 (hh : Dies w9 (.slice Ad ds.length cd) ds) => place51_ok _ ds (lB x) w9 hh
          obtain ⟨ia, hiae⟩ : ∃ i, plN ds (lA x) = i := ⟨_, rfl⟩
          obtain ⟨ib, hibe⟩ : ∃ i, plN ds (lB x) = i := ⟨_, rfl⟩
          rw [hiae] at H1 hia
          rw [hibe] at H2 hib
          have Hia := Lib.hid hia; have Hib := Lib.hid hib
          obtain ⟨br, orr, rfl, _, hrb⟩ := hrc ia (lt_of_get hia)
          have hFAb := hF (lA x); have hFBb := hF (lB x)
          obtain ⟨FA, hFA⟩ : ∃ z, F (lA x) = z := ⟨_, rfl⟩
          obtain ⟨FB, hFB⟩ : ∃ z, F (lB x) = z := ⟨_, rfl⟩
          rw [hFA] at hFAb
          rw [hFB] at hFBb
          have hj1 : (j : Int) < (g.links.length : Int) := by omega
          have hj0 : (0 : Int) ≤ (j : Int) := by omega
          clear hA hBm hia hib hiae hibe
          have HH := Lib.hid fun (w9 : World) (hb : Below w.heap.size w w9) => Has_ok _ R x.id w9 (Hq.out.below hb)
          obtain ⟨T3, hT3⟩ : ∃ T, hasB R x.id = T := ⟨_, rfl⟩
          rw [hT3] at HH
          have HT3 := Lib.hid hT3
          clear hkc hlc hT3
          go_wp2_with fail
          refine (H1.out _ (Hd.out.below hwt)).mono ?_
          rintro e w5 ⟨rfl, hb5⟩
          have y0 := cell_later hb5 y0; have y1 := cell_later hb5 y1; have y2 := cell_later hb5 y2; have a2t := cell_later hb5 a2t
          go_wp2_with fail
          refine (H2.out _ (Hd.out.below (below_trans hwt hb5))).mono ?_
          rintro e w6 ⟨rfl, hb6'⟩
          have hb56 := below_trans hb5 hb6'
          have hw6 := below_trans hwt hb56
          have hb6 := below_trans hbt1 hb56
          have hX6 := hX.below hb56; have hN6 := hN.below hb56
          have y0 := cell_later hb6' y0; have a2t := cell_later hb6' a2t
          clear y1 y2 hX hN
          go_upto_region 24 with fail
          go_cut [149] (fun cv wc => w6 = wc ∧ ∃ D : Bool, cv = .bool D ∧ Hid (D = true → ¬ (m = 0 ∨ hasB R x.id = true)) ∧ Hid (D = false → m = 0 ∨ hasB R x.id = true))
          case first =>
            by_cases hm0 : m = 0
            · have Hm0 := Lib.hid hm0
              have t : decide (0 < m) = false := by simp; omega
              have t' : (0 < m) = False := by simp; omega
              clear hm0 hx hrb
              go_wp2_with fail
              go_meet
              exact ⟨rfl, false, rfl, Lib.hid (fun h => by cases h), Lib.hid (fun _ => .inl Hm0.out)⟩
            · have t : decide (0 < m) = true := by simp; omega
              have t' : (0 < m) = True := by simp; omega
              have Hm0 := Lib.hid hm0
              clear hm0 hrb hx
              go_wp2_with fail
              refine (HH.out _ hw6).mono ?_
              rintro e wq ⟨rfl, rfl⟩
              cases T3
              · go_wp2_with fail
                go_meet
                exact ⟨rfl, true, rfl, Lib.hid (fun _ => by rw [HT3.out]; rintro (h | h); exact Hm0.out h; cases h), Lib.hid (fun h => by cases h)⟩
              · go_wp2_with fail
                go_meet
                exact ⟨rfl, false, rfl, Lib.hid (fun h => by cases h), Lib.hid (fun _ => .inr HT3.out)⟩
          case rest =>
            obtain ⟨rfl, D, rfl, HD1, HD2⟩ := hcut
            cases D
            case true =>
              have Hn2 : Hid (ds.map (nxtF g.links F R s m Nw (j + 1)) = ds.map (nxtF g.links F R s m Nw j)) := Lib.hid (map_nxt_no hx fun d => step_not (HD1.out rfl) d)
              clear hx hrb
              go_wp2_with fail
              refine ⟨?rel, ?measure⟩
              case rel => exact ⟨j + 1, by omega, by go_num, by rw [Hn2.out]; exact hX6, hN6, hb6⟩
              case measure => first | (simp [intOf]; done) | (simp [intOf]; omega)
            case false =>
              as_aux_lemma =>
                have e1 := hrb w6 hw6 ia FA (by rw [List.getElem?_map, Hia.out, ← hFA]; rfl)
                have e2 := hrb w6 hw6 ib FB (by rw [List.getElem?_map, Hib.out, ← hFB]; rfl)
                have q1 : (ia : Int) < (ds.length : Int) := by have := lt_of_get Hia.out; omega
                have q2 : (ib : Int) < (ds.length : Int) := by have := lt_of_get Hib.out; omega
                have q3 : (0 : Int) ≤ (ia : Int) := by omega
                have q4 : (0 : Int) ≤ (ib : Int) := by omega
                have Hx := Lib.hid hx
                clear y0 a2t
                by_cases cA : FA = s ∧ FB = s + 1
                · obtain ⟨na, hna⟩ : ∃ b, Nw (lA x) = b := ⟨_, rfl⟩
                  obtain ⟨nb, hnb⟩ : ∃ b, nxtF g.links F R s m Nw j (lB x) = b := ⟨_, rfl⟩
                  have t1 : (FA == (s : Int)) = true := by simpa using cA.1
                  have t2 : (FB == (s : Int) + 1) = true := by simpa using cA.2
                  have t3 : (FB == (s : Int)) = false := by simp; omega
                  have hstep := map_nxt_B (N := Nw) (F := F) (R := R) (s := s) (m := m) Hnd.out hx Hib.out (HD2.out rfl) (by rw [hFA]; exact cA.1) (by rw [hFB]; exact cA.2)
                  clear hrb hx cA
                  obtain ⟨p0, p1⟩ := hX6.cell (k := ib) (x := nb) (by rw [List.getElem?_map, Hib.out, ← hnb]; rfl)
                  obtain ⟨p2, _⟩ := hN6.cell (k := ia) (x := na) (by rw [List.getElem?_map, Hia.out, ← hna]; rfl)
                  have hset := hstep
                  rw [hnb, hna] at hset
                  have hRx := hX6.set ib (nb || na)
                  rw [hset] at hRx
                  have HRx := Lib.hid hRx
                  have HbS := Lib.hid (below_setB (k := ib) (x := .bool (nb || na)) hb6 hgx')
                  have HNS := Lib.hid (hN6.off (b' := gx) (k := ib) (x := .bool (nb || na)) hne)
                  clear hRx hset hnb hna hX6 hN6
                  cases nb
                  all_goals
                    simp only [Bool.true_or, Bool.false_or] at HRx HbS HNS
                    go_wp2_with fail
                    refine ⟨?rel, ?measure⟩
                    case rel => exact ⟨j + 1, by omega, by go_num, HRx.out, HNS.out, HbS.out⟩
                    case measure => simp [intOf]; omega
                by_cases cB : FB = s ∧ FA = s + 1
                · obtain ⟨na, hna⟩ : ∃ b, Nw (lB x) = b := ⟨_, rfl⟩
                  obtain ⟨nb, hnb⟩ : ∃ b, nxtF g.links F R s m Nw j (lA x) = b := ⟨_, rfl⟩
                  have t1 : (FB == (s : Int)) = true := by simpa using cB.1
                  have t2 : (FA == (s : Int) + 1) = true := by simpa using cB.2
                  have t3 : (FA == (s : Int)) = false := by simp; omega
                  have hstep := map_nxt_A (N := Nw) (F := F) (R := R) (s := s) (m := m) Hnd.out hx Hia.out (HD2.out rfl) (by rw [hFB]; exact cB.1) (by rw [hFA]; exact cB.2)
                  clear hrb hx cB cA
                  obtain ⟨p0, p1⟩ := hX6.cell (k := ia) (x := nb) (by rw [List.getElem?_map, Hia.out, ← hnb]; rfl)
                  obtain ⟨p2, _⟩ := hN6.cell (k := ib) (x := na) (by rw [List.getElem?_map, Hib.out, ← hna]; rfl)
                  have hset := hstep
                  rw [hnb, hna] at hset
                  have hRx := hX6.set ia (nb || na)
                  rw [hset] at hRx
                  have HRx := Lib.hid hRx
                  have HbS := Lib.hid (below_setB (k := ia) (x := .bool (nb || na)) hb6 hgx')
                  have HNS := Lib.hid (hN6.off (b' := gx) (k := ia) (x := .bool (nb || na)) hne)
                  clear hRx hset hnb hna hX6 hN6
                  cases nb
                  all_goals
                    simp only [Bool.true_or, Bool.false_or] at HRx HbS HNS
                    go_wp2_with fail
                    refine ⟨?rel, ?measure⟩
                    case rel => exact ⟨j + 1, by omega, by go_num, HRx.out, HNS.out, HbS.out⟩
                    case measure => simp [intOf]; omega
                have Hn2 : Hid (ds.map (nxtF g.links F R s m Nw (j + 1)) = ds.map (nxtF g.links F R s m Nw j)) := Lib.hid (map_nxt_no hx fun d => step_lay (by rw [hFA, hFB]; exact cA) (by rw [hFA, hFB]; exact cB) d)
                have DA : (FA == (s : Int)) = false ∨ ((FA == (s : Int)) = true ∧ (FB == (s : Int) + 1) = false) := by
                  by_cases h1 : FA = s
                  · exact .inr ⟨by simpa using h1, by simp; exact fun h2 => cA ⟨h1, h2⟩⟩
                  · exact .inl (by simpa using h1)
                have DB : (FB == (s : Int)) = false ∨ ((FB == (s : Int)) = true ∧ (FA == (s : Int) + 1) = false) := by
                  by_cases h1 : FB = s
                  · exact .inr ⟨by simpa using h1, by simp; exact fun h2 => cB ⟨h1, h2⟩⟩
                  · exact .inl (by simpa using h1)
                have HDA := Lib.hid DA; have HDB := Lib.hid DB
                clear hrb hx cA cB DA DB
                rcases HDA.out with t1 | ⟨t1, t2⟩ <;> rcases HDB.out with t3 | ⟨t3, t4⟩
                all_goals
                  go_wp2_with fail
                  refine ⟨?rel, ?measure⟩
                  case rel => exact ⟨j + 1, by omega, by go_num, by rw [Hn2.out]; exact hX6, hN6, hb6⟩
                  case measure => simp [intOf]; omega
end Go.Proofs.YtlmjncncmgmehaaGreat
