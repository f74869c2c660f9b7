/- What WholeLinks and WholeForest need: base.Chains; plain facts. Condition: the arguments read as such. -/
import Derived.Test.YtgpbdembjdileaaGreatDoorCompB
import Derived.Test.YtgpbdembjdileaaGreatDoorStepP
import Derived.Test.YtgpbdembjdileaaGreatDoorTraA
import Derived.Test.YtgpbdembjdileaaGreatDoorLinkE
import Derived.Test.YtgpbdembjdileaaGreatDoorRow
namespace Go.Proofs.YtgpbdembjdileaaGreatDoor
open Go.RowKit Go.Maps

/-- A slice of slices of dies. -/
def RowsD (w : World) (v : Value) (xss : List (List Die)) : Prop :=
  ∃ A c vs, v = .slice A xss.length c ∧ xss.length ≤ c ∧ c ≤ maxLen ∧ Sl w 1 A xss.length vs ∧ ∀ (i : Nat) (u : Value) (xs : List Die), vs[i]? = some u → xss[i]? = some xs → Dies w u xs
theorem RowsD.below {w w' : World} {v : Value} {xss : List (List Die)} (h : RowsD w v xss) (hb : Below w.heap.size w w') : RowsD w' v xss := by
  obtain ⟨A, c, vs, e, h1, h2, h3, h4⟩ := h
  exact ⟨A, c, vs, e, h1, h2, h3.below hb, fun i u xs hu hx => (h4 i u xs hu hx).below hb⟩
theorem RowsD.cells {w : World} {v : Value} {xss : List (List Die)} (h : RowsD w v xss) : ∃ A c, v = .slice A xss.length c ∧ xss.length ≤ c ∧ (c : Int) ≤ 9223372036854775807 ∧
    ∀ k, k < xss.length → ∃ b o, A = some ⟨b, o, none⟩ ∧ b < w.heap.size ∧ ∀ i xs, xss[i]? = some xs → ∃ A' c', Dies w (.slice A' xs.length c') xs ∧ (c' : Int) ≤ 9223372036854775807 ∧ xs.length ≤ c' ∧ ∀ w', Below w.heap.size w w' → w'.cell? ⟨b, o + i, none⟩ = some (.slice A' xs.length c') := by
  obtain ⟨A, c, vs, e, h1, h2, h3, h4⟩ := h
  refine ⟨A, c, e, h1, by simp only [maxLen] at h2; omega, fun k hk => ?_⟩
  obtain ⟨b, o, e, hb, hc⟩ := h3.2 (by omega)
  refine ⟨b, o, e, hb, fun i xs hx => ?_⟩
  have hi : i < vs.length := by have := (List.getElem?_eq_some_iff.1 hx).1; have := h3.1; omega
  have hv : vs[i]? = some vs[i] := List.getElem?_eq_getElem hi
  have hI := h4 i _ xs hv hx
  obtain ⟨A', c', e', q1, q2, q3⟩ := hI
  refine ⟨A', c', ⟨A', c', rfl, q1, q2, q3⟩, by simp only [maxLen] at q2; omega, q1, fun w' hw' => ?_⟩
  have := cell_later hw' (hc i _ hv)
  rwa [e'] at this
theorem ChSt.rows {B : Nat} {w : World} {u : Value} {hs : List Hdr} {R : List (List Die)} (h : ChSt B w u hs R) : RowsD w u R := by
  obtain ⟨A, c, e, h1, h2, h3⟩ := h.own.slOf
  refine ⟨A, c, hs.flatMap encH, by rw [e, h.len], by rw [← h.len]; exact h1, h2, by rw [← h.len]; exact h3, fun i x r hx hr => ?_⟩
  have hf := flat_get encH 1 lenH hs i 0 (by omega)
  rw [Nat.mul_one, Nat.add_zero, hx] at hf
  obtain ⟨y, hy⟩ := get_of_lt (show i < hs.length by rw [h.len]; exact lt_of_get hr)
  rw [hy] at hf
  obtain rfl : x = y.v := by simpa [encH] using hf
  exact (h.row i y r hy hr).slOf
set_option maxHeartbeats 1000000 in
theorem Chains_same (v u : Value) (xs ys : List (List Die)) (w : World) (h : RowsD w v xs) (h' : RowsD w u ys) :
    Calls Tryz.prog 20 #[v, u] w fun e w' => e = .returned (.bool (decide (xs = ys))) ∧ Below w.heap.size w w' := by
  obtain ⟨A, c, rfl, h1, h2, hc⟩ := h.cells
  obtain ⟨A', c', rfl, h1', h2', hc'⟩ := h'.cells
  by_cases hne : xs.length = ys.length
  · have hne' : ((xs.length : Int) != (ys.length : Int)) = false := by simp; omega
    have Hne := Lib.hid hne; clear hne
    go_enter Tryz.func20, Tryz.ntmps20
    go_wp2
    go_loopw [5] (fun i wr => ∃ k : Nat, k ≤ xs.length ∧ i = .int .i64 k ∧ xs.take k = ys.take k ∧ Below w.heap.size w wr) (fun i _ => xs.length - (intOf i).toNat)
    case atStart => exact ⟨0, Nat.zero_le _, rfl, by simp, Below.refl _ _⟩
    case round =>
      obtain ⟨k, hk, rfl, hr, hb⟩ := hrel
      have Hr := Lib.hid hr; clear hr
      by_cases hlt : k < xs.length
      · have hlt' : k < ys.length := by have := Hne.out; omega
        obtain ⟨b, o, rfl, _, hc⟩ := hc k hlt
        obtain ⟨b', o', rfl, _, hc'⟩ := hc' k hlt'
        obtain ⟨x, hx⟩ := get_of_lt hlt
        obtain ⟨y, hy⟩ := get_of_lt hlt'
        obtain ⟨A1, c1, i1, _, _, m1⟩ := hc k x hx
        obtain ⟨A2, c2, i2, _, _, m2⟩ := hc' k y hy
        have f1 := Later.cell_all (m1 wr hb)
        have f2 := Later.cell_all (m2 wr hb)
        have HB : ∀ z : Later wr, Below w.heap.size w z.to := fun z => below_trans hb z.h
        have Hx := Lib.hid hx; clear hx hc m1
        have Hy := Lib.hid hy; clear hy hc' m2
        have hl1 : (k : Int) < (xs.length : Int) := by omega
        have hl2 : (k : Int) < (ys.length : Int) := by omega
        have hl0 : (0 : Int) ≤ (k : Int) := by omega
        by_cases hxy : x = y
        · have hd : decide (x = y) = true := by simpa using hxy
          have Hxy := Lib.hid hxy; clear hxy
          go_wp2
          refine wp_region_later (by kernel_rfl) (by kernel_rfl) ?_
          repeat (go_big_quiet_step (first | (go_at_call 41; with_reducible exact calls_later (baseDies_ok _ _ _ _ _ (i1.below (HB _)) (i2.below (HB _))))))
          refine wpQuiet_nil ?_
          intro _ hw'
          obtain ⟨xq, hw''⟩ := hw'
          subst hw''
          go_wp2
          refine ⟨?rel, ?measure⟩
          case rel => exact ⟨k + 1, by omega, by go_num, eq_snoc Hx.out Hy.out Hr.out Hxy.out, HB xq⟩
          case measure => simp [intOf]; omega
        · have hd : decide (x = y) = false := by simpa using hxy
          have Hxy := Lib.hid hxy; clear hxy
          go_wp2
          refine wp_region_later (by kernel_rfl) (by kernel_rfl) ?_
          repeat (go_big_quiet_step (first | (go_at_call 41; with_reducible exact calls_later (baseDies_ok _ _ _ _ _ (i1.below (HB _)) (i2.below (HB _))))))
          refine wpQuiet_nil ?_
          intro _ hw'
          obtain ⟨xq, hw''⟩ := hw'
          subst hw''
          go_wp2
          go_ret
          exact ⟨ret_bool (by simpa using ne_at Hx.out Hy.out Hxy.out), HB xq⟩
      · go_wp2
        go_ret
        exact ⟨ret_bool (by simpa using eq_end Hne.out hlt Hr.out), hb⟩
  · have hne' : ((xs.length : Int) != (ys.length : Int)) = true := by simp; omega
    have Hne := Lib.hid hne; clear hne
    go_enter Tryz.func20, Tryz.ntmps20
    go_wp2
    go_ret
    exact ⟨ret_bool (by simp; exact fun e => Hne.out (by rw [e])), Below.refl _ _⟩

theorem count_chains {l : List Spec} (h : ofE l = 0) : (chainsG (ofG l)).length = (growL l).count := by rw [chainsG_len, comps_reps h]
theorem add_take {l : List Spec} (h : ofE l = 0) {k : Nat} {x : Spec} (hx : l[k]? = some x) : addE (l.take k) x = 0 ∧ addL (l.take k) x = l.take (k + 1) ∧ addB (l.take k) x = decide (cntL l (k + 1) < cntL l k) := by
  have hs := ofE_spec h hx
  have hof := of_take h (k + 1)
  have hd := (checkE_zero (ofE_zero hof).1).2.2
  rw [take_snoc' hx] at hof hd
  have hni : x.id ∉ (l.take k).map Spec.id := fun hm => by
    rw [List.map_append, List.nodup_append] at hd
    exact hd.2.2 _ hm _ (by simp) rfl
  have hE := addE_0 hs.1 hni hof
  have hA := add_yes hE
  refine ⟨hE, by rw [hA.2, take_snoc' hx], ?_⟩
  rw [hA.1]
  obtain ⟨h1, h2, h3, _⟩ := step_list hx
  rw [Bool.eq_iff_iff, decide_eq_true_eq]
  show pickJ (apartG x (growL (l.take k))) (thereG x (growL (l.take k))) = true ↔ _
  rw [← h3]
  omega
theorem id_new {l : List Spec} (h : ofE l = 0) {k : Nat} {x : Spec} (hx : l[k]? = some x) : ∀ y ∈ l.take k, y.id ≠ x.id := fun y hy e => by
  have hd := (checkE_zero (ofE_zero (of_take h (k + 1))).1).2.2
  rw [take_snoc' hx, List.map_append, List.nodup_append] at hd
  exact hd.2.2 _ (List.mem_map_of_mem (f := Spec.id) hy) _ (by simp) e
theorem dies_forest {l : List Spec} (h : ofE l = 0) : diesG (ofG (forL l)) = diesG (ofG l) := by
  have h2 := forest_ofE h
  have g1 := of_valid h; have g2 := of_valid h2
  have hm : ∀ d, d ∈ diesG (ofG (forL l)) ↔ d ∈ diesG (ofG l) := fun d => by rw [mem_dies h2, mem_dies h, end_forest]
  have o1 := (graphB_iff _).1 g1; have o2 := (graphB_iff _).1 g2
  have ho : (ofG (forL l)).obv = (ofG l).obv := by
    refine asc_unique id ?_ ?_ fun n => ?_
    · exact ascB_asc o2.ao
    · exact ascB_asc o1.ao
    · have := hm ⟨0, n⟩
      simpa [diesG, g1, g2] using this
  have hr : (ofG (forL l)).rev = (ofG l).rev := by
    refine asc_unique id ?_ ?_ fun n => ?_
    · exact ascB_asc o2.ar
    · exact ascB_asc o1.ar
    · have := hm ⟨1, n⟩
      simpa [diesG, g1, g2] using this
  rw [diesG, diesG, if_pos g1, if_pos g2, ho, hr]
theorem chains_forest {l : List Spec} (h : ofE l = 0) : chainsG (ofG (forL l)) = chainsG (ofG l) := by
  have hj : joinB (edgesG (ofG (forL l))) = joinB (edgesG (ofG l)) := by
    funext a b
    rw [join_of h, join_of (forest_ofE h), join_forest]
  rw [chainsG, chainsG, dies_forest h, hj]
/-- What First says of a good list. -/
theorem first_cases {l : List Spec} (h : ofE l = 0) (a b : Die) :
    (firstR l a b = (0, 7) ∧ joinB (edgesS l) a b = false) ∨
    (∃ k s, l[k]? = some s ∧ firstR l a b = (s.id, 0) ∧ joinB (edgesS l) a b = true ∧ joinB (edgesS (l.take k)) a b = false ∧ joinB (edgesS (l.take (k + 1))) a b = true) := by
  cases hk : firstK l a b with
  | none =>
    refine .inl ⟨by rw [firstR, if_pos h, hk], ?_⟩
    rw [firstK, List.find?_eq_none] at hk
    rcases Nat.eq_zero_or_pos l.length with h0 | h0
    · rw [List.length_eq_zero_iff.1 h0]; exact join_nil a b
    · have := hk (l.length - 1) (List.mem_range.2 (by omega))
      rw [show l.length - 1 + 1 = l.length by omega, List.take_length] at this
      simpa using this
  | some k =>
    have hk0 := hk
    rw [firstK, List.find?_range_eq_some] at hk
    obtain ⟨h1, h2, h3⟩ := hk
    have hkl := List.mem_range.1 h2
    obtain ⟨s, hs⟩ := get_of_lt hkl
    refine .inr ⟨k, s, hs, by rw [firstR, if_pos h, hk0]; simp [hs], ?_, ?_, h1⟩
    · have h4 : JoinE (edgesS (l.take (k + 1))) a b := joinB_iff.1 h1
      have hsub : ∀ e ∈ edgesS (l.take (k + 1)), e ∈ edgesS l := fun e he => by
        unfold edgesS at he ⊢
        obtain ⟨t, ht, rfl⟩ := List.mem_map.1 he
        exact List.mem_map_of_mem (List.mem_of_mem_take ht)
      obtain ⟨⟨e1, m1, q1⟩, ⟨e2, m2, q2⟩, hc⟩ := h4
      exact joinB_iff.2 ⟨⟨e1, hsub _ m1, q1⟩, ⟨e2, hsub _ m2, q2⟩, hc.mono hsub⟩
    · rcases Nat.eq_zero_or_pos k with h0 | h0
      · subst h0; exact join_nil a b
      · have := h3 (k - 1) (by omega)
        rw [show k - 1 + 1 = k by omega] at this
        simpa using this
end Go.Proofs.YtgpbdembjdileaaGreatDoor
/- coinagetop.coin and upTo; package bridge on nets. Condition: the arguments read as such. -/
namespace Go.Proofs.YtgpbdembjdileaaGreatDoor
open Go.RowKit Go.Maps

def coinT (i o r : Int) : Spec := ⟨i, o, r, 1, 1, 0, 1⟩
set_option maxHeartbeats 1000000 in
theorem coinT_ok (i o r : Int) (w : World) : Calls Tryz.prog 22 #[.int .i64 i, .int .i64 o, .int .i64 r] w fun e w' => e = .returned (valS (coinT i o r)) ∧ Below w.heap.size w w' := by
  obtain ⟨W, hW, Hz, hbW, hltW, _⟩ := boxed w #[.int .i64 0, .int .i64 0, .int .i64 0, .int .i64 0, .int .i64 0, .int .i64 0, .int .i64 0] 47
  have hk : W.heap[w.heap.size]? = some (.cells [.int .i64 0, .int .i64 0, .int .i64 0, .int .i64 0, .int .i64 0, .int .i64 0, .int .i64 0].toArray 47 (0, 0)) := by rw [← hW]; exact heap_alloc_new _ _
  obtain ⟨⟨r0, r1, r2, r3, r4, r5, r6⟩, g0, g1, g2, g3, g4, g5, g6⟩ := cellsS hk
  have Hk := Lib.hid hk; clear hk
  go_enter Tryz.func22, Tryz.ntmps22
  go_wp2_with fail
  refine bodyPost_ret (results_cell_row rfl _ _ w.heap.size 47 #[.int .i64 i, .int .i64 o, .int .i64 r, .int .i64 1, .int .i64 1, .int .i64 0, .int .i64 1] (0, 0) _ (by simp) (heap_set7 Hk.out) Tryz.underlying47 rfl (by kernel_rfl)) rfl ⟨rfl, below_set7 hbW (Nat.le_refl _) hbW.size⟩
set_option maxHeartbeats 2000000 in
theorem upTo_ok (A : Option Addr) (c : Nat) (l : List Spec) (k : Nat) (s : Spec) (w : World) (h : Specs w (.slice A l.length c) l) (hs : l[k]? = some s) (hno : ∀ y ∈ l.take k, y.id ≠ s.id) :
    Calls Tryz.prog 16 #[.slice A l.length c, .int .i64 s.id] w fun e w' => e = .returned (.slice A (k + 1) c) ∧ Below w.heap.size w w' := by
  obtain ⟨_, _, e9, hlc, hcm, hc⟩ := h.cells
  cases e9
  have hkl := lt_of_get hs
  have Hs := Lib.hid hs; have Hno := Lib.hid hno
  clear hs hno
  go_enter Tryz.func16, Tryz.ntmps16
  go_wp2_with fail
  go_loopw [5] (fun i wr => ∃ j : Nat, j ≤ k ∧ i = .int .i64 j ∧ Below w.heap.size w wr) (fun i _ => l.length - (intOf i).toNat)
  case atStart => exact ⟨0, Nat.zero_le _, rfl, Below.refl _ _⟩
  case round =>
    obtain ⟨j, hj, rfl, hb⟩ := hrel
    obtain ⟨bo, o, rfl, _, hcb⟩ := hc j (by omega)
    obtain ⟨x, hx⟩ := get_of_lt (show j < l.length by omega)
    have y0 := (hcb wr hb j x hx).1
    have hl1 : (j : Int) < (l.length : Int) := by omega
    have hl0 : (0 : Int) ≤ (j : Int) := by omega
    clear hc hcb
    by_cases hjk : j = k
    · subst hjk
      have e1 := Hs.out
      rw [hx] at e1
      obtain rfl : x = s := Option.some.inj e1
      have d1 : (x.id == x.id) = true := by simp
      have hc1 : (j : Int) + 1 ≤ (c : Int) := by omega
      clear hx
      go_wp2_with fail
      go_ret
      exact ⟨rfl, hb⟩
    · have hjl : j < k := by omega
      have Hne := Lib.hid (Hno.out x (List.mem_of_getElem? (i := j) (by rw [List.getElem?_take, if_pos hjl]; exact hx)))
      have d1 : (x.id == s.id) = false := by simpa using Hne.out
      clear hx
      go_wp2_with fail
      refine ⟨?rel, ?measure⟩
      case rel => exact ⟨j + 1, by omega, by go_num, hb⟩
      case measure => first | (simp [intOf]; done) | (simp [intOf]; omega)
/-- A row of numbers in a block of its own. -/
def RoI (w : World) (b : Nat) (r : List Int) : Prop := w.heap[b]? = some (.cells (r.map (Value.int .i64)).toArray 3 (0, 0))
section
variable {w w' : World} {b : Nat} {r : List Int}
theorem RoI.cell (h : RoI w b r) {k : Nat} {x : Int} (hx : r[k]? = some x) : w.cell? ⟨b, k, none⟩ = some (.int .i64 x) ∧ w.frozen? ⟨b, k, none⟩ = false := by
  refine ⟨?_, heap_free h⟩
  rw [heap_cell h]; simp [hx]
theorem RoI.set (h : RoI w b r) (k : Nat) (x : Int) : RoI (w.setCell ⟨b, k, none⟩ (.int .i64 x)) b (r.set k x) := by
  have := heap_setCell_same w b k _ _ (.int .i64 x) h
  unfold RoI
  rw [this]; simp [List.map_set]
theorem RoI.lt (h : RoI w b r) : b < w.heap.size := heap_lt h
theorem RoI.below (h : RoI w b r) (hb : Below w.heap.size w w') : RoI w' b r := heap_below h hb (heap_lt h)
end
/-- The row of a make whose first numbers are their places. -/
def idF (n j : Nat) : List Int := (List.range n).map fun i => if i < j then (i : Int) else 0
theorem idF_zero (n : Nat) : idF n 0 = List.replicate n 0 := by
  refine List.ext_getElem? fun i => ?_
  rw [idF, List.getElem?_map]
  by_cases hi : i < n
  · rw [List.getElem?_range hi, List.getElem?_replicate, if_pos hi]; rfl
  · rw [List.getElem?_eq_none (by simpa using hi), List.getElem?_eq_none (by simpa using hi)]; rfl
theorem idF_set {n j : Nat} (h : j < n) : (idF n j).set j (j : Int) = idF n (j + 1) := by
  refine List.ext_getElem? fun i => ?_
  rw [List.getElem?_set, idF, idF, List.getElem?_map, List.getElem?_map]
  by_cases hi : i < n
  · rw [List.getElem?_range hi]
    simp only [List.length_map, List.length_range, Option.map_some]
    by_cases e : j = i
    · subst e; rw [if_pos rfl, if_pos h, if_pos (by omega)]
    · rw [if_neg e]
      congr 1
      by_cases h1 : i < j
      · rw [if_pos h1, if_pos (by omega)]
      · rw [if_neg h1, if_neg (by omega)]
  · rw [List.getElem?_eq_none (by simpa using hi), if_neg (by omega)]; rfl
/-- One link: the names of its two ends become one. -/
def renA (a b : Int) (z : Int) : Int := if z = b then a else z
def stepP (U : Nat → Bool) (k : Nat) (e : Pair) (st : List Int × Int) : List Int × Int :=
  if st.1.getD e.a.toNat 0 = st.1.getD e.b.toNat 0 ∨ U k = false then st else (st.1.map (renA (st.1.getD e.a.toNat 0) (st.1.getD e.b.toNat 0)), st.2 - 1)
def partF (U : Nat → Bool) (el : List Pair) (n : Nat) : Nat → List Int × Int
  | 0 => (idF n n, n)
  | k + 1 => match el[k]? with
    | some e => stepP U k e (partF U el n k)
    | none => partF U el n k
theorem partF_succ {U : Nat → Bool} {el : List Pair} {n k : Nat} {e : Pair} (h : el[k]? = some e) : partF U el n (k + 1) = stepP U k e (partF U el n k) := by rw [partF, h]
theorem stepP_at {U : Nat → Bool} {k ea eb : Nat} {r : List Int} {c na nb : Int} (hna : r[ea]? = some na) (hnb : r[eb]? = some nb) :
    stepP U k ⟨(ea : Int), (eb : Int)⟩ (r, c) = if na = nb ∨ U k = false then (r, c) else (r.map (renA na nb), c - 1) := by
  simp [stepP, hna, hnb, List.getD_eq_getElem?_getD]
theorem stepP_len (U : Nat → Bool) (k : Nat) (e : Pair) (st : List Int × Int) : (stepP U k e st).1.length = st.1.length ∧ (stepP U k e st).2 ≤ st.2 ∧ st.2 - 1 ≤ (stepP U k e st).2 := by
  unfold stepP
  split
  · exact ⟨rfl, by omega, by omega⟩
  · exact ⟨by simp, by simp only; omega, by simp only; omega⟩
theorem partF_len (U : Nat → Bool) (el : List Pair) (n : Nat) : ∀ k, (partF U el n k).1.length = n ∧ (partF U el n k).2 ≤ n ∧ (n : Int) - k ≤ (partF U el n k).2
  | 0 => by simp [partF, idF]
  | k + 1 => by
    have ih := partF_len U el n k
    cases h : el[k]? with
    | some e =>
      rw [partF_succ h]
      have := stepP_len U k e (partF U el n k)
      omega
    | none =>
      have e : partF U el n (k + 1) = partF U el n k := by rw [partF, h]
      rw [e]; omega
/-- The inner loop after some places. -/
def renJ (a b : Int) (r : List Int) (j : Nat) : List Int := (r.take j).map (renA a b) ++ r.drop j
theorem renJ_zero (a b : Int) (r : List Int) : renJ a b r 0 = r := by simp [renJ]
theorem renJ_end (a b : Int) (r : List Int) {n : Nat} (h : r.length = n) : renJ a b r n = r.map (renA a b) := by subst h; simp [renJ]
theorem renJ_get {a b : Int} {r : List Int} {j : Nat} {x : Int} (h : r[j]? = some x) : (renJ a b r j)[j]? = some x := by
  have hl := lt_of_get h
  rw [renJ, List.getElem?_append_right (by simp; omega)]
  simp [List.length_take, Nat.min_eq_left (Nat.le_of_lt hl), h]
theorem renJ_snoc {a b : Int} {r : List Int} {j : Nat} {x : Int} (h : r[j]? = some x) : renJ a b r (j + 1) = (renJ a b r j).set j (renA a b x) := by
  have hl := lt_of_get h
  have e1 : r.drop j = x :: r.drop (j + 1) := by
    obtain ⟨h1, h2⟩ := List.getElem?_eq_some_iff.1 h
    rw [List.drop_eq_getElem_cons h1, h2]
  rw [renJ, renJ, take_snoc' h, e1, List.map_append, List.set_append_right _ _ (by simp; omega)]
  simp [List.length_take, Nat.min_eq_left (Nat.le_of_lt hl)]
theorem renJ_same {a b : Int} {r : List Int} {j : Nat} {x : Int} (h : r[j]? = some x) (hx : x ≠ b) : renJ a b r (j + 1) = renJ a b r j := by
  rw [renJ_snoc h, renA, if_neg hx]
  refine List.ext_getElem? fun i => ?_
  have hg := renJ_get (a := a) (b := b) h
  rw [List.getElem?_set]
  by_cases e : j = i
  · subst e; rw [if_pos rfl, if_pos (lt_of_get hg), hg]
  · rw [if_neg e]
set_option maxHeartbeats 8000000 in
set_option maxRecDepth 100000 in
theorem partsA_ok (U : Nat → Bool) (n : Nat) (ids u : Value) (el : List Pair) (w : World) (he : Pairs w u el) (hn : n ≤ 64) (hl : el.length ≤ 64) (hel : ∀ e ∈ el, 0 ≤ e.a ∧ e.a < n ∧ 0 ≤ e.b ∧ e.b < n)
    (hf : ∀ (k : Nat) w', Below w.heap.size w w' → Calls Tryz.prog 70 #[.int .i64 k] w' fun e w'' => e = .returned (.bool (U k)) ∧ Below w'.heap.size w' w'') :
    Calls Tryz.prog 69 #[.agg #[.int .i64 n, ids, u], .func (.func 70) #[] #[]] w fun e w' => ∃ v, e = .returned (.tuple #[v, .int .i64 (partF U el n el.length).2]) ∧ Below w.heap.size w w' := by
  have Hf := Lib.hid hf; have Hel := Lib.hid hel
  clear hf hel
  obtain ⟨A3, c3, rfl, _, _, hec⟩ := he.cells
  obtain ⟨W0, hW0, Hz0, hb0, hlt0, hc0⟩ := boxed w #[.int .i64 n, ids, .slice A3 el.length c3] 93
  have a0 := hc0 0 _ rfl; have a2 := hc0 2 _ rfl
  clear hc0
  have hmk := run_make_row' (P := Tryz.prog) 26 3 (.int .i64 0) 8 Tryz.underlying26 infoI rfl .i64 .i64 n (by omega) (by omega)
  rw [made_zero] at hmk
  obtain ⟨M, hM⟩ : ∃ z, W0.alloc (.cells (Array.replicate n (Value.int .i64 0)) 3) = z := ⟨_, rfl⟩
  have hbM : Below W0.heap.size W0 M := by rw [← hM]; exact (Below.refl _ _).alloc (Nat.le_refl _) _
  have hrow : RoI M W0.heap.size (idF n 0) := by
    rw [idF_zero, ← hM]
    unfold RoI
    simpa using heap_alloc_new W0 (.cells (Array.replicate n (Value.int .i64 0)) 3)
  have hMz := hrow.lt
  have hwM := below_trans hb0 hbM
  have a0 := cell_later hbM a0; have a2 := cell_later hbM a2
  have hn0 : w.heap.size ∉ [W0.heap.size] := by have := Hz0.out; simp; omega
  go_enter Tryz.func69, Tryz.ntmps69
  go_wp2_with fail
  clear hM hmk hW0
  go_loopw [19] (fun jv wr => ∃ j : Nat, j ≤ n ∧ jv = .int .i64 j ∧ RoI wr W0.heap.size (idF n j) ∧ Touch M wr [W0.heap.size]) (fun jv _ => n - (intOf jv).toNat)
  case atStart => exact ⟨0, Nat.zero_le _, rfl, hrow, Touch.refl _ _⟩
  case round =>
    clear hrow
    obtain ⟨j, hj, rfl, hR, hT⟩ := hrel
    by_cases hlt : j < n
    · obtain ⟨p0, p1⟩ := hR.cell (k := j) (x := 0) (by rw [idF, List.getElem?_map, List.getElem?_range hlt]; simp)
      have HR := Lib.hid (hR.set j j)
      rw [idF_set hlt] at HR
      have d0 : decide (j < n) = true := decide_eq_true hlt
      have hl1 : (j : Int) < (n : Int) := by omega
      have hl0 : (0 : Int) ≤ (j : Int) := by omega
      clear hR a0 a2
      go_wp2_with fail
      refine ⟨?rel, ?measure⟩
      case rel => exact ⟨j + 1, by omega, by go_num, HR.out, hT.trans (touch_set rfl (by simp))⟩
      case measure => first | (simp [intOf]; done) | (simp [intOf]; omega)
    · have ej : j = n := by omega
      subst ej
      have a0 := cell_off hT hn0 a0; have a2 := cell_off hT hn0 a2
      have hwr : Below w.heap.size w wr := ((touch_below hwM [W0.heap.size]).trans hT).below (by have := Hz0.out; simp; omega) (Nat.le_refl _)
      go_wp2_with fail
      clear a0 a2 hT
      obtain ⟨wo, hwo⟩ : ∃ z, z = wr := ⟨_, rfl⟩
      subst hwo
      go_loopw [8, 32] (fun cv kv wr => ∃ k : Nat, k ≤ el.length ∧ kv = .int .i64 k ∧ cv = .int .i64 (partF U el j k).2 ∧ RoI wr W0.heap.size (partF U el j k).1 ∧ Below w.heap.size w wr) (fun _ kv _ => el.length - (intOf kv).toNat)
      case atStart => exact ⟨0, Nat.zero_le _, rfl, rfl, hR, hwr⟩
      case round =>
        clear hR hwr
        obtain ⟨k, hk, rfl, rfl, hR, hwr⟩ := hrel
        by_cases hlt2 : k < el.length
        · obtain ⟨bo, o, rfl, _, hcb⟩ := hec k hlt2
          obtain ⟨x, hx⟩ := get_of_lt hlt2
          obtain ⟨y0, y1⟩ := hcb wr hwr k x hx
          obtain ⟨e1, e2, e3, e4⟩ := Hel.out x (List.mem_of_getElem? hx)
          obtain ⟨xa, xb⟩ := x
          obtain ⟨ea, rfl⟩ : ∃ ea : Nat, xa = ea := ⟨xa.toNat, by simp at e1; omega⟩
          obtain ⟨eb, rfl⟩ : ∃ eb : Nat, xb = eb := ⟨xb.toNat, by simp at e3; omega⟩
          simp only at e1 e2 e3 e4 y0 y1
          obtain ⟨V1, V2, hV1, hV2, HzV2, hkV1, hkV2, hbV2, hltV2⟩ := fresh wr [.int .i64 0, .int .i64 0] [.int .i64 ea, .int .i64 eb] 114 rfl
          have hsV2 : (V1.setCell ⟨wr.heap.size, 0, none⟩ (.int .i64 ea)).setCell ⟨wr.heap.size, 1, none⟩ (.int .i64 eb) = V2 := hV2
          clear hV2
          obtain ⟨⟨z0, z1⟩, f0, f1⟩ := cells2 hkV1
          obtain ⟨⟨t0, t1⟩, _⟩ := cells2 hkV2
          have hR2 := hR.below hbV2
          have hw2 := below_trans hwr hbV2
          have hln := partF_len U el j k
          have hsn := partF_succ (U := U) (n := j) hx
          obtain ⟨st, hst⟩ : ∃ st, partF U el j k = st := ⟨_, rfl⟩
          rw [hst] at hR2 hln hsn ⊢
          obtain ⟨r, cn⟩ := st
          simp only at hR2 hln
          obtain ⟨na, hna⟩ := get_of_lt (show ea < r.length by omega)
          obtain ⟨nb, hnb⟩ := get_of_lt (show eb < r.length by omega)
          have P0 := Later.cell_all (hR2.cell hna).1; have P1 := Later.cell_all (hR2.cell hnb).1
          have T0 := Later.cell_all t0; have T1 := Later.cell_all t1
          have hea0 : (0 : Int) ≤ (ea : Int) := by omega
          have heb0 : (0 : Int) ≤ (eb : Int) := by omega
          have hl1 : (k : Int) < (el.length : Int) := by omega
          have hl0 : (0 : Int) ≤ (k : Int) := by omega
          have Hln := Lib.hid hln
          have Hst := Lib.hid hst
          rw [stepP_at hna hnb] at hsn
          have Hsn := Lib.hid hsn
          clear hsn hln hst hna hnb hx hR hec hcb hkV1 hkV2
          go_wp2_with fail
          clear z0 z1 f0 f1 hsV2 hV1 y0 y1
          refine wp_region_later (by kernel_rfl) (by kernel_rfl) ?_
          repeat (go_big_quiet_step (first | fail))
          refine wpQuiet_nil ?_
          intro _ hw'
          obtain ⟨xq, hw''⟩ := hw'
          subst hw''
          have hb3 := xq.h
          generalize xq.to = w3 at hb3 ⊢
          have hw3 := below_trans hw2 hb3
          have hR3 := hR2.below hb3
          clear P0 P1 T0 T1 hR2
          by_cases hab : na = nb
          · have hd : (na == nb) = true := by simpa using hab
            have hs := Hsn.out
            rw [if_pos (.inl hab)] at hs
            have HS := Lib.hid hs
            clear hs hab
            go_wp2_with fail
            refine ⟨?rel, ?measure⟩
            case rel => exact ⟨k + 1, by omega, by go_num, by rw [HS.out], by rw [HS.out]; exact hR3, hw3⟩
            case measure => first | (simp [intOf]; done) | (simp [intOf]; omega)
          · have hd : (na == nb) = false := by simpa using hab
            have Hab := Lib.hid hab
            clear hab
            go_wp2_with fail
            refine (Hf.out k w3 hw3).mono ?_
            rintro e w4 ⟨rfl, hb4⟩
            have hw4 := below_trans hw3 hb4
            have hR4 := hR3.below hb4
            clear hR3
            cases hU : U k
            · have hs := Hsn.out
              rw [if_pos (.inr hU)] at hs
              have HS := Lib.hid hs
              clear hs
              go_wp2_with fail
              refine ⟨?rel, ?measure⟩
              case rel => exact ⟨k + 1, by omega, by go_num, by rw [HS.out], by rw [HS.out]; exact hR4, hw4⟩
              case measure => first | (simp [intOf]; done) | (simp [intOf]; omega)
            · have hs := Hsn.out
              rw [if_neg (by rw [hU]; simp [Hab.out])] at hs
              have HS := Lib.hid hs
              have hcn1 : cn ≤ 64 := by have := Hln.out; omega
              have hcn0 : -64 ≤ cn := by have := Hln.out; omega
              have hrl : r.length = j := Hln.out.1
              have Hrl := Lib.hid hrl
              clear hs hrl
              go_wp2_with fail
              obtain ⟨wp, hwp⟩ : ∃ z, z = w4 := ⟨_, rfl⟩
              subst hwp
              go_loopw [60] (fun iv wr => ∃ i : Nat, i ≤ j ∧ iv = .int .i64 i ∧ RoI wr W0.heap.size (renJ na nb r i) ∧ Touch wp wr [W0.heap.size]) (fun iv _ => j - (intOf iv).toNat)
              case atStart => exact ⟨0, Nat.zero_le _, rfl, by rw [renJ_zero]; exact hR4, Touch.refl _ _⟩
              case round =>
                clear hR4
                obtain ⟨i, hi, rfl, hR5, hT5⟩ := hrel
                by_cases hlt3 : i < j
                · obtain ⟨z, hz⟩ := get_of_lt (show i < r.length by rw [Hrl.out]; exact hlt3)
                  obtain ⟨p0, p1⟩ := hR5.cell (renJ_get hz)
                  have hi1 : (i : Int) < (j : Int) := by omega
                  have hi0 : (0 : Int) ≤ (i : Int) := by omega
                  by_cases hzb : z = nb
                  · have hd2 : (z == nb) = true := by simpa using hzb
                    have HR6 := Lib.hid (hR5.set i (renA na nb z))
                    rw [← renJ_snoc hz, renA, if_pos hzb] at HR6
                    clear hzb hz hR5
                    go_wp2_with fail
                    refine ⟨?rel, ?measure⟩
                    case rel => exact ⟨i + 1, by omega, by go_num, HR6.out, hT5.trans (touch_set rfl (by simp))⟩
                    case measure => first | (simp [intOf]; done) | (simp [intOf]; omega)
                  · have hd2 : (z == nb) = false := by simpa using hzb
                    have HR6 := Lib.hid hR5
                    rw [← renJ_same hz hzb] at HR6
                    clear hzb hz hR5
                    go_wp2_with fail
                    refine ⟨?rel, ?measure⟩
                    case rel => exact ⟨i + 1, by omega, by go_num, HR6.out, hT5⟩
                    case measure => first | (simp [intOf]; done) | (simp [intOf]; omega)
                · have ei : i = j := by omega
                  rw [renJ_end na nb r (by rw [Hrl.out, ei])] at hR5
                  have hw5 : Below w.heap.size w wr := ((touch_below hw4 [W0.heap.size]).trans hT5).below (by have := Hz0.out; simp; omega) (Nat.le_refl _)
                  go_wp2_with fail
                  refine ⟨?rel, ?measure⟩
                  case rel => exact ⟨k + 1, by omega, by go_num, by rw [HS.out], by rw [HS.out]; exact hR5, hw5⟩
                  case measure => first | (simp [intOf]; done) | (simp [intOf]; omega)
        · have ek : k = el.length := by omega
          subst ek
          clear hec hR
          go_wp2_with fail
          exact bodyPost_ret (v := .tuple #[.slice (some ⟨W0.heap.size, 0, none⟩) j j, .int .i64 (partF U el j el.length).2]) (by simp [results, Tryz.results69, go_sem]) rfl ⟨_, rfl, hwr⟩
set_option maxHeartbeats 8000000 in
set_option maxRecDepth 100000 in
theorem partsB_ok (U : Nat → Bool) (n : Nat) (ids u q : Value) (el : List Pair) (w : World) (he : Pairs w u el) (hn : n ≤ 64) (hl : el.length ≤ 64) (hel : ∀ e ∈ el, 0 ≤ e.a ∧ e.a < n ∧ 0 ≤ e.b ∧ e.b < n)
    (hf : ∀ (k : Nat) w', Below w.heap.size w w' → Calls Tryz.prog 71 #[.int .i64 k, q] w' fun e w'' => e = .returned (.bool (U k)) ∧ Below w'.heap.size w' w'') :
    Calls Tryz.prog 69 #[.agg #[.int .i64 n, ids, u], .func (.func 71) #[] #[q]] w fun e w' => ∃ v, e = .returned (.tuple #[v, .int .i64 (partF U el n el.length).2]) ∧ Below w.heap.size w w' := by
  have Hf := Lib.hid hf; have Hel := Lib.hid hel
  clear hf hel
  obtain ⟨A3, c3, rfl, _, _, hec⟩ := he.cells
  obtain ⟨W0, hW0, Hz0, hb0, hlt0, hc0⟩ := boxed w #[.int .i64 n, ids, .slice A3 el.length c3] 93
  have a0 := hc0 0 _ rfl; have a2 := hc0 2 _ rfl
  clear hc0
  have hmk := run_make_row' (P := Tryz.prog) 26 3 (.int .i64 0) 8 Tryz.underlying26 infoI rfl .i64 .i64 n (by omega) (by omega)
  rw [made_zero] at hmk
  obtain ⟨M, hM⟩ : ∃ z, W0.alloc (.cells (Array.replicate n (Value.int .i64 0)) 3) = z := ⟨_, rfl⟩
  have hbM : Below W0.heap.size W0 M := by rw [← hM]; exact (Below.refl _ _).alloc (Nat.le_refl _) _
  have hrow : RoI M W0.heap.size (idF n 0) := by
    rw [idF_zero, ← hM]
    unfold RoI
    simpa using heap_alloc_new W0 (.cells (Array.replicate n (Value.int .i64 0)) 3)
  have hMz := hrow.lt
  have hwM := below_trans hb0 hbM
  have a0 := cell_later hbM a0; have a2 := cell_later hbM a2
  have hn0 : w.heap.size ∉ [W0.heap.size] := by have := Hz0.out; simp; omega
  go_enter Tryz.func69, Tryz.ntmps69
  go_wp2_with fail
  clear hM hmk hW0
  go_loopw [19] (fun jv wr => ∃ j : Nat, j ≤ n ∧ jv = .int .i64 j ∧ RoI wr W0.heap.size (idF n j) ∧ Touch M wr [W0.heap.size]) (fun jv _ => n - (intOf jv).toNat)
  case atStart => exact ⟨0, Nat.zero_le _, rfl, hrow, Touch.refl _ _⟩
  case round =>
    clear hrow
    obtain ⟨j, hj, rfl, hR, hT⟩ := hrel
    by_cases hlt : j < n
    · obtain ⟨p0, p1⟩ := hR.cell (k := j) (x := 0) (by rw [idF, List.getElem?_map, List.getElem?_range hlt]; simp)
      have HR := Lib.hid (hR.set j j)
      rw [idF_set hlt] at HR
      have d0 : decide (j < n) = true := decide_eq_true hlt
      have hl1 : (j : Int) < (n : Int) := by omega
      have hl0 : (0 : Int) ≤ (j : Int) := by omega
      clear hR a0 a2
      go_wp2_with fail
      refine ⟨?rel, ?measure⟩
      case rel => exact ⟨j + 1, by omega, by go_num, HR.out, hT.trans (touch_set rfl (by simp))⟩
      case measure => first | (simp [intOf]; done) | (simp [intOf]; omega)
    · have ej : j = n := by omega
      subst ej
      have a0 := cell_off hT hn0 a0; have a2 := cell_off hT hn0 a2
      have hwr : Below w.heap.size w wr := ((touch_below hwM [W0.heap.size]).trans hT).below (by have := Hz0.out; simp; omega) (Nat.le_refl _)
      go_wp2_with fail
      clear a0 a2 hT
      obtain ⟨wo, hwo⟩ : ∃ z, z = wr := ⟨_, rfl⟩
      subst hwo
      go_loopw [8, 32] (fun cv kv wr => ∃ k : Nat, k ≤ el.length ∧ kv = .int .i64 k ∧ cv = .int .i64 (partF U el j k).2 ∧ RoI wr W0.heap.size (partF U el j k).1 ∧ Below w.heap.size w wr) (fun _ kv _ => el.length - (intOf kv).toNat)
      case atStart => exact ⟨0, Nat.zero_le _, rfl, rfl, hR, hwr⟩
      case round =>
        clear hR hwr
        obtain ⟨k, hk, rfl, rfl, hR, hwr⟩ := hrel
        by_cases hlt2 : k < el.length
        · obtain ⟨bo, o, rfl, _, hcb⟩ := hec k hlt2
          obtain ⟨x, hx⟩ := get_of_lt hlt2
          obtain ⟨y0, y1⟩ := hcb wr hwr k x hx
          obtain ⟨e1, e2, e3, e4⟩ := Hel.out x (List.mem_of_getElem? hx)
          obtain ⟨xa, xb⟩ := x
          obtain ⟨ea, rfl⟩ : ∃ ea : Nat, xa = ea := ⟨xa.toNat, by simp at e1; omega⟩
          obtain ⟨eb, rfl⟩ : ∃ eb : Nat, xb = eb := ⟨xb.toNat, by simp at e3; omega⟩
          simp only at e1 e2 e3 e4 y0 y1
          obtain ⟨V1, V2, hV1, hV2, HzV2, hkV1, hkV2, hbV2, hltV2⟩ := fresh wr [.int .i64 0, .int .i64 0] [.int .i64 ea, .int .i64 eb] 114 rfl
          have hsV2 : (V1.setCell ⟨wr.heap.size, 0, none⟩ (.int .i64 ea)).setCell ⟨wr.heap.size, 1, none⟩ (.int .i64 eb) = V2 := hV2
          clear hV2
          obtain ⟨⟨z0, z1⟩, f0, f1⟩ := cells2 hkV1
          obtain ⟨⟨t0, t1⟩, _⟩ := cells2 hkV2
          have hR2 := hR.below hbV2
          have hw2 := below_trans hwr hbV2
          have hln := partF_len U el j k
          have hsn := partF_succ (U := U) (n := j) hx
          obtain ⟨st, hst⟩ : ∃ st, partF U el j k = st := ⟨_, rfl⟩
          rw [hst] at hR2 hln hsn ⊢
          obtain ⟨r, cn⟩ := st
          simp only at hR2 hln
          obtain ⟨na, hna⟩ := get_of_lt (show ea < r.length by omega)
          obtain ⟨nb, hnb⟩ := get_of_lt (show eb < r.length by omega)
          have P0 := Later.cell_all (hR2.cell hna).1; have P1 := Later.cell_all (hR2.cell hnb).1
          have T0 := Later.cell_all t0; have T1 := Later.cell_all t1
          have hea0 : (0 : Int) ≤ (ea : Int) := by omega
          have heb0 : (0 : Int) ≤ (eb : Int) := by omega
          have hl1 : (k : Int) < (el.length : Int) := by omega
          have hl0 : (0 : Int) ≤ (k : Int) := by omega
          have Hln := Lib.hid hln
          have Hst := Lib.hid hst
          rw [stepP_at hna hnb] at hsn
          have Hsn := Lib.hid hsn
          clear hsn hln hst hna hnb hx hR hec hcb hkV1 hkV2
          go_wp2_with fail
          clear z0 z1 f0 f1 hsV2 hV1 y0 y1
          refine wp_region_later (by kernel_rfl) (by kernel_rfl) ?_
          repeat (go_big_quiet_step (first | fail))
          refine wpQuiet_nil ?_
          intro _ hw'
          obtain ⟨xq, hw''⟩ := hw'
          subst hw''
          have hb3 := xq.h
          generalize xq.to = w3 at hb3 ⊢
          have hw3 := below_trans hw2 hb3
          have hR3 := hR2.below hb3
          clear P0 P1 T0 T1 hR2
          by_cases hab : na = nb
          · have hd : (na == nb) = true := by simpa using hab
            have hs := Hsn.out
            rw [if_pos (.inl hab)] at hs
            have HS := Lib.hid hs
            clear hs hab
            go_wp2_with fail
            refine ⟨?rel, ?measure⟩
            case rel => exact ⟨k + 1, by omega, by go_num, by rw [HS.out], by rw [HS.out]; exact hR3, hw3⟩
            case measure => first | (simp [intOf]; done) | (simp [intOf]; omega)
          · have hd : (na == nb) = false := by simpa using hab
            have Hab := Lib.hid hab
            clear hab
            go_wp2_with fail
            refine (Hf.out k w3 hw3).mono ?_
            rintro e w4 ⟨rfl, hb4⟩
            have hw4 := below_trans hw3 hb4
            have hR4 := hR3.below hb4
            clear hR3
            cases hU : U k
            · have hs := Hsn.out
              rw [if_pos (.inr hU)] at hs
              have HS := Lib.hid hs
              clear hs
              go_wp2_with fail
              refine ⟨?rel, ?measure⟩
              case rel => exact ⟨k + 1, by omega, by go_num, by rw [HS.out], by rw [HS.out]; exact hR4, hw4⟩
              case measure => first | (simp [intOf]; done) | (simp [intOf]; omega)
            · have hs := Hsn.out
              rw [if_neg (by rw [hU]; simp [Hab.out])] at hs
              have HS := Lib.hid hs
              have hcn1 : cn ≤ 64 := by have := Hln.out; omega
              have hcn0 : -64 ≤ cn := by have := Hln.out; omega
              have hrl : r.length = j := Hln.out.1
              have Hrl := Lib.hid hrl
              clear hs hrl
              go_wp2_with fail
              obtain ⟨wp, hwp⟩ : ∃ z, z = w4 := ⟨_, rfl⟩
              subst hwp
              go_loopw [60] (fun iv wr => ∃ i : Nat, i ≤ j ∧ iv = .int .i64 i ∧ RoI wr W0.heap.size (renJ na nb r i) ∧ Touch wp wr [W0.heap.size]) (fun iv _ => j - (intOf iv).toNat)
              case atStart => exact ⟨0, Nat.zero_le _, rfl, by rw [renJ_zero]; exact hR4, Touch.refl _ _⟩
              case round =>
                clear hR4
                obtain ⟨i, hi, rfl, hR5, hT5⟩ := hrel
                by_cases hlt3 : i < j
                · obtain ⟨z, hz⟩ := get_of_lt (show i < r.length by rw [Hrl.out]; exact hlt3)
                  obtain ⟨p0, p1⟩ := hR5.cell (renJ_get hz)
                  have hi1 : (i : Int) < (j : Int) := by omega
                  have hi0 : (0 : Int) ≤ (i : Int) := by omega
                  by_cases hzb : z = nb
                  · have hd2 : (z == nb) = true := by simpa using hzb
                    have HR6 := Lib.hid (hR5.set i (renA na nb z))
                    rw [← renJ_snoc hz, renA, if_pos hzb] at HR6
                    clear hzb hz hR5
                    go_wp2_with fail
                    refine ⟨?rel, ?measure⟩
                    case rel => exact ⟨i + 1, by omega, by go_num, HR6.out, hT5.trans (touch_set rfl (by simp))⟩
                    case measure => first | (simp [intOf]; done) | (simp [intOf]; omega)
                  · have hd2 : (z == nb) = false := by simpa using hzb
                    have HR6 := Lib.hid hR5
                    rw [← renJ_same hz hzb] at HR6
                    clear hzb hz hR5
                    go_wp2_with fail
                    refine ⟨?rel, ?measure⟩
                    case rel => exact ⟨i + 1, by omega, by go_num, HR6.out, hT5⟩
                    case measure => first | (simp [intOf]; done) | (simp [intOf]; omega)
                · have ei : i = j := by omega
                  rw [renJ_end na nb r (by rw [Hrl.out, ei])] at hR5
                  have hw5 : Below w.heap.size w wr := ((touch_below hw4 [W0.heap.size]).trans hT5).below (by have := Hz0.out; simp; omega) (Nat.le_refl _)
                  go_wp2_with fail
                  refine ⟨?rel, ?measure⟩
                  case rel => exact ⟨k + 1, by omega, by go_num, by rw [HS.out], by rw [HS.out]; exact hR5, hw5⟩
                  case measure => first | (simp [intOf]; done) | (simp [intOf]; omega)
        · have ek : k = el.length := by omega
          subst ek
          clear hec hR
          go_wp2_with fail
          exact bodyPost_ret (v := .tuple #[.slice (some ⟨W0.heap.size, 0, none⟩) j j, .int .i64 (partF U el j el.length).2]) (by simp [results, Tryz.results69, go_sem]) rfl ⟨_, rfl, hwr⟩
set_option maxHeartbeats 1000000 in
theorem all_ok (k : Int) (w : World) : Calls Tryz.prog 70 #[.int .i64 k] w fun e w' => e = .returned (.bool true) ∧ Below w.heap.size w w' := by
  go_enter Tryz.func70, Tryz.ntmps70
  go_wp2_with fail
  go_ret
  exact ⟨rfl, Below.refl _ _⟩
set_option maxHeartbeats 1000000 in
theorem but_ok (i k : Nat) (b : Nat) (w : World) (h : w.cell? ⟨b, 0, none⟩ = some (.int .i64 i)) : Calls Tryz.prog 71 #[.int .i64 k, .pointer (some ⟨b, 0, none⟩)] w fun e w' => e = .returned (.bool (decide (k ≠ i))) ∧ Below w.heap.size w w' := by
  go_enter Tryz.func71, Tryz.ntmps71
  go_wp2_with fail
  go_ret
  refine ⟨ret_bool ?_, Below.refl _ _⟩
  rw [Bool.eq_iff_iff]
  simp
  omega
/-- A slice of truth values in a block of its own. -/
def RoB (w : World) (b : Nat) (r : List Bool) : Prop := w.heap[b]? = some (.cells (r.map Value.bool).toArray 4 (0, 0))
section
variable {w w' : World} {b : Nat} {r : List Bool}
theorem RoB.cell (h : RoB w b r) {k : Nat} {x : Bool} (hx : r[k]? = some x) : w.cell? ⟨b, k, none⟩ = some (.bool x) ∧ w.frozen? ⟨b, k, none⟩ = false := by
  refine ⟨?_, heap_free h⟩
  rw [heap_cell h]; simp [hx]
theorem RoB.set (h : RoB w b r) (k : Nat) (x : Bool) : RoB (w.setCell ⟨b, k, none⟩ (.bool x)) b (r.set k x) := by
  have := heap_setCell_same w b k _ _ (.bool x) h
  unfold RoB
  rw [this]; simp [List.map_set]
theorem RoB.lt (h : RoB w b r) : b < w.heap.size := heap_lt h
theorem RoB.below (h : RoB w b r) (hb : Below w.heap.size w w') : RoB w' b r := heap_below h hb (heap_lt h)
end
/-- Whether each link is a bridge; the first k are known. -/
def briF (el : List Pair) (n : Nat) (k : Nat) : List Bool := (List.range el.length).map fun i => decide (i < k) && decide ((partF (fun _ => true) el n el.length).2 < (partF (fun j => decide (j ≠ i)) el n el.length).2)
theorem briF_zero (el : List Pair) (n : Nat) : briF el n 0 = List.replicate el.length false := by
  refine List.ext_getElem? fun i => ?_
  rw [briF, List.getElem?_map]
  by_cases hi : i < el.length
  · rw [List.getElem?_range hi, List.getElem?_replicate, if_pos hi]; simp
  · rw [List.getElem?_eq_none (by simpa using hi), List.getElem?_eq_none (by simpa using hi)]; rfl
theorem briF_get {el : List Pair} {n k i : Nat} (hi : i < el.length) : (briF el n k)[i]? = some (decide (i < k) && decide ((partF (fun _ => true) el n el.length).2 < (partF (fun j => decide (j ≠ i)) el n el.length).2)) := by
  rw [briF, List.getElem?_map, List.getElem?_range hi]; rfl
theorem briF_set {el : List Pair} {n k : Nat} (h : k < el.length) : (briF el n k).set k (decide ((partF (fun _ => true) el n el.length).2 < (partF (fun j => decide (j ≠ k)) el n el.length).2)) = briF el n (k + 1) := by
  refine List.ext_getElem? fun i => ?_
  rw [List.getElem?_set]
  by_cases hi : i < el.length
  · rw [briF_get hi, briF_get hi]
    have hl : (briF el n k).length = el.length := by simp [briF]
    by_cases e : k = i
    · subst e; rw [if_pos rfl, if_pos (by omega)]; simp
    · rw [if_neg e]
      congr 2
      rw [Bool.eq_iff_iff]; simp; omega
  · have hl : ∀ k, (briF el n k).length = el.length := fun k => by simp [briF]
    rw [List.getElem?_eq_none (by rw [hl]; omega), List.getElem?_eq_none (by rw [hl]; omega)]
    split <;> simp
    have := hl k
    omega
end Go.Proofs.YtgpbdembjdileaaGreatDoor
/- Package bridge: bridges on nets. Condition: the net reads as such. -/
namespace Go.Proofs.YtgpbdembjdileaaGreatDoor
open Go.RowKit Go.Maps

theorem infoBo : (Tryz.prog.info? 4).map (fun i => (i.zero, i.size, i.bytes)) = some (some (.bool false), 1, 1) := by kernel_rfl
theorem made_false (n : Nat) : madeCells #[.bool false] n = Array.replicate n (Value.bool false) := by
  apply Array.ext_getElem?
  intro i
  simp only [madeCells, Array.getElem?_map, Array.getElem?_replicate]
  by_cases h : i < n
  · simp [h, Nat.mod_one]
  · simp [h]
set_option maxHeartbeats 8000000 in
set_option maxRecDepth 100000 in
theorem bridges_ok (n : Nat) (ids u : Value) (idl : List Int) (el : List Pair) (w : World) (hi : Ints w ids idl) (hil : idl.length = el.length) (he : Pairs w u el) (hn : n ≤ 64) (hl : el.length ≤ 64) (hel : ∀ e ∈ el, 0 ≤ e.a ∧ e.a < n ∧ 0 ≤ e.b ∧ e.b < n) :
    Calls Tryz.prog 48 #[.agg #[.int .i64 n, ids, u]] w fun e w' => ∃ b, e = .returned (.slice (some ⟨b, 0, none⟩) el.length el.length) ∧ RoB w' b (briF el n el.length) ∧ w.heap.size ≤ b ∧ Below w.heap.size w w' := by
  have Hel := Lib.hid hel
  clear hel
  obtain ⟨A2, c2, rfl, _, _, _⟩ := hi.cells
  rw [hil]
  obtain ⟨A3, c3, rfl, _, _, _⟩ := id he.cells
  obtain ⟨W0, hW0, Hz0, hb0, hlt0, hc0⟩ := boxed w #[.int .i64 n, .slice A2 el.length c2, .slice A3 el.length c3] 93
  have a0 := hc0 0 _ rfl; have a1 := hc0 1 _ rfl; have a2 := hc0 2 _ rfl
  clear hc0 hi hil
  go_enter Tryz.func48, Tryz.ntmps48
  go_wp2_with fail
  refine (partsA_ok (fun _ => true) n _ _ el _ (he.below hb0) hn hl Hel.out (fun k w' _ => all_ok k w')).mono ?_
  rintro e w1 ⟨v, rfl, hb1⟩
  have a0 := cell_later hb1 a0; have a1 := cell_later hb1 a1; have a2 := cell_later hb1 a2
  have hw1 := below_trans hb0 hb1
  have hmk := run_make_row' (P := Tryz.prog) 95 4 (.bool false) 1 Tryz.underlying95 infoBo rfl .i64 .i64 el.length (by omega) (by omega)
  rw [made_false] at hmk
  obtain ⟨M, hM⟩ : ∃ z, w1.alloc (.cells (Array.replicate el.length (Value.bool false)) 4) = z := ⟨_, rfl⟩
  have hbM : Below w1.heap.size w1 M := by rw [← hM]; exact (Below.refl _ _).alloc (Nat.le_refl _) _
  have hrow : RoB M w1.heap.size (briF el n 0) := by
    rw [briF_zero, ← hM]
    unfold RoB
    simpa using heap_alloc_new w1 (.cells (Array.replicate el.length (Value.bool false)) 4)
  have a0 := cell_later hbM a0; have a1 := cell_later hbM a1; have a2 := cell_later hbM a2
  have hwM := below_trans hw1 hbM
  have hn0 : w.heap.size ∉ [w1.heap.size] := by have := hb1.size; simp; omega
  have hw1z := hw1.size
  obtain ⟨T, hT⟩ : ∃ T, (partF (fun _ => true) el n el.length).2 = T := ⟨_, rfl⟩
  have HT := Lib.hid hT
  rw [hT]
  clear hT
  go_wp2_with fail
  clear hM hmk hW0
  go_loopw [20] (fun kv wr => ∃ k : Nat, k ≤ el.length ∧ kv = .int .i64 k ∧ RoB wr w1.heap.size (briF el n k) ∧ Touch M wr [w1.heap.size]) (fun kv _ => el.length - (intOf kv).toNat)
  case atStart => exact ⟨0, Nat.zero_le _, rfl, hrow, Touch.refl _ _⟩
  case round =>
    clear hrow
    obtain ⟨k, hk, rfl, hR, hTT⟩ := hrel
    have hwr : Below w.heap.size w wr := ((touch_below hwM [w1.heap.size]).trans hTT).below (by simpa using hw1z) (Nat.le_refl _)
    have a0 := cell_off hTT hn0 a0; have a1 := cell_off hTT hn0 a1; have a2 := cell_off hTT hn0 a2
    by_cases hlt : k < el.length
    · obtain ⟨V1, V2, hV1, hV2, HzV2, hkV1, hkV2, hbV2, hltV2⟩ := fresh wr [.int .i64 0] [.int .i64 k] 3 rfl
      have hsV2 : V1.setCell ⟨wr.heap.size, 0, none⟩ (.int .i64 k) = V2 := hV2
      clear hV2
      have z0 := heap_cell (i := 0) hkV1; have f0 := heap_free (i := 0) hkV1
      have t0 := heap_cell (i := 0) hkV2
      have a0 := cell_later hbV2 a0; have a1 := cell_later hbV2 a1; have a2 := cell_later hbV2 a2
      have hw2 := below_trans hwr hbV2
      have hR2 := hR.below hbV2
      have hk1 : (k : Int) < (el.length : Int) := by omega
      have hk0 : (0 : Int) ≤ (k : Int) := by omega
      clear hkV1 hkV2 hR
      go_wp2_with fail
      clear z0 f0 hsV2 hV1
      refine (partsB_ok (fun j => decide (j ≠ k)) n _ _ _ el _ (he.below hw2) hn hl Hel.out (fun j w' hb' => but_ok k j _ w' (cell_later hb' t0))).mono ?_
      rintro e w3 ⟨v3, rfl, hb3⟩
      have hR3 := hR2.below hb3
      have t0 := cell_later hb3 t0
      obtain ⟨S, hS⟩ : ∃ S, (partF (fun j => decide (j ≠ k)) el n el.length).2 = S := ⟨_, rfl⟩
      rw [hS]
      obtain ⟨p0, p1⟩ := hR3.cell (briF_get (n := n) (k := k) hlt)
      have HR := Lib.hid (hR3.set k (decide (T < S)))
      rw [show (briF el n k).set k (decide (T < S)) = briF el n (k + 1) by rw [← hS, ← HT.out]; exact briF_set hlt] at HR
      have hTT3 := hTT.trans (touch_below (below_trans hbV2 hb3) [w1.heap.size])
      clear hR2 hR3 hS a0 a1 a2
      go_wp2_with fail
      refine ⟨?rel, ?measure⟩
      case rel => exact ⟨k + 1, by omega, by go_num, HR.out, hTT3.trans (touch_set rfl (by simp))⟩
      case measure => first | (simp [intOf]; done) | (simp [intOf]; omega)
    · have ek : k = el.length := by omega
      clear a0 a1 a2
      go_wp2_with fail
      go_ret
      exact ⟨_, rfl, by rw [ek] at hR; exact hR, hw1z, hwr⟩
end Go.Proofs.YtgpbdembjdileaaGreatDoor
