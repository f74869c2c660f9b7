/- linkage.Matrix. Condition: the argument reads as a graph. -/
import Derived.Test.YtgpbdembjdileaaGreatDoorLinkE
import Derived.Deep.OwnRows
namespace Go.Proofs.YtgpbdembjdileaaGreatDoor
open Go.RowKit Go.Shelf

/-! ### Plain laws -/
theorem place_asc : ∀ {xs : List Int} {x : Int}, xs.Pairwise (· < ·) → x ∈ xs → xs[xs.countP (· < x)]? = some x
  | [], x, _, h => absurd h (by simp)
  | y :: ys, x, hp, h => by
    rw [List.pairwise_cons] at hp
    by_cases e : y = x
    · subst e
      have : (y :: ys).countP (· < y) = 0 := by
        rw [List.countP_eq_zero]
        intro z hz
        rw [List.mem_cons] at hz
        rcases hz with rfl | hz
        · simp
        · have := hp.1 z hz; simp; omega
      rw [this]
      rfl
    · have hx : x ∈ ys := by rw [List.mem_cons] at h; exact h.resolve_left (fun e' => e e'.symm)
      have := hp.1 x hx
      rw [List.countP_cons_of_pos (by simpa using this), List.getElem?_cons_succ]
      exact place_asc hp.2 hx
theorem asc_inj {xs : List Int} (h : xs.Pairwise (· < ·)) {i j : Nat} {x : Int} (hi : xs[i]? = some x) (hj : xs[j]? = some x) : i = j := by
  obtain ⟨h1, e1⟩ := List.getElem?_eq_some_iff.1 hi
  obtain ⟨h2, e2⟩ := List.getElem?_eq_some_iff.1 hj
  rw [List.pairwise_iff_getElem] at h
  rcases Nat.lt_trichotomy i j with hlt | rfl | hlt
  · have := h i j h1 h2 hlt; omega
  · rfl
  · have := h j i h2 h1 hlt; omega
/-- The numbers of links between dies. -/
def countM (ls : List Link) (a b : Int) : Nat := ls.countP fun x => x.obv == a && x.rev == b
def matOf (o r : List Int) (ls : List Link) : List (List Int) := o.map fun a => r.map fun b => (countM ls a b : Int)
def matG (g : Graph) : List (List Int) := if graphB g = true then matOf g.obv g.rev g.links else []
def validE (g : Graph) : Int := if graphB g = true then 0 else 1
theorem matOf_nil (o r : List Int) : matOf o r [] = List.replicate o.length (List.replicate r.length 0) := by
  simp [matOf, countM, List.map_const']
theorem countM_snoc (ls : List Link) (x : Link) (a b : Int) : countM (ls ++ [x]) a b = countM ls a b + (if x.obv = a ∧ x.rev = b then 1 else 0) := by
  unfold countM
  rw [List.countP_append, List.countP_singleton]
  simp
theorem matOf_snoc {o r : List Int} (ho : o.Pairwise (· < ·)) (hr : r.Pairwise (· < ·)) {ls : List Link} {x : Link} {i k : Nat} (hi : o[i]? = some x.obv) (hk : r[k]? = some x.rev) :
    matOf o r (ls ++ [x]) = (matOf o r ls).set i ((r.map fun b => (countM ls x.obv b : Int)).set k ((countM ls x.obv x.rev : Int) + 1)) := by
  apply List.ext_getElem?
  intro p
  unfold matOf
  rw [List.getElem?_map, List.getElem?_set]
  by_cases hp : i = p
  · subst hp
    rw [if_pos rfl, hi, if_pos (by simpa using lt_of_get hi), Option.map_some]
    congr 1
    apply List.ext_getElem?
    intro q
    rw [List.getElem?_map, List.getElem?_set]
    by_cases hq : k = q
    · subst hq
      rw [if_pos rfl, hk, if_pos (by simpa using lt_of_get hk), Option.map_some, countM_snoc, if_pos ⟨rfl, rfl⟩]
      simp
    · rw [if_neg hq, List.getElem?_map]
      cases hb : r[q]? with
      | none => rfl
      | some b =>
        rw [Option.map_some, Option.map_some, countM_snoc, if_neg (fun e => hq (asc_inj hr hk (by rw [hb, e.2])))]
        simp
  · rw [if_neg hp, List.getElem?_map]
    cases ha : o[p]? with
    | none => rfl
    | some a =>
      rw [Option.map_some, Option.map_some]
      congr 1
      apply List.map_congr_left
      intro b _
      rw [countM_snoc, if_neg (fun e => hp (asc_inj ho hi (by rw [ha, e.1])))]
      simp

/-! ### A slice of slices under way -/
def encB (m : Nat) (b : Nat) : List Value := [.slice (some ⟨b, 0, none⟩) m m]
theorem lenB (m b : Nat) : (encB m b).length = 1 := rfl
theorem oneB (m b : Nat) : ∀ u ∈ encB m b, u.oneCell' = true := by simp [encB, Value.oneCell']
theorem infoV : (Tryz.prog.info? 26).map (fun i => (i.zero, i.size, i.bytes)) = some (some (.slice none 0 0), 1, 24) := by kernel_rfl
structure MatSt (B m : Nat) (w : World) (u : Value) (bs : List Nat) (R : List (List Int)) : Prop where
  own : Own (encB m) 1 26 B w u bs
  len : bs.length = R.length
  row : ∀ (i b : Nat) (r : List Int), bs[i]? = some b → R[i]? = some r → B ≤ b ∧ r.length = m ∧ w.heap[b]? = some (.cells (r.map (Value.int .i64)).toArray 3 (0, 0))
  nodup : bs.Nodup
section
variable {B m : Nat} {w w' : World} {u : Value} {bs : List Nat} {R : List (List Int)}
theorem MatSt.below (h : MatSt B m w u bs R) (hb : Below w.heap.size w w') : MatSt B m w' u bs R :=
  ⟨h.own.below hb, h.len, fun i b r h1 h2 => by
    obtain ⟨p1, p2, p3⟩ := h.row i b r h1 h2
    exact ⟨p1, p2, heap_below p3 hb (heap_lt p3)⟩, h.nodup⟩
theorem own_block {α : Type} {enc : α → List Value} {k : Nat} {e t : TypeId} {xs : List α} {b : Nat} {cs : Array Value} (h : Own enc k e B w u xs) (hb : w.heap[b]? = some (.cells cs t (0, 0))) (ht : t ≠ e) : some b ≠ u.ownBlock := by
  rcases h.2 with ⟨rfl, _⟩ | ⟨g, cap, cur, rfl, _, hg, _⟩
  · simp [Value.ownBlock]
  · intro e1
    have : b = g := by simpa [Value.ownBlock] using e1
    subst this
    rw [hb] at hg
    cases hg
    exact ht rfl
theorem MatSt.push {W w2 : World} {v' : Value} {r : List Int} (h : MatSt B m w u bs R) (hW : w.alloc (.cells (r.map (Value.int .i64)).toArray 3) = W) (hB : B ≤ w.heap.size) (hr : r.length = m)
    (hown : Own (encB m) 1 26 B w2 v' (bs ++ [w.heap.size])) (hg : W.grownBy w2 u.ownBlock) : MatSt B m w2 v' (bs ++ [w.heap.size]) (R ++ [r]) := by
  subst hW
  have hlt : ∀ i b, bs[i]? = some b → b < w.heap.size := fun i b hi => by
    obtain ⟨r', hr'⟩ := get_of_lt (show i < R.length by rw [← h.len]; exact lt_of_get hi)
    exact heap_lt (h.row i b r' hi hr').2.2
  refine ⟨hown, by simp [h.len], fun i b r' h1 h2 => ?_, ?_⟩
  · rcases Nat.lt_or_ge i bs.length with hi | hi
    · rw [List.getElem?_append_left hi] at h1
      rw [List.getElem?_append_left (by rw [← h.len]; exact hi)] at h2
      obtain ⟨p1, p2, p3⟩ := h.row i b r' h1 h2
      refine ⟨p1, p2, ?_⟩
      have hb := hlt i b h1
      rw [hg.block b (by simp; omega) (own_block h.own p3 (by decide)), Below.heap_alloc _ _ _ hb]
      exact p3
    · have hi' : i = bs.length := by
        have := lt_of_get h1
        simp at this
        omega
      subst hi'
      rw [List.getElem?_append_right (Nat.le_refl _)] at h1
      rw [h.len, List.getElem?_append_right (Nat.le_refl _)] at h2
      simp at h1 h2
      subst h1; subst h2
      refine ⟨hB, hr, ?_⟩
      rw [hg.block _ (by simp) (fun e => by have := (h.own.lt _ e.symm).2; omega)]
      exact heap_alloc_new _ _
  · rw [List.nodup_append]
    refine ⟨h.nodup, by simp, fun a ha b hb e => ?_⟩
    simp at hb
    subst hb
    obtain ⟨i, hi⟩ := List.mem_iff_getElem?.1 ha
    have := hlt i a hi
    omega
theorem MatSt.rows (h : MatSt B m w u bs R) (hm63 : m ≤ 1048576) : Rows w u R := by
  obtain ⟨A, c, e, h1, h2, h3⟩ := h.own.slOf
  have hm : bs.flatMap (encB m) = bs.map fun b => .slice (some ⟨b, 0, none⟩) m m := by
    have : ∀ l : List Nat, l.flatMap (encB m) = l.map fun b => .slice (some ⟨b, 0, none⟩) m m := fun l => by
      induction l with
      | nil => rfl
      | cons x l ih => rw [List.flatMap_cons, ih]; rfl
    exact this bs
  rw [hm] at h3
  rw [h.len] at e h1 h3
  refine ⟨A, c, _, e, h1, h2, h3, fun i v r hv hr => ?_⟩
  rw [List.getElem?_map] at hv
  obtain ⟨b, hb, rfl⟩ := Option.map_eq_some_iff.1 hv
  obtain ⟨p1, p2, p3⟩ := h.row i b r hb hr
  subst p2
  have hmx : r.length ≤ maxLen := by simp only [maxLen]; omega
  refine ⟨some ⟨b, 0, none⟩, r.length, rfl, Nat.le_refl _, hmx, ?_, fun _ => ⟨b, 0, rfl, heap_lt p3, fun j x hx => ?_⟩⟩
  · rw [flatI]; simp
  · rw [flatI] at hx
    rw [Nat.zero_add, heap_cell p3]
    simpa using hx
theorem MatSt.outer {i b : Nat} (h : MatSt B m w u bs R) (hi : bs[i]? = some b) : ∃ g cap, u = .slice (some ⟨g, 0, none⟩) bs.length cap ∧ bs.length ≤ cap ∧ w.cell? ⟨g, i, none⟩ = some (.slice (some ⟨b, 0, none⟩) m m) := by
  rcases h.own.cases with ⟨_, h0⟩ | ⟨g, cap, rfl, _, _, hcap, _⟩
  · rw [h0] at hi; cases hi
  · refine ⟨g, cap, rfl, hcap, ?_⟩
    have h1 := flat_get (encB m) 1 (lenB m) bs i 0 (by omega)
    rw [hi, Nat.mul_one, Nat.add_zero] at h1
    have := World.ownsRow.cells h.own (g := g) rfl i _ h1
    simpa [Addr.add_lit] using this
theorem MatSt.inc {i b k : Nat} {r : List Int} (h : MatSt B m w u bs R) (hi : bs[i]? = some b) (hr : R[i]? = some r) (x : Int) :
    MatSt B m (w.setCell ⟨b, k, none⟩ (.int .i64 x)) u bs (R.set i (r.set k x)) := by
  obtain ⟨p1, p2, p3⟩ := h.row i b r hi hr
  refine ⟨Own.kept h.own (row := some b) ⟨rfl, rfl, rfl, by simp, fun k _ hk => Below.heap_setCell _ _ _ k (fun e => hk (by rw [e]))⟩ (.inr (own_block h.own p3 (by decide)).symm), by simp [h.len], fun j b' r' h1 h2 => ?_, h.nodup⟩
  by_cases hj : i = j
  · subst hj
    rw [hi] at h1
    cases h1
    rw [List.getElem?_set_self (lt_of_get hr)] at h2
    cases h2
    refine ⟨p1, by simp [p2], ?_⟩
    have := heap_setCell_same w b k _ _ (.int .i64 x) p3
    rw [this]
    simp [List.map_set]
  · rw [List.getElem?_set_ne hj] at h2
    obtain ⟨q1, q2, q3⟩ := h.row j b' r' h1 h2
    refine ⟨q1, q2, ?_⟩
    have hne : b ≠ b' := by
      intro e
      subst e
      have hn := List.pairwise_iff_getElem.1 h.nodup
      obtain ⟨l1, e1⟩ := List.getElem?_eq_some_iff.1 hi
      obtain ⟨l2, e2⟩ := List.getElem?_eq_some_iff.1 h1
      rcases Nat.lt_or_gt_of_ne hj with hlt | hlt
      · exact hn i j l1 l2 hlt (by rw [e1, e2])
      · exact hn j i l2 l1 hlt (by rw [e1, e2])
    rw [heap_setCell_other _ _ _ _ (by simpa using Ne.symm hne)]
    exact q3
end
end Go.Proofs.YtgpbdembjdileaaGreatDoor
/- linkage.Matrix: the walk. Condition: the argument reads as a graph. -/
namespace Go.Proofs.YtgpbdembjdileaaGreatDoor
open Go.RowKit Go.Shelf

theorem made_zero (n : Nat) : madeCells #[.int .i64 0] n = Array.replicate n (Value.int .i64 0) := by
  apply Array.ext_getElem?
  intro i
  simp only [madeCells, Array.getElem?_map, Array.getElem?_replicate]
  by_cases h : i < n
  · simp [h, Nat.mod_one]
  · simp [h]
theorem ret_mat {u : Value} {a b : Int} (h : a = b) : Ending.returned (.tuple #[u, .int .i64 a]) = .returned (.tuple #[u, .int .i64 b]) := by rw [h]

set_option maxHeartbeats 4000000 in
set_option maxRecDepth 100000 in
theorem Matrix_ok (v : Value) (g : Graph) (w : World) (h : GraphAt w v g) :
    Calls Tryz.prog 88 #[v] w fun e w' => ∃ u, e = .returned (.tuple #[u, .int .i64 (validE g)]) ∧ Rows w' u (matG g) ∧ Below w.heap.size w w' := by
  have h0 := h
  obtain ⟨v1, v2, v3, rfl, ho, hr, hl⟩ := h
  obtain ⟨A1, c1, rfl, o1, o2, _⟩ := ho.cells
  obtain ⟨A2, c2, rfl, r1, r2, _⟩ := hr.cells
  obtain ⟨A3, c3, rfl, l1, l2, hcl⟩ := hl.cells
  obtain ⟨W, hW, Hz, hwW, hlt, hc1⟩ := boxed w #[.slice A1 g.obv.length c1, .slice A2 g.rev.length c2, .slice A3 g.links.length c3] 29
  have a0 := hc1 0 _ rfl; have a1 := hc1 1 _ rfl; have a2 := hc1 2 _ rfl
  clear hc1
  go_enter Tryz.func88, Tryz.ntmps88
  go_wp2_with fail
  refine (Valid_ok _ _ _ (h0.below hwW)).mono ?_
  rintro e w1 ⟨rfl, hb1⟩
  clear hW
  have b0 := cell_later hb1 a0; have b1 := cell_later hb1 a1; have b2 := cell_later hb1 a2
  have hw1 := below_trans hwW hb1
  clear a0 a1 a2
  cases hg : graphB g
  · go_wp2_with fail
    go_ret2
    exact ⟨_, ret_mat (by simp [validE, hg]), by simp only [matG, hg]; exact ⟨none, 0, [], rfl, Nat.le_refl _, by simp [maxLen], Sl.nil _ _ _, fun i u xs hu => by simp at hu⟩, hw1⟩
  have hok := (graphB_iff g).1 hg
  have Ho := Lib.hid (ascB_asc hok.ao); have Hr := Lib.hid (ascB_asc hok.ar)
  have Hends := Lib.hid hok.ends
  have hlo := hok.lo; have hlr := hok.lr; have hll := hok.ll
  clear hok
  have hvz : validE g = 0 := by simp [validE, hg]
  have hmz : matG g = matOf g.obv g.rev g.links := by simp [matG, hg]
  have Hvz := Lib.hid hvz; have Hmz := Lib.hid hmz; clear hvz hmz
  have hmk := run_make_row' (P := Tryz.prog) 26 3 (.int .i64 0) 8 Tryz.underlying26 infoI rfl .i64 .i64 g.rev.length (by omega) (by omega)
  rw [made_zero] at hmk
  obtain ⟨iV, hiV, hzV, hkV, hbV⟩ := info_parts infoV
  go_wp2_with fail
  go_loopw [4, 17] (fun u i wr => ∃ (k : Nat) (bs : List Nat), k ≤ g.obv.length ∧ i = .int .i64 k ∧ bs.length = k ∧ MatSt w1.heap.size g.rev.length wr u bs (List.replicate k (List.replicate g.rev.length 0)) ∧ Below w1.heap.size w1 wr) (fun _ i _ => g.obv.length - (intOf i).toNat)
  case atStart => exact ⟨0, [], Nat.zero_le _, rfl, rfl, ⟨own_nil _ _ _ _ _, rfl, fun i b r hb => by simp at hb, List.nodup_nil⟩, Below.refl _ _⟩
  case round =>
    obtain ⟨k, bs, hk, rfl, hbs, hm, hb⟩ := hrel
    by_cases hlt' : k < g.obv.length
    · obtain ⟨W2, hW2⟩ : ∃ W2, wr.alloc (.cells (Array.replicate g.rev.length (Value.int .i64 0)) 3) = W2 := ⟨_, rfl⟩
      have hsz := hb.size
      have hb2 : Below wr.heap.size wr W2 := by rw [← hW2]; exact (Below.refl _ _).alloc (Nat.le_refl _) _
      have hq := hm.own.below hb2
      have hBs : w1.heap.size ≤ W2.heap.size := by have := hb2.size; omega
      have n1 := cell_later (below_trans hb hb2) b1
      have d1 := cell_later hb b1
      have Hm := Lib.hid hm; have Hbs := Lib.hid hbs; clear hm hbs
      have hbl : bs.length ≤ 32 := by have := Hbs.out; omega
      go_wp2_with (at_builtin; refine wpList_append1 (enc := encB g.rev.length) (size := 1) (B := w1.heap.size) rfl (.tmp 19) (.tmp 24) _ rfl 26 iV _ 24 Tryz.underlying117 hiV hzV hkV hbV rfl (by decide) rfl hq wr.heap.size _ rfl (lenB _) (oneB _) _ rfl rfl (by omega) (by omega) hBs ?_; intro v' w2 hown' hgrow hat)
      refine ⟨?rel, ?measure⟩
      case rel => exact ⟨k + 1, bs ++ [wr.heap.size], by omega, by go_num, by simp [Hbs.out], by have := Hm.out.push (r := List.replicate g.rev.length 0) (by rw [← hW2]; simp) hsz (by simp) hown' hgrow; rwa [← List.replicate_succ'] at this, (below_trans hb hb2).trans (below_append hq hgrow hBs)⟩
      case measure => simp [intOf]; omega
    · have hke : k = g.obv.length := by omega
      rw [hke, ← matOf_nil] at hm
      rw [hke] at hbs
      clear hmk hke hiV hzV hkV hbV
      have Hbs := Lib.hid hbs; clear hbs
      have d0 := cell_later hb b0; have d1 := cell_later hb b1; have d2 := cell_later hb b2
      go_wp2_with fail
      go_loopw [30] (fun i wx => ∃ k : Nat, k ≤ g.links.length ∧ i = .int .i64 k ∧ MatSt w1.heap.size g.rev.length wx u4 bs (matOf g.obv g.rev (g.links.take k)) ∧ Below w1.heap.size w1 wx) (fun i _ => g.links.length - (intOf i).toNat)
      case atStart => exact ⟨0, Nat.zero_le _, rfl, by simpa using hm, hb⟩
      case round =>
        clear hm hb d0 d1 d2
        obtain ⟨j, hj, rfl, hm, hb⟩ := hrel
        by_cases hlt2 : j < g.links.length
        · obtain ⟨b, o, rfl, _, hc⟩ := hcl j hlt2
          obtain ⟨x, hx⟩ := get_of_lt hlt2
          obtain ⟨e0, e1, e2⟩ := hc _ (hw1.trans (hb.mono hw1.size)) j x hx
          have hends := List.all_eq_true.1 Hends.out x (List.mem_of_getElem? hx)
          simp only [Bool.and_eq_true] at hends
          rw [hasB_iff, hasB_iff] at hends
          have Hx := Lib.hid hx; clear hx hc
          have hi := place_asc Ho.out hends.1
          have hj2 := place_asc Hr.out hends.2
          obtain ⟨pi, hpi⟩ : ∃ p, g.obv.countP (· < x.obv) = p := ⟨_, rfl⟩
          obtain ⟨pj, hpj⟩ : ∃ p, g.rev.countP (· < x.rev) = p := ⟨_, rfl⟩
          rw [hpi] at hi
          rw [hpj] at hj2
          have si : ∀ W', Below w.heap.size w W' → Calls Tryz.prog 68 #[.slice A1 g.obv.length c1, .int .i64 x.obv] W' fun e w' => e = .returned (.tuple #[.int .i64 (pi : Nat), .bool true]) ∧ Below W'.heap.size W' w' := fun W' hB => by
            have := searchI_ok _ g.obv x.obv W' (ho.below hB) Ho.out (by omega)
            rwa [hpi, (hasB_iff _ _).2 hends.1] at this
          have sj : ∀ W', Below w.heap.size w W' → Calls Tryz.prog 68 #[.slice A2 g.rev.length c2, .int .i64 x.rev] W' fun e w' => e = .returned (.tuple #[.int .i64 (pj : Nat), .bool true]) ∧ Below W'.heap.size W' w' := fun W' hB => by
            have := searchI_ok _ g.rev x.rev W' (hr.below hB) Hr.out (by omega)
            rwa [hpj, (hasB_iff _ _).2 hends.2] at this
          have Si := Lib.hid si; have Sj := Lib.hid sj; clear si sj hpi hpj hends
          obtain ⟨W1, hW1, Hz1, hb2, hlt1, hc1⟩ := boxed wr #[.int .i64 x.id, .int .i64 x.obv, .int .i64 x.rev] 64
          have m1 := hc1 1 _ rfl; have m2 := hc1 2 _ rfl
          clear hc1
          have hbW := below_trans hb hb2
          have d0 := cell_later hbW b0; have d1 := cell_later hbW b1
          go_wp2_with fail
          refine (Si.out _ (hw1.trans (hbW.mono hw1.size))).mono ?_
          rintro e w2 ⟨rfl, hb3⟩
          have m2' := cell_later hb3 m2
          have d1' := cell_later hb3 d1
          clear hW1 m1 m2 d0 d1 e0 e1 e2
          have hbW2 := below_trans hbW hb3
          have hrW2 := below_trans hb2 hb3
          go_wp2_with fail
          refine (Sj.out _ (hw1.trans (hbW2.mono hw1.size))).mono ?_
          rintro e w3 ⟨rfl, hb4⟩
          clear m2' d1'
          have hm3 := hm.below (below_trans hrW2 hb4)
          have hbW3 := below_trans hbW2 hb4
          obtain ⟨b', hb'⟩ := get_of_lt (show pi < bs.length by have := lt_of_get hi; have := Hbs.out; omega)
          have hrow : (matOf g.obv g.rev (g.links.take j))[pi]? = some (g.rev.map fun b => (countM (g.links.take j) x.obv b : Int)) := by
            unfold matOf
            rw [List.getElem?_map, hi]
            rfl
          obtain ⟨gg, cap, rfl, hcap, hcell⟩ := hm3.outer hb'
          obtain ⟨p1, p2, p3⟩ := hm3.row pi b' _ hb' hrow
          have hinc := hm3.inc (k := pj) hb' hrow ((countM (g.links.take j) x.obv x.rev : Int) + 1)
          rw [← matOf_snoc Ho.out Hr.out hi hj2, ← take_snoc' Hx.out] at hinc
          have q0 := heap_cell (i := pj) p3
          have f0 := heap_free (i := pj) p3
          have hq : ((g.rev.map fun b => (countM (g.links.take j) x.obv b : Int)).map (Value.int .i64)).toArray[pj]? = some (.int .i64 (countM (g.links.take j) x.obv x.rev : Int)) := by
            rw [List.getElem?_toArray, List.getElem?_map, List.getElem?_map, hj2]
            rfl
          rw [hq] at q0
          have hcn : countM (g.links.take j) x.obv x.rev ≤ 64 := by
            have := List.countP_le_length (p := fun y : Link => y.obv == x.obv && y.rev == x.rev) (l := g.links.take j)
            unfold countM
            rw [List.length_take] at this
            omega
          obtain ⟨cn, hcne⟩ : ∃ cn, countM (g.links.take j) x.obv x.rev = cn := ⟨_, rfl⟩
          rw [hcne] at q0 hcn hinc
          have Hinc := Lib.hid hinc
          have i1 : (pi : Int) < (bs.length : Int) := by have := lt_of_get hb'; omega
          have i2 : (0 : Int) ≤ (pi : Int) := by omega
          have i3 : (pj : Int) < (g.rev.length : Int) := by have := lt_of_get hj2; omega
          have i4 : (0 : Int) ≤ (pj : Int) := by omega
          clear hcne hq hinc hrow hm3 hm hi hj2 hb' p2 p3
          go_wp2_with fail
          refine ⟨?rel, ?measure⟩
          case rel => exact ⟨j + 1, by omega, by go_num, Hinc.out, hbW3.setCell p1 _⟩
          case measure => simp [intOf]; omega
        · have e1 : g.links.take j = g.links := List.take_of_length_le (by omega)
          rw [e1] at hm
          clear e1
          go_wp2_with fail
          go_ret2
          exact ⟨_, ret_mat Hvz.out.symm, by rw [Hmz.out]; exact hm.rows (by omega), hw1.trans (hb.mono hw1.size)⟩
end Go.Proofs.YtgpbdembjdileaaGreatDoor
