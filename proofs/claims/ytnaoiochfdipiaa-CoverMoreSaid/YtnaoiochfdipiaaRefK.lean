/- The reference of chapter 19: Linked, IsMatching. Condition: the arguments read as a graph and at most 41 pairs. -/
import Derived.Test.YtnaoiochfdipiaaCovG
import Derived.Test.YtnaoiochfdipiaaBase
namespace Go.Proofs.Ytnaoiochfdipiaa
open Go.RowKit Go.Shelf Go.Maps

def linkB (g : Graph) (a b : Int) : Bool := g.links.any fun x => x.obv == a && x.rev == b
theorem linkB_iff {g : Graph} {a b : Int} : linkB g a b = true ↔ linkedP g a b := by
  simp [linkB, linkedP]
theorem linkB_no {g : Graph} {a b : Int} {k : Nat} (hk : ¬ k < g.links.length) (h : ∀ x ∈ g.links.take k, ¬ (x.obv = a ∧ x.rev = b)) : linkB g a b = false := by
  rw [List.take_of_length_le (by omega)] at h
  cases hl : linkB g a b
  · rfl
  · obtain ⟨x, hx, h1, h2⟩ := linkB_iff.1 hl
    exact absurd ⟨h1, h2⟩ (h x hx)
set_option maxHeartbeats 2000000 in
set_option maxRecDepth 100000 in
theorem Linked_ok (g : Graph) (v : Value) (p q : Int) (w : World) (h : GraphAt w v g) :
    Calls Try.prog 43 #[v, .int .i64 p, .int .i64 q] w fun e w' => e = .returned (.bool (linkB g p q)) ∧ Below w.heap.size w w' := by
  obtain ⟨v1, v2, v3, rfl, ho, hr, hk⟩ := h
  obtain ⟨A1, c1, rfl, _, _, _⟩ := ho.cells
  obtain ⟨A2, c2, rfl, _, _, _⟩ := hr.cells
  obtain ⟨A3, c3, rfl, _, _, hck⟩ := hk.cells
  obtain ⟨W, hW, Hz, hwW, hlt0, hc0⟩ := boxed w #[.slice A1 g.obv.length c1, .slice A2 g.rev.length c2, .slice A3 g.links.length c3] 25
  have a0 := hc0 0 _ rfl; have a1 := hc0 1 _ rfl; have a2 := hc0 2 _ rfl
  clear hc0 ho hr hk
  go_enter Try.func43, Try.ntmps43
  go_wp2_with fail
  clear hW
  go_loopw [7] (fun i wr => ∃ k : Nat, k ≤ g.links.length ∧ i = .int .i64 k ∧ Hid (∀ x ∈ g.links.take k, ¬ (x.obv = p ∧ x.rev = q)) ∧ Below W.heap.size W wr) (fun i _ => g.links.length - (intOf i).toNat)
  case atStart => exact ⟨0, Nat.zero_le _, rfl, fun x hx => absurd hx (by simp), Below.refl _ _⟩
  case round =>
    obtain ⟨k, hk, rfl, Hr, hb⟩ := hrel
    have n2 := cell_later hb a2
    by_cases hlt : k < g.links.length
    · obtain ⟨b, o, rfl, _, hcb⟩ := hck k hlt
      obtain ⟨x, hx⟩ := get_of_lt hlt
      obtain ⟨e0, e1, e2⟩ := hcb wr (below_trans hwW hb) k x hx
      have hl1 : (k : Int) < (g.links.length : Int) := by omega
      have hl0 : (0 : Int) ≤ (k : Int) := by omega
      have Hx := Lib.hid hx; clear hx hcb hck
      by_cases h1 : x.obv = p
      · have d1 : (x.obv == p) = true := by simpa using h1
        by_cases h2 : x.rev = q
        · have d2 : (x.rev == q) = true := by simpa using h2
          have Hy : Hid (linkB g p q = true) := Lib.hid (linkB_iff.2 ⟨x, List.mem_of_getElem? Hx.out, h1, h2⟩)
          clear h1 h2
          go_wp2_with fail
          go_ret
          exact ⟨ret_bool Hy.out.symm, below_trans hwW hb⟩
        · have d2 : (x.rev == q) = false := by simpa using h2
          have Hn := Lib.hid (mem_snoc (P := fun x : Link => ¬ (x.obv = p ∧ x.rev = q)) Hx.out Hr.out (fun e => h2 e.2))
          clear h1 h2
          go_wp2_with fail
          refine ⟨?rel, ?measure⟩
          case rel => exact ⟨k + 1, by omega, by go_num, Hn.out, hb⟩
          case measure => first | (simp [intOf]; done) | (simp [intOf]; omega)
      · have d1 : (x.obv == p) = false := by simpa using h1
        have Hn := Lib.hid (mem_snoc (P := fun x : Link => ¬ (x.obv = p ∧ x.rev = q)) Hx.out Hr.out (fun e => h1 e.1))
        clear h1
        go_wp2_with fail
        refine ⟨?rel, ?measure⟩
        case rel => exact ⟨k + 1, by omega, by go_num, Hn.out, hb⟩
        case measure => first | (simp [intOf]; done) | (simp [intOf]; omega)
    · have Hn : Hid (linkB g p q = false) := Lib.hid (linkB_no hlt Hr.out)
      go_wp2_with fail
      go_ret
      exact ⟨ret_bool Hn.out.symm, below_trans hwW hb⟩

/-- A pair of a list that has the right place in a matching. -/
def MatAt (g : Graph) (l : List Pair) (k : Nat) : Prop := ∃ x, l[k]? = some x ∧ linkB g x.a x.b = true ∧ (∀ y, 0 < k → l[k - 1]? = some y → y.a < x.a) ∧ ∀ j < k, ∀ z, l[j]? = some z → z.b ≠ x.b
section
variable {g : Graph} {l : List Pair} {k : Nat} {x : Pair}
theorem matAt_no_link (hx : l[k]? = some x) (h : linkB g x.a x.b = false) : ¬ (graphB g = true ∧ ∀ j < l.length, MatAt g l j) := fun ⟨_, ha⟩ => by
  obtain ⟨d, e, h1, _⟩ := ha k (lt_of_get hx)
  rw [hx] at e; cases e
  rw [h] at h1; cases h1
theorem matAt_no_a {y : Pair} (hx : l[k]? = some x) (hk : 0 < k) (hy : l[k - 1]? = some y) (h : x.a ≤ y.a) : ¬ (graphB g = true ∧ ∀ j < l.length, MatAt g l j) := fun ⟨_, ha⟩ => by
  obtain ⟨d, e, _, h1, _⟩ := ha k (lt_of_get hx)
  rw [hx] at e; cases e
  have := h1 y hk hy
  omega
theorem matAt_no_b {j : Nat} {z : Pair} (hx : l[k]? = some x) (hj : j < k) (hz : l[j]? = some z) (h : z.b = x.b) : ¬ (graphB g = true ∧ ∀ j < l.length, MatAt g l j) := fun ⟨_, ha⟩ => by
  obtain ⟨d, e, _, _, h1⟩ := ha k (lt_of_get hx)
  rw [hx] at e; cases e
  exact h1 j hj z hz h
theorem matAt_snoc (h : ∀ j < k, MatAt g l j) (hk : MatAt g l k) : ∀ j < k + 1, MatAt g l j := fun j hj => by
  by_cases e : j = k
  · rw [e]; exact hk
  · exact h j (by omega)
theorem mem_take_of {α : Type} {l : List α} {i j : Nat} {z : α} (h : l[i]? = some z) (hi : i < j) : z ∈ l.take j := by
  refine List.mem_of_getElem? (i := i) ?_
  rw [List.getElem?_take_of_lt hi]
  exact h
theorem matAll_iff : (∀ j < l.length, MatAt g l j) ↔ IsMat g l := by
  constructor
  · intro h
    refine ⟨fun p hp => ?_, ?_, ?_⟩
    · obtain ⟨i, hi⟩ := List.getElem?_of_mem hp
      obtain ⟨d, e, h1, _⟩ := h i (lt_of_get hi)
      rw [hi] at e; cases e
      exact linkB_iff.1 h1
    · refine pairwise_consec (lt := fun a b : Int => a < b) (fun a b c h k => Int.lt_trans h k) fun j x y hx hy => ?_
      rw [List.getElem?_map] at hx hy
      obtain ⟨p, hp, rfl⟩ := Option.map_eq_some_iff.1 hx
      obtain ⟨q, hq, rfl⟩ := Option.map_eq_some_iff.1 hy
      obtain ⟨d, e, _, h1, _⟩ := h (j + 1) (lt_of_get hq)
      rw [hq] at e; cases e
      exact h1 p (by omega) hp
    · refine List.pairwise_iff_getElem.2 fun i j hi hj hij => ?_
      simp only [List.length_map] at hi hj
      rw [List.getElem_map, List.getElem_map]
      obtain ⟨d, e, _, _, h1⟩ := h j hj
      rw [List.getElem?_eq_getElem hj] at e; cases e
      exact h1 i hij _ (List.getElem?_eq_getElem hi)
  · rintro ⟨h1, h2, h3⟩ k hk
    obtain ⟨x, hx⟩ := get_of_lt hk
    have hxm := List.mem_of_getElem? hx
    refine ⟨x, hx, linkB_iff.2 (h1 x hxm), fun y h0 hy => ?_, fun j hj z hz e => ?_⟩
    · have := List.pairwise_iff_getElem.1 h2 (k - 1) k (by simp; omega) (by simpa using hk) (by omega)
      rw [List.getElem_map, List.getElem_map] at this
      have e1 := (List.getElem?_eq_some_iff.1 hy).2
      have e2 := (List.getElem?_eq_some_iff.1 hx).2
      rw [e1, e2] at this
      exact this
    · have := List.pairwise_iff_getElem.1 h3 j k (by simp; omega) (by simpa using hk) hj
      rw [List.getElem_map, List.getElem_map] at this
      have e1 := (List.getElem?_eq_some_iff.1 hz).2
      have e2 := (List.getElem?_eq_some_iff.1 hx).2
      rw [e1, e2] at this
      exact this e
theorem isMatP_all : IsMatP g l ↔ graphB g = true ∧ ∀ j < l.length, MatAt g l j := by rw [matAll_iff]; exact Iff.rfl
end
set_option maxHeartbeats 8000000 in
set_option maxRecDepth 100000 in
theorem IsMatching_ok19 (g : Graph) (v u : Value) (l : List Pair) (w : World) (h : GraphAt w v g) (hl : Pairs w u l) (hlen : l.length ≤ 41) :
    Calls Try.prog 20 #[v, u] w fun e w' => e = .returned (.bool (isMatB g l)) ∧ Below w.heap.size w w' := by
  have h0 := h
  obtain ⟨v1, v2, v3, rfl, ho, hr, hk⟩ := h
  obtain ⟨A1, c1, rfl, _, _, _⟩ := ho.cells
  obtain ⟨A2, c2, rfl, _, _, _⟩ := hr.cells
  obtain ⟨A3, c3, rfl, _, _, _⟩ := hk.cells
  obtain ⟨A, c, rfl, _, _, hcl⟩ := hl.cells
  obtain ⟨W, hW, Hz, hwW, hlt0, hc0⟩ := boxed w #[.slice A1 g.obv.length c1, .slice A2 g.rev.length c2, .slice A3 g.links.length c3] 25
  have a0 := hc0 0 _ rfl; have a1 := hc0 1 _ rfl; have a2 := hc0 2 _ rfl
  clear hc0 ho hr hk
  have HC := Lib.hid (isMatP_all (g := g) (l := l))
  go_enter Try.func20, Try.ntmps20
  go_wp2_with fail
  refine (Graph_ok _ _ _ (h0.below hwW)).mono ?_
  rintro e w1 ⟨rfl, hb1⟩
  clear hW
  have b0 := cell_later hb1 a0; have b1 := cell_later hb1 a1; have b2 := cell_later hb1 a2
  have hw1 := below_trans hwW hb1
  clear a0 a1 a2
  cases hg : graphB g
  · have HN : Hid (isMatB g l = false) := Lib.hid (isMatB_no fun hp => by have := hp.1; rw [hg] at this; cases this)
    go_wp2_with fail
    go_ret
    exact ⟨ret_bool HN.out.symm, hw1⟩
  have Hg := Lib.hid hg
  clear hg
  go_wp2_with fail
  go_loopw [5] (fun i wr => ∃ k : Nat, k ≤ l.length ∧ i = .int .i64 k ∧ Hid (∀ j < k, MatAt g l j) ∧ Below w1.heap.size w1 wr) (fun i _ => l.length - (intOf i).toNat)
  case atStart => exact ⟨0, Nat.zero_le _, rfl, fun j hj => absurd hj (by omega), Below.refl _ _⟩
  case round =>
    obtain ⟨k, hk, rfl, Hall, hb⟩ := hrel
    have hwr := below_trans hw1 hb
    by_cases hlt : k < l.length
    · obtain ⟨b, o, rfl, _, hcb⟩ := hcl k hlt
      obtain ⟨x, hx⟩ := get_of_lt hlt
      obtain ⟨e0, e1⟩ := hcb wr hwr k x hx
      have m0 := Later.cell_all e0; have m1 := Later.cell_all e1
      have n0 := Later.cell_all (cell_later hb b0); have n1 := Later.cell_all (cell_later hb b1); have n2 := Later.cell_all (cell_later hb b2)
      have hl1 : (k : Int) < (l.length : Int) := by omega
      have hl0 : (0 : Int) ≤ (k : Int) := by omega
      have HL := Lib.hid (fun y : Later wr => Linked_ok g _ x.a x.b y.to (h0.below (below_trans hwr y.h)))
      have Hcb := Lib.hid hcb
      have Hx := Lib.hid hx
      clear e0 e1 hcb hx hcl
      cases hm : linkB g x.a x.b
      · rw [hm] at HL
        have Hno := Lib.hid (matAt_no_link Hx.out hm)
        clear hm
        go_wp2_with fail
        refine wp_region_later (by kernel_rfl) (by kernel_rfl) ?_
        repeat (go_big_quiet_step (first | (go_at_call 43; with_reducible exact calls_later (HL.out _))))
        refine wpQuiet_nil ?_
        intro _ hw'
        obtain ⟨xq, hw''⟩ := hw'
        subst hw''
        have hba := xq.h
        generalize xq.to = wa at hba ⊢
        go_wp2_with fail
        go_ret
        exact ⟨ret_bool (isMatB_no fun hp => Hno.out ((HC.out).1 hp)).symm, below_trans hwr hba⟩
      rw [hm] at HL
      have Hlk := Lib.hid hm
      clear hm
      go_wp2_with fail
      refine wp_region_later (by kernel_rfl) (by kernel_rfl) ?_
      repeat (go_big_quiet_step (first | (go_at_call 43; with_reducible exact calls_later (HL.out _))))
      refine wpQuiet_nil ?_
      intro _ hw'
      obtain ⟨xq, hw''⟩ := hw'
      subst hw''
      have hba := xq.h
      generalize xq.to = wa at hba ⊢
      have hbA := below_trans hb hba
      have hwA := below_trans hwr hba
      clear n0 n1 n2 m0 m1 HL
      by_cases hk0 : 0 < k
      · obtain ⟨y, hy⟩ := get_of_lt (show k - 1 < l.length by omega)
        obtain ⟨f0', f1'⟩ := Hcb.out wa hwA (k - 1) y hy
        obtain ⟨g0', g1'⟩ := Hcb.out wa hwA k x Hx.out
        have f0 := Later.cell_all f0'; have f1 := Later.cell_all f1'
        have g0 := Later.cell_all g0'; have g1 := Later.cell_all g1'
        have d5 : decide ((0 : Int) < (k : Int)) = true := by simp; omega
        by_cases q1 : x.a ≤ y.a
        · have d6 : decide (x.a ≤ y.a) = true := decide_eq_true q1
          have Hno := Lib.hid (matAt_no_a (g := g) Hx.out hk0 hy q1)
          clear q1 hy f0' f1' g0' g1'
          go_wp2_with fail
          refine wp_region_later (by kernel_rfl) (by kernel_rfl) ?_
          repeat (go_big_quiet_step (first | fail))
          refine wpQuiet_nil ?_
          intro _ hw'
          obtain ⟨xq, hw''⟩ := hw'
          subst hw''
          have hbb := xq.h
          generalize xq.to = wb at hbb ⊢
          go_wp2_with fail
          go_ret
          exact ⟨ret_bool (isMatB_no fun hp => Hno.out ((HC.out).1 hp)).symm, below_trans hwA hbb⟩
        · have d6 : decide (x.a ≤ y.a) = false := decide_eq_false q1
          have Hok : Hid ((∀ j < k, ∀ z, l[j]? = some z → z.b ≠ x.b) → MatAt g l k) := Lib.hid fun h => ⟨x, Hx.out, Hlk.out, fun y' _ hy' => by rw [hy] at hy'; cases hy'; omega, h⟩
          clear q1 hy f0' f1' g0' g1'
          go_wp2_with fail
          refine wp_region_later (by kernel_rfl) (by kernel_rfl) ?_
          repeat (go_big_quiet_step (first | fail))
          refine wpQuiet_nil ?_
          intro _ hw'
          obtain ⟨xq, hw''⟩ := hw'
          subst hw''
          have hbb := xq.h
          generalize xq.to = wb at hbb ⊢
          have hbo := below_trans hbA hbb
          have hwo := below_trans hwA hbb
          clear f0 f1 g0 g1
          go_wp2_with fail
          obtain ⟨wo, hwo⟩ : ∃ z, z = wb := ⟨_, rfl⟩
          subst hwo
          go_loopw [6] (fun i wr => ∃ j : Nat, j ≤ k ∧ i = .int .i64 j ∧ Hid (∀ z ∈ l.take j, z.b ≠ x.b) ∧ Below wo.heap.size wo wr) (fun i _ => k - (intOf i).toNat)
          case atStart => exact ⟨0, Nat.zero_le _, rfl, fun z hz => absurd hz (by simp), Below.refl _ _⟩
          case round =>
            obtain ⟨j, hj, rfl, Hz, hbj⟩ := hrel
            have hwj := below_trans hwo hbj
            obtain ⟨g0', g1'⟩ := Hcb.out wr hwj k x Hx.out
            have g0 := Later.cell_all g0'; have g1 := Later.cell_all g1'
            clear g0' g1'
            by_cases hjk : j < k
            · obtain ⟨z, hz⟩ := get_of_lt (show j < l.length by omega)
              obtain ⟨f0', f1'⟩ := Hcb.out wr hwj j z hz
              have f0 := Later.cell_all f0'; have f1 := Later.cell_all f1'
              have d8 : decide (j < k) = true := decide_eq_true hjk
              have d9 : decide ((j : Int) < 40) = true := decide_eq_true (by omega)
              have j0 : (0 : Int) ≤ (j : Int) := by omega
              have j1 : (j : Int) < (l.length : Int) := by omega
              by_cases hzx : z.b = x.b
              · have d7 : (z.b == x.b) = true := by simpa using hzx
                have Hno := Lib.hid (matAt_no_b (g := g) Hx.out hjk hz hzx)
                clear hz hzx f0' f1'
                go_wp2_with fail
                refine wp_region_later (by kernel_rfl) (by kernel_rfl) ?_
                repeat (go_big_quiet_step (first | fail))
                refine wpQuiet_nil ?_
                intro _ hw'
                obtain ⟨xq, hw''⟩ := hw'
                subst hw''
                have hbc := xq.h
                generalize xq.to = wc at hbc ⊢
                go_wp2_with fail
                go_ret
                exact ⟨ret_bool (isMatB_no fun hp => Hno.out ((HC.out).1 hp)).symm, below_trans hwj hbc⟩
              · have d7 : (z.b == x.b) = false := by simpa using hzx
                have Hz' := Lib.hid (mem_snoc (P := fun z : Pair => z.b ≠ x.b) hz Hz.out hzx)
                clear hz hzx f0' f1'
                go_wp2_with fail
                refine wp_region_later (by kernel_rfl) (by kernel_rfl) ?_
                repeat (go_big_quiet_step (first | fail))
                refine wpQuiet_nil ?_
                intro _ hw'
                obtain ⟨xq, hw''⟩ := hw'
                subst hw''
                have hbc := xq.h
                generalize xq.to = wc at hbc ⊢
                go_wp2_with fail
                refine ⟨?rel, ?measure⟩
                case rel => exact ⟨j + 1, by omega, by go_num, Hz'.out, below_trans hbj hbc⟩
                case measure => first | (simp [intOf]; done) | (simp [intOf]; omega)
            · have d8 : decide (j < k) = false := decide_eq_false hjk
              have Hok' := Lib.hid (Hok.out fun i hi z hz => Hz.out z (by have : j = k := by omega
                                                                          subst this; exact mem_take_of hz hi))
              clear g0 g1
              go_wp2_with fail
              refine ⟨?rel, ?measure⟩
              case rel => exact ⟨k + 1, by omega, by go_num, matAt_snoc Hall.out Hok'.out, below_trans hbo hbj⟩
              case measure => first | (simp [intOf]; done) | (simp [intOf]; omega)
      · have d5 : decide ((0 : Int) < (k : Int)) = false := by simp; omega
        have Hok : Hid ((∀ j < k, ∀ z, l[j]? = some z → z.b ≠ x.b) → MatAt g l k) := Lib.hid fun h => ⟨x, Hx.out, Hlk.out, fun y' h0 _ => absurd h0 hk0, h⟩
        go_wp2_with fail
        refine wp_region_later (by kernel_rfl) (by kernel_rfl) ?_
        repeat (go_big_quiet_step (first | fail))
        refine wpQuiet_nil ?_
        intro _ hw'
        obtain ⟨xq, hw''⟩ := hw'
        subst hw''
        have hbb := xq.h
        generalize xq.to = wb at hbb ⊢
        have hbo := below_trans hbA hbb
        have hwo := below_trans hwA hbb
        clear hk0 d5
        go_wp2_with fail
        obtain ⟨wo, hwo⟩ : ∃ z, z = wb := ⟨_, rfl⟩
        subst hwo
        go_loopw [6] (fun i wr => ∃ j : Nat, j ≤ k ∧ i = .int .i64 j ∧ Hid (∀ z ∈ l.take j, z.b ≠ x.b) ∧ Below wo.heap.size wo wr) (fun i _ => k - (intOf i).toNat)
        case atStart => exact ⟨0, Nat.zero_le _, rfl, fun z hz => absurd hz (by simp), Below.refl _ _⟩
        case round =>
          obtain ⟨j, hj, rfl, Hz, hbj⟩ := hrel
          have hwj := below_trans hwo hbj
          obtain ⟨g0', g1'⟩ := Hcb.out wr hwj k x Hx.out
          have g0 := Later.cell_all g0'; have g1 := Later.cell_all g1'
          clear g0' g1'
          by_cases hjk : j < k
          · obtain ⟨z, hz⟩ := get_of_lt (show j < l.length by omega)
            obtain ⟨f0', f1'⟩ := Hcb.out wr hwj j z hz
            have f0 := Later.cell_all f0'; have f1 := Later.cell_all f1'
            have d8 : decide (j < k) = true := decide_eq_true hjk
            have d9 : decide ((j : Int) < 40) = true := decide_eq_true (by omega)
            have j0 : (0 : Int) ≤ (j : Int) := by omega
            have j1 : (j : Int) < (l.length : Int) := by omega
            by_cases hzx : z.b = x.b
            · have d7 : (z.b == x.b) = true := by simpa using hzx
              have Hno := Lib.hid (matAt_no_b (g := g) Hx.out hjk hz hzx)
              clear hz hzx f0' f1'
              go_wp2_with fail
              refine wp_region_later (by kernel_rfl) (by kernel_rfl) ?_
              repeat (go_big_quiet_step (first | fail))
              refine wpQuiet_nil ?_
              intro _ hw'
              obtain ⟨xq, hw''⟩ := hw'
              subst hw''
              have hbc := xq.h
              generalize xq.to = wc at hbc ⊢
              go_wp2_with fail
              go_ret
              exact ⟨ret_bool (isMatB_no fun hp => Hno.out ((HC.out).1 hp)).symm, below_trans hwj hbc⟩
            · have d7 : (z.b == x.b) = false := by simpa using hzx
              have Hz' := Lib.hid (mem_snoc (P := fun z : Pair => z.b ≠ x.b) hz Hz.out hzx)
              clear hz hzx f0' f1'
              go_wp2_with fail
              refine wp_region_later (by kernel_rfl) (by kernel_rfl) ?_
              repeat (go_big_quiet_step (first | fail))
              refine wpQuiet_nil ?_
              intro _ hw'
              obtain ⟨xq, hw''⟩ := hw'
              subst hw''
              have hbc := xq.h
              generalize xq.to = wc at hbc ⊢
              go_wp2_with fail
              refine ⟨?rel, ?measure⟩
              case rel => exact ⟨j + 1, by omega, by go_num, Hz'.out, below_trans hbj hbc⟩
              case measure => first | (simp [intOf]; done) | (simp [intOf]; omega)
          · have d8 : decide (j < k) = false := decide_eq_false hjk
            have Hok' := Lib.hid (Hok.out fun i hi z hz => Hz.out z (by have : j = k := by omega
                                                                        subst this; exact mem_take_of hz hi))
            clear g0 g1
            go_wp2_with fail
            refine ⟨?rel, ?measure⟩
            case rel => exact ⟨k + 1, by omega, by go_num, matAt_snoc Hall.out Hok'.out, below_trans hbo hbj⟩
            case measure => first | (simp [intOf]; done) | (simp [intOf]; omega)
    · have HY : Hid (isMatB g l = true) := Lib.hid (isMatB_yes (HC.out.2 ⟨Hg.out, fun j hj => Hall.out j (by omega)⟩))
      go_wp2_with fail
      go_ret
      exact ⟨ret_bool HY.out.symm, hwr⟩
end Go.Proofs.Ytnaoiochfdipiaa
