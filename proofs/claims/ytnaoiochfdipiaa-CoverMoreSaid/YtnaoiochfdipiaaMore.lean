/- CoverMore. No condition. -/
import Derived.Test.YtnaoiochfdipiaaAwk
import Derived.Test.YtnaoiochfdipiaaMoreP
import Derived.Test.YtnaoiochfdipiaaMirr
import Derived.Test.YtnaoiochfdipiaaRefT
import Derived.Test.YtnaoiochfdipiaaOpenW
import Derived.Test.YtnaoiochfdipiaaRows
import Derived.Deep.DeepCutAuto
import Derived.IntWalk
namespace Go.Proofs.Ytnaoiochfdipiaa
open Go.RowKit Go.Shelf Go.ChangeShapes Go.WideShapes Go.ChangeAt

theorem tmod_facts (a : Int) (n : Nat) (hn : 0 < n) : -(n : Int) < a.tmod n ∧ a.tmod n < n := by
  rcases Int.le_total 0 a with h | h
  · have h1 := Int.tmod_nonneg (n : Int) h
    have h2 := Int.tmod_lt_of_pos a (show (0 : Int) < n by omega)
    omega
  · have h1 := Int.tmod_nonneg (n : Int) (show 0 ≤ -a by omega)
    have h2 := Int.tmod_lt_of_pos (-a) (show (0 : Int) < n by omega)
    rw [Int.neg_tmod] at h1 h2
    omega
set_option maxHeartbeats 1000000 in
theorem Mod_ok (a : Int) (n : Nat) (w : World) (ha : wfI a) (hn : 0 < n) (hm : n ≤ 1000) :
    Calls Try.prog 16 #[.int .i64 a, .int .i64 n] w fun e w' => (∃ r : Nat, r < n ∧ e = .returned (.int .i64 r)) ∧ w = w' := by
  have h1 : (n : Int) ≠ 0 := by omega
  have h0 : ((n : Int) == 0) = false := by simpa using h1
  obtain ⟨a1, a2⟩ := bounds_i64 ha
  have t1 := tmod_facts a n hn
  obtain ⟨r, hr⟩ : ∃ r, a.tmod (n : Int) = r := ⟨_, rfl⟩
  rw [hr] at t1
  obtain ⟨t1, t2⟩ := t1
  have hw : IntKind.i64.wrap (a.tmod n) = r := by rw [hr]; exact IntWalk.i64_in _ (by omega)
  by_cases hneg : r < 0
  · obtain ⟨m, hm'⟩ : ∃ m : Nat, r + n = m := ⟨(r + n).toNat, by omega⟩
    have Hm := Lib.hid hm'; clear hm'
    go_enter Try.func16, Try.ntmps16
    go_wp2_with fail
    go_ret
    have := Hm.out
    exact ⟨⟨m, by omega, ret_i64 this⟩, rfl⟩
  · obtain ⟨m, hm'⟩ : ∃ m : Nat, r = m := ⟨r.toNat, by omega⟩
    have Hm := Lib.hid hm'; clear hm'
    go_enter Try.func16, Try.ntmps16
    go_wp2_with fail
    go_ret
    have := Hm.out
    exact ⟨⟨m, by omega, ret_i64 this⟩, rfl⟩
theorem Links.at {w : World} {A : Option Addr} {n c : Nat} {xs : List Link} (h : Links w (.slice A n c) xs) {k : Nat} (hk : k < xs.length) : ∃ b o, A = some ⟨b, o, none⟩ ∧ b < w.heap.size ∧ ∀ x, xs[k]? = some x →
    w.cell? ⟨b, o + k * 3, none⟩ = some (.int .i64 x.id) ∧ w.cell? ⟨b, o + k * 3 + 1, none⟩ = some (.int .i64 x.obv) ∧ w.cell? ⟨b, o + k * 3 + 2, none⟩ = some (.int .i64 x.rev) := by
  obtain ⟨A', c', e, _, _, hc⟩ := h.cells
  injection e with e1 _ _
  subst e1
  obtain ⟨b, o, e, hb, hcb⟩ := hc k hk
  exact ⟨b, o, e, hb, fun x hx => hcb w (Below.refl _ _) k x hx⟩
section
variable {f : Link → Int} {l : List Link} {k : Nat} {y : Link} {v : Int} {bb : Bool}
theorem alone_false (h : false = (bb && (l.take k).all fun y => !(f y == v))) : false = (bb && (l.take (k + 1)).all fun y => !(f y == v)) := by
  cases bb
  · rfl
  · simp only [Bool.true_and] at h ⊢
    rw [List.take_add_one, List.all_append, ← h]; rfl
theorem alone_no (hy : l[k]? = some y) (hv : f y = v) (_ : true = (bb && (l.take k).all fun y => !(f y == v))) : false = (bb && (l.take (k + 1)).all fun y => !(f y == v)) := by
  rw [take_snoc' hy, List.all_append]
  simp [hv]
theorem alone_yes (hy : l[k]? = some y) (hv : f y ≠ v) (h : true = (bb && (l.take k).all fun y => !(f y == v))) : true = (bb && (l.take (k + 1)).all fun y => !(f y == v)) := by
  have h' := h.symm
  rw [Bool.and_eq_true] at h'
  rw [take_snoc' hy, List.all_append, h'.1, h'.2]
  simp [hv]
end
theorem own_next {v v' : Value} {gl n : Nat} (h : ∀ c, v.ownBlock = some c → c ≠ gl) (ha : v'.ownBlock = v.ownBlock ∨ v'.ownBlock = some n) (hn : gl < n) : ∀ c, v'.ownBlock = some c → c ≠ gl := fun c hc => by
  rcases ha with e | e
  · rw [e] at hc; exact h c hc
  · rw [e] at hc; have := Option.some.inj hc; omega
theorem gl_kept {w w' : World} {v : Value} {gl : Nat} {ob : Obj} (hg : w.grownBy w' v.ownBlock) (hb : w.heap[gl]? = some ob) (hn : ∀ c, v.ownBlock = some c → c ≠ gl) : w'.heap[gl]? = some ob :=
  (hg.block gl (Array.getElem?_eq_some_iff.1 hb).1 (fun e => hn gl e.symm rfl)).trans hb
theorem slOf_off {α : Type} {enc : α → List Value} {k : Nat} {w w' : World} {v : Value} {xs : List α} {S : List Nat} (h : SlOf enc k w v xs) (ht : Touch w w' S) (hS : ∀ j, v.ownBlock = some j → j ∉ S) : SlOf enc k w' v xs := by
  obtain ⟨A, c, rfl, h1, h2, h3, h4⟩ := h
  refine ⟨A, c, rfl, h1, h2, h3, fun hn => ?_⟩
  obtain ⟨b, o, rfl, hb, hc⟩ := h4 hn
  exact ⟨b, o, rfl, Nat.lt_of_lt_of_le hb ht.size, fun j u hu => cell_off ht (hS b rfl) (hc j u hu)⟩
/-- The graph without the link, while it is made. -/
structure LessAt (W wc : World) (s : Value) (rest : List Link) : Prop where
  ex : ∃ gl A c, s = .pointer (some ⟨gl, 0, none⟩) ∧ wc.heap[gl]? = some (.cells #[.slice none 0 0, .slice none 0 0, .slice A rest.length c] 25 (0, 0)) ∧ OwnL W.heap.size wc (.slice A rest.length c) rest ∧ (∀ j, Value.ownBlock (.slice A rest.length c) = some j → j ≠ gl) ∧ Below W.heap.size W wc ∧ W.heap.size ≤ gl
theorem own_m {B : Nat} {w : World} {v : Value} {xs ys : List Link} {m : Nat} (h : OwnL B w v xs) (hx : xs = ys) (hm : ys.length = m) : ∃ A c, v = .slice A m c ∧ OwnL B w (.slice A m c) ys := by
  subst hx; subst hm
  obtain ⟨A, c, e, _⟩ := h.slOf
  exact ⟨A, c, e, by rw [← e]; exact h⟩
theorem less_end {W wa w5 : World} {gl : Nat} {v : Value} {rest : List Link} (hWa : Below W.heap.size W wa) (hb : Below wa.heap.size wa w5) (hg : w5.heap[gl]? = some (.cells #[.slice none 0 0, .slice none 0 0, .slice none 0 0] 25 (0, 0))) (hz : wa.heap.size ≤ gl) 
    (ho : OwnL wa.heap.size w5 v rest) (hn : ∀ c, v.ownBlock = some c → c ≠ gl) {x y : Value} (hx : x = .slice none 0 0) (hy : y = .slice none 0 0) : LessAt W (((w5.setCell ⟨gl, 0, none⟩ x).setCell ⟨gl, 1, none⟩ y).setCell ⟨gl, 2, none⟩ v) (.pointer (some ⟨gl, 0, none⟩)) rest := by
  subst hx; subst hy
  have hgr := setCells_grown gl [.slice none 0 0, .slice none 0 0, v] w5 0
  change w5.grownBy (((w5.setCell ⟨gl, 0, none⟩ (.slice none 0 0)).setCell ⟨gl, 1, none⟩ (.slice none 0 0)).setCell ⟨gl, 2, none⟩ v) (some gl) at hgr
  have hset := heap_set3 (x := .slice none 0 0) (y := .slice none 0 0) (z := v) hg
  have hbW : Below W.heap.size W w5 := hWa.trans (hb.mono hWa.size)
  have ho2 := ho.kept hgr (by
    cases h : v.ownBlock with
    | none => exact .inl rfl
    | some c => exact .inr fun e => hn c h (Option.some.inj e))
  obtain ⟨A, c, rfl, _⟩ := ho.slOf
  exact ⟨gl, A, c, rfl, hset, ho2.base hWa.size, hn, hbW.grown hgr hbW.size (fun j e => by cases e; exact Nat.le_trans hWa.size hz), Nat.le_trans hWa.size hz⟩
set_option maxHeartbeats 32000000 in
set_option maxRecDepth 100000 in
theorem more_walk (v : Value) (g : Graph) (n1 : Int) (w : World) (h : GraphAt w v g) (wo : ∀ x ∈ g.obv, wfI x) (wr0 : ∀ x ∈ g.rev, wfI x) (wn : wfI n1) :
    Calls Try.prog 4 #[v, .int .i64 n1] w fun e w' => e = .returned (.bool true) ∧ Below w.heap.size w w' := by
  have h0 := h
  obtain ⟨v1, v2, v3, rfl, ho, hr, hk⟩ := h
  obtain ⟨A1, c1, rfl, _, _, hco⟩ := ho.cells
  obtain ⟨A2, c2, rfl, _, _, hcr⟩ := hr.cells
  obtain ⟨A3, c3, rfl, _, _, hck⟩ := hk.cells
  obtain ⟨W, hW, Hz, hwW, hlt0, hc0⟩ := boxed w #[.slice A1 g.obv.length c1, .slice A2 g.rev.length c2, .slice A3 g.links.length c3] 25
  have a0 := hc0 0 _ rfl; have a1 := hc0 1 _ rfl; have a2 := hc0 2 _ rfl
  clear hc0
  go_enter Try.func4, Try.ntmps4
  go_wp2_with fail
  refine (wake_ok _).mono ?_
  rintro e w1 ⟨rfl, hb1⟩
  clear hW
  have a0' := cell_later hb1 a0; have a1' := cell_later hb1 a1; have a2' := cell_later hb1 a2
  have hw1 := below_trans hwW hb1
  clear a0 a1 a2
  have hF := few19_ok _ _ w1 (h0.below hw1)
  cases hf : few19B g
  · rw [hf] at hF
    have HF := Lib.hid hF; clear hF hf
    go_wp2_with fail
    refine HF.out.mono ?_
    rintro e w2 ⟨rfl, hb2⟩
    go_wp2_with fail
    refine (wake_ok _).mono ?_
    rintro e w3 ⟨rfl, hb3⟩
    go_wp2_with fail
    go_ret
    exact ⟨rfl, below_trans hw1 (below_trans hb2 hb3)⟩
  rw [hf] at hF
  have HF := Lib.hid hF; have Hf := Lib.hid hf; clear hF hf
  go_wp2_with fail
  refine HF.out.mono ?_
  rintro e w2 ⟨rfl, hb2⟩
  have a0 := cell_later hb2 a0'; have a1 := cell_later hb2 a1'; have a2 := cell_later hb2 a2'
  have hw2 := below_trans hw1 hb2
  clear a0' a1' a2' HF hb1 hb2 hlt0
  have hwf : WfG g := ⟨wo, wr0⟩
  go_wp2_with fail
  refine (Graph_ok _ _ _ (h0.below hw2)).mono ?_
  rintro e w3 ⟨rfl, hb3⟩
  have hw3 := below_trans hw2 hb3
  replace a0 := cell_later hb3 a0; replace a1 := cell_later hb3 a1; replace a2 := cell_later hb3 a2
  cases hg : graphB g
  · go_wp2_with fail
    refine (wake_ok _).mono ?_
    rintro e w4 ⟨rfl, hb4⟩
    go_wp2_with fail
    go_ret
    exact ⟨rfl, below_trans hw3 hb4⟩
  have Hg := Lib.hid hg
  have hll := ((graphB_iff g).1 hg).ll
  have hlo := ((graphB_iff g).1 hg).lo
  have hlr := ((graphB_iff g).1 hg).lr
  clear hg
  by_cases hl0 : g.links.length = 0
  · have d1 : ((g.links.length : Int) == 0) = true := by simp [hl0]
    clear hl0
    go_wp2_with fail
    refine (wake_ok _).mono ?_
    rintro e w4 ⟨rfl, hb4⟩
    go_wp2_with fail
    go_ret
    exact ⟨rfl, below_trans hw3 hb4⟩
  have d1 : ((g.links.length : Int) == 0) = false := by simpa using hl0
  have hlp : 0 < g.links.length := by omega
  clear hl0
  go_wp2_with fail
  refine (Mod_ok n1 g.links.length w3 wn hlp (by omega)).mono ?_
  rintro e w' ⟨⟨k, hkk, rfl⟩, rfl⟩
  obtain ⟨b, o, rfl, hbb, hcb⟩ := hck k hkk
  obtain ⟨x, hx⟩ := get_of_lt hkk
  obtain ⟨e0, e1, e2⟩ := hcb _ hw3 k x hx
  have hl1 : (k : Int) < (g.links.length : Int) := by omega
  have hl2 : (0 : Int) ≤ (k : Int) := by omega
  obtain ⟨w4, hW4, Hz4, hb4, hlt4, hc4⟩ := boxed w3 #[.int .i64 x.id, .int .i64 x.obv, .int .i64 x.rev] 32
  have x1 := hc4 1 _ rfl; have x2 := hc4 2 _ rfl
  have Hx := Lib.hid hx
  have hw4 := below_trans hw3 hb4
  have hsl := SlOf.sl hk
  have hlc : g.links.length ≤ c3 := by omega
  obtain ⟨iL, hiL, hzL, hkL, hbL⟩ := info_parts infoL
  obtain ⟨iI, hiI, hzI, hkI, hbI⟩ := info_parts infoI
  clear hcb hx hck hc4 d1
  go_wp2_with fail
  clear e0 e1 e2
  replace a0 := cell_later hb4 a0; replace a1 := cell_later hb4 a1; replace a2 := cell_later hb4 a2
  go_cut [6] (fun s6 wc => LessAt w4 wc s6 (restL g k))
  case first =>
    clear hW4 x1 x2 a0 a1
    have hsl1 : Sl w 3 (some ⟨b, o, none⟩) (g.links.take k).length ((g.links.take k).flatMap encL) := by rw [flat_take encL 3 lenL, List.length_take, Nat.min_eq_left (by omega)]; exact hsl.take (by omega)
    have hba0 : Below w4.heap.size w4 w4.drew := (Below.refl _ _).drew
    obtain ⟨wa, hwa⟩ : ∃ W, w4.drew = W := ⟨_, rfl⟩
    rw [hwa] at hba0
    have hw4a := below_trans hw4 hba0
    have bwa : Below wa.heap.size wa wa := Below.refl _ _
    have Fc := Lib.hid (fun (w' : World) (hS : Below wa.heap.size wa w') => cell_later hS (cell_later hba0 a2))
    have hHeld := bwa
    have hk1 : ((k : Int) + 1) ≤ (g.links.length : Int) := by omega
    have hk2 : ((k : Int) + 1) ≤ (c3 : Int) := by omega
    have hk3 : (0 : Int) ≤ (k : Int) + 1 := by omega
    have hk4 : (g.links.length : Int) ≤ (c3 : Int) := by omega
    have hk5 : (k : Int) ≤ (c3 : Int) := by omega
    have hk6 : ¬ c3 = k := by omega
    have hk7 : ¬ ((k : Int) + 1 < (k : Int)) := by omega
    obtain ⟨m, hm⟩ : ∃ m, (restL g k).length = m := ⟨_, rfl⟩
    have Hm := Lib.hid hm
    clear hm
    refine wp_region_S 14 (fun w' => Below wa.heap.size wa w') (by kernel_rfl) (by decide) ?_
    rw [hwa]
    clear hwa a2
    by_cases hc5 : c3 = k + 1
    · have hsl2 : Sl w 3 (some ⟨b, o, none⟩) (g.links.drop (k + 1)).length ((g.links.drop (k + 1)).flatMap encL) := by rw [List.drop_eq_nil_of_le (by omega)]; exact Sl.nil _ _ _
      have Hc5 := Lib.hid hc5
      clear hc5
      have hwr1 : IntKind.i64.wrap ((k : Int) + 1) = (k : Int) + 1 := IntWalk.i64_in _ (by omega)
      refine wpAnyS_takeD 1 (some 47) (.pointer (some ⟨w.heap.size, 2, none⟩)) (by rfl) (by rfl) (by kernel_rfl) (by exact fun _ _ _ h => h) (by rfl) (fun w' hS => by go_simp) hHeld ?_
      simp only [Act.put, List.setIfInBounds_toArray, List.set_cons_succ, List.set_cons_zero]
      refine wpAnyS_takeD 2 (some 48) (.slice (some ⟨b, o, none⟩) g.links.length c3) (by rfl) (by rfl) (by kernel_rfl) (by exact fun _ _ _ h => h) (by rfl) (fun w' hS => by (have q := Fc.out w' hS; go_simp)) hHeld ?_
      simp only [Act.put, List.setIfInBounds_toArray, List.set_cons_succ, List.set_cons_zero]
      refine wpAnyS_takeD 3 (some 49) (.int .i64 k) (by rfl) (by rfl) (by kernel_rfl) (by exact fun _ _ _ h => h) (by rfl) (fun w' hS => by go_simp) hHeld ?_
      simp only [Act.put, List.setIfInBounds_toArray, List.set_cons_succ, List.set_cons_zero]
      refine wpAnyS_takeD 4 (some 50) (.slice (some ⟨b, o, none⟩) k c3) (by rfl) (by rfl) (by kernel_rfl) (by exact fun _ _ _ h => h) (by rfl) (fun w' hS => by go_simp) hHeld ?_
      simp only [Act.put, List.setIfInBounds_toArray, List.set_cons_succ, List.set_cons_zero]
      refine wpAnyS_takeD 6 (some 52) (.pointer (some ⟨w.heap.size, 2, none⟩)) (by rfl) (by rfl) (by kernel_rfl) (by exact fun _ _ _ h => h) (by rfl) (fun w' hS => by go_simp) hHeld ?_
      simp only [Act.put, List.setIfInBounds_toArray, List.set_cons_succ, List.set_cons_zero]
      refine wpAnyS_takeD 7 (some 53) (.slice (some ⟨b, o, none⟩) g.links.length c3) (by rfl) (by rfl) (by kernel_rfl) (by exact fun _ _ _ h => h) (by rfl) (fun w' hS => by (have q := Fc.out w' hS; go_simp)) hHeld ?_
      simp only [Act.put, List.setIfInBounds_toArray, List.set_cons_succ, List.set_cons_zero]
      refine wpAnyS_takeD 8 (some 54) (.int .i64 k) (by rfl) (by rfl) (by kernel_rfl) (by exact fun _ _ _ h => h) (by rfl) (fun w' hS => by go_simp) hHeld ?_
      simp only [Act.put, List.setIfInBounds_toArray, List.set_cons_succ, List.set_cons_zero]
      refine wpAnyS_takeD 9 (some 55) (.int .i64 (k + 1)) (by rfl) (by rfl) (by kernel_rfl) (by exact fun _ _ _ h => h) (by rfl) (fun w' hS => by go_simp) hHeld ?_
      simp only [Act.put, List.setIfInBounds_toArray, List.set_cons_succ, List.set_cons_zero]
      refine wpAnyS_takeD 10 (some 56) (.slice (some ⟨b, o, none⟩) (g.links.length - (k + 1)) (c3 - (k + 1))) (by rfl) (by rfl) (by kernel_rfl) (by exact fun _ _ _ h => h) (by rfl) (fun w' hS => by (have q := Hc5.out; go_simp)) hHeld ?_
      simp only [Act.put, List.setIfInBounds_toArray, List.set_cons_succ, List.set_cons_zero]
      clear Fc hHeld hwr1
      refine wpAnyS_two 0 13 (by kernel_rfl) (by rfl) (by rfl) (by decide) (by decide) (fun K hK => ?_) (fun K hK => ?_)
      · have HK := Lib.hid hK; clear hK
        rw [if_pos (by rfl)]
        go_simp
        obtain ⟨p1, hp1⟩ : ∃ z, World.alloc wa (.cells #[] 32) = z := ⟨_, rfl⟩
        have bp1 : Below wa.heap.size wa p1 := by rw [← hp1]; exact bwa.alloc bwa.size _
        have op1 : OwnL wa.heap.size p1 (.slice (some ⟨(wa).heap.size, 0, none⟩) 0 0) [] := own_empty (by rw [← hp1]; exact heap_alloc_new _ _) bwa.size
        have lbp1 : Below (wa).heap.size wa p1 := by rw [← hp1]; exact (Below.refl _ _).alloc (Nat.le_refl _) _
        rw [hp1]
        refine HK.out _ _ bp1 ?_
        clear HK
        refine wpAnyS_two 5 13 (by kernel_rfl) (by rfl) (by rfl) (by decide) (by decide) (fun K hK => ?_) (fun K hK => ?_)
        · have HK := Lib.hid hK; clear hK
          refine step_append_sl (by rfl) (.tmp 46) (.tmp 50) _ (by rfl) iL _ 24 Try.underlying23 hiL hzL hkL hbL (by rfl) (by decide) oneL (by rfl) op1 _ _ _ (g.links.take k) (by rfl) (by simp <;> omega) (hsl1.below (below_trans hw4a bp1)) (by simp <;> omega) (by simp <;> omega) bp1.size ?_
          intro vp2 p2 op2 gp2 atp2
          have bp2 : Below wa.heap.size wa p2 := bp1.grown gp2 bp1.size (fun j e => (op1.lt j e).1)
          refine HK.out _ _ bp2 ?_
          clear HK
          refine wpAnyS_two 11 13 (by kernel_rfl) (by rfl) (by rfl) (by decide) (by decide) (fun K hK => ?_) (fun K hK => ?_)
          · have HK := Lib.hid hK; clear hK
            refine step_append_sl (by rfl) (.tmp 51) (.tmp 56) _ (by rfl) iL _ 24 Try.underlying23 hiL hzL hkL hbL (by rfl) (by decide) oneL (by rfl) op2 _ _ _ (g.links.drop (k + 1)) (by rfl) (by simp <;> omega) (hsl2.below (below_trans hw4a bp2)) (by simp <;> omega) (by simp <;> omega) bp2.size ?_
            intro vp3 p3 op3 gp3 atp3
            have bp3 : Below wa.heap.size wa p3 := bp2.grown gp3 bp2.size (fun j e => (op2.lt j e).1)
            refine HK.out _ _ bp3 ?_
            clear HK
            obtain ⟨Av, cv, rfl, oo⟩ := own_m op3 (ys := restL g k) (by simp [restL]) Hm.out
            clear op3
            have op3 := oo
            clear oo
            have hHeld := bp3
            refine wpAnyS_takeD 12 (some 58) (.agg #[.slice none 0 0, .slice none 0 0, .slice Av m cv]) (by rfl) (by rfl) (by kernel_rfl) (by exact fun _ _ _ h => h) (by rfl) (fun w' hS => by go_simp) hHeld ?_
            simp only [Act.put]
            clear hHeld
            refine wpAnyS_one 13 (by kernel_rfl) (by rfl) (by decide) (fun K hK => ?_)
            have HK := Lib.hid hK; clear hK
            rw [if_pos (by rfl)]
            go_simp
            obtain ⟨p4, hp4⟩ : ∃ z, World.alloc p3 (.cells #[.slice none 0 0, .slice none 0 0, .slice none 0 0] 25) = z := ⟨_, rfl⟩
            have bp4 : Below wa.heap.size wa p4 := by rw [← hp4]; exact bp3.alloc bp3.size _
            have gg : (p4).heap[(p3).heap.size]? = some (.cells #[.slice none 0 0, .slice none 0 0, .slice none 0 0] 25 (0, 0)) := by rw [← hp4]; exact heap_alloc_new _ _
            have gb : Below (p3).heap.size p3 p4 := by rw [← hp4]; exact (Below.refl _ _).alloc (Nat.le_refl _) _
            have gz : wa.heap.size ≤ (p3).heap.size := bp3.size
            rw [hp4]
            refine HK.out _ _ bp4 ?_
            clear HK
            have nn : ∀ c, Value.ownBlock (.slice Av m cv) = some c → c ≠ p3.heap.size := fun c hc => Nat.ne_of_lt (op3.lt c hc).2
            have op4 := op3.below gb
            refine (show tailOf _ _ _ _ _ _ _ _ from ⟨by kernel_rfl, ?_⟩)
            simp only [List.drop_succ_cons, List.drop_zero]
            have z0 := heap_cell (i := 0) gg; have z1 := heap_cell (i := 1) gg; have z2 := heap_cell (i := 2) gg
            have f0 := heap_free (i := 0) gg; have f1 := heap_free (i := 1) gg; have f2 := heap_free (i := 2) gg
            have GG := Lib.hid gg; have NN := Lib.hid nn
            clear gg nn
            go_wp2_with fail
            go_meet
            exact less_end hba0 bp4 GG.out gz op4 NN.out rfl rfl
          · have HK := Lib.hid hK; clear hK
            rw [if_pos (by rfl)]
            go_simp
            obtain ⟨p3, hp3⟩ : ∃ z, World.alloc p2 (.cells #[.slice none 0 0, .slice none 0 0, .slice none 0 0] 25) = z := ⟨_, rfl⟩
            have bp3 : Below wa.heap.size wa p3 := by rw [← hp3]; exact bp2.alloc bp2.size _
            have gg : (p3).heap[(p2).heap.size]? = some (.cells #[.slice none 0 0, .slice none 0 0, .slice none 0 0] 25 (0, 0)) := by rw [← hp3]; exact heap_alloc_new _ _
            have gb : Below (p2).heap.size p2 p3 := by rw [← hp3]; exact (Below.refl _ _).alloc (Nat.le_refl _) _
            have gz : wa.heap.size ≤ (p2).heap.size := bp2.size
            rw [hp3]
            refine HK.out _ _ bp3 ?_
            clear HK
            have nn0 : ∀ c, vp2.ownBlock = some c → c ≠ p2.heap.size := fun c hc => Nat.ne_of_lt (op2.lt c hc).2
            have op3 := op2.below gb
            refine wpAnyS_one 11 (by kernel_rfl) (by rfl) (by decide) (fun K hK => ?_)
            have HK := Lib.hid hK; clear hK
            refine step_append_sl (by rfl) (.tmp 51) (.tmp 56) _ (by rfl) iL _ 24 Try.underlying23 hiL hzL hkL hbL (by rfl) (by decide) oneL (by rfl) op3 _ _ _ (g.links.drop (k + 1)) (by rfl) (by simp <;> omega) (hsl2.below (below_trans hw4a bp3)) (by simp <;> omega) (by simp <;> omega) bp3.size ?_
            intro vp4 p4 op4 gp4 atp4
            have bp4 : Below wa.heap.size wa p4 := bp3.grown gp4 bp3.size (fun j e => (op3.lt j e).1)
            refine HK.out _ _ bp4 ?_
            clear HK
            have nn := own_next nn0 atp4 (heap_lt gg)
            replace gg := gl_kept gp4 gg nn0
            obtain ⟨Av, cv, rfl, oo⟩ := own_m op4 (ys := restL g k) (by simp [restL]) Hm.out
            clear op4
            have op4 := oo
            clear oo
            have hHeld := bp4
            refine wpAnyS_takeD 12 (some 58) (.agg #[.slice none 0 0, .slice none 0 0, .slice Av m cv]) (by rfl) (by rfl) (by kernel_rfl) (by exact fun _ _ _ h => h) (by rfl) (fun w' hS => by go_simp) hHeld ?_
            simp only [Act.put]
            clear hHeld
            refine (show tailOf _ _ _ _ _ _ _ _ from ⟨by kernel_rfl, ?_⟩)
            simp only [List.drop_succ_cons, List.drop_zero]
            have z0 := heap_cell (i := 0) gg; have z1 := heap_cell (i := 1) gg; have z2 := heap_cell (i := 2) gg
            have f0 := heap_free (i := 0) gg; have f1 := heap_free (i := 1) gg; have f2 := heap_free (i := 2) gg
            have GG := Lib.hid gg; have NN := Lib.hid nn
            clear gg nn
            go_wp2_with fail
            go_meet
            exact less_end hba0 bp4 GG.out gz op4 NN.out rfl rfl
        · have HK := Lib.hid hK; clear hK
          rw [if_pos (by rfl)]
          go_simp
          obtain ⟨p2, hp2⟩ : ∃ z, World.alloc p1 (.cells #[.slice none 0 0, .slice none 0 0, .slice none 0 0] 25) = z := ⟨_, rfl⟩
          have bp2 : Below wa.heap.size wa p2 := by rw [← hp2]; exact bp1.alloc bp1.size _
          have gg : (p2).heap[(p1).heap.size]? = some (.cells #[.slice none 0 0, .slice none 0 0, .slice none 0 0] 25 (0, 0)) := by rw [← hp2]; exact heap_alloc_new _ _
          have gb : Below (p1).heap.size p1 p2 := by rw [← hp2]; exact (Below.refl _ _).alloc (Nat.le_refl _) _
          have gz : wa.heap.size ≤ (p1).heap.size := bp1.size
          rw [hp2]
          refine HK.out _ _ bp2 ?_
          clear HK
          have nn0 : ∀ c, Value.ownBlock (.slice (some ⟨wa.heap.size, 0, none⟩) 0 0) = some c → c ≠ p1.heap.size := fun c hc => Nat.ne_of_lt (op1.lt c hc).2
          have op2 := op1.below gb
          refine wpAnyS_one 5 (by kernel_rfl) (by rfl) (by decide) (fun K hK => ?_)
          have HK := Lib.hid hK; clear hK
          refine step_append_sl (by rfl) (.tmp 46) (.tmp 50) _ (by rfl) iL _ 24 Try.underlying23 hiL hzL hkL hbL (by rfl) (by decide) oneL (by rfl) op2 _ _ _ (g.links.take k) (by rfl) (by simp <;> omega) (hsl1.below (below_trans hw4a bp2)) (by simp <;> omega) (by simp <;> omega) bp2.size ?_
          intro vp3 p3 op3 gp3 atp3
          have bp3 : Below wa.heap.size wa p3 := bp2.grown gp3 bp2.size (fun j e => (op2.lt j e).1)
          refine HK.out _ _ bp3 ?_
          clear HK
          have nn1 := own_next nn0 atp3 (heap_lt gg)
          replace gg := gl_kept gp3 gg nn0
          refine wpAnyS_one 11 (by kernel_rfl) (by rfl) (by decide) (fun K hK => ?_)
          have HK := Lib.hid hK; clear hK
          refine step_append_sl (by rfl) (.tmp 51) (.tmp 56) _ (by rfl) iL _ 24 Try.underlying23 hiL hzL hkL hbL (by rfl) (by decide) oneL (by rfl) op3 _ _ _ (g.links.drop (k + 1)) (by rfl) (by simp <;> omega) (hsl2.below (below_trans hw4a bp3)) (by simp <;> omega) (by simp <;> omega) bp3.size ?_
          intro vp4 p4 op4 gp4 atp4
          have bp4 : Below wa.heap.size wa p4 := bp3.grown gp4 bp3.size (fun j e => (op3.lt j e).1)
          refine HK.out _ _ bp4 ?_
          clear HK
          have nn := own_next nn1 atp4 (heap_lt gg)
          replace gg := gl_kept gp4 gg nn1
          obtain ⟨Av, cv, rfl, oo⟩ := own_m op4 (ys := restL g k) (by simp [restL]) Hm.out
          clear op4
          have op4 := oo
          clear oo
          have hHeld := bp4
          refine wpAnyS_takeD 12 (some 58) (.agg #[.slice none 0 0, .slice none 0 0, .slice Av m cv]) (by rfl) (by rfl) (by kernel_rfl) (by exact fun _ _ _ h => h) (by rfl) (fun w' hS => by go_simp) hHeld ?_
          simp only [Act.put]
          clear hHeld
          refine (show tailOf _ _ _ _ _ _ _ _ from ⟨by kernel_rfl, ?_⟩)
          simp only [List.drop_succ_cons, List.drop_zero]
          have z0 := heap_cell (i := 0) gg; have z1 := heap_cell (i := 1) gg; have z2 := heap_cell (i := 2) gg
          have f0 := heap_free (i := 0) gg; have f1 := heap_free (i := 1) gg; have f2 := heap_free (i := 2) gg
          have GG := Lib.hid gg; have NN := Lib.hid nn
          clear gg nn
          go_wp2_with fail
          go_meet
          exact less_end hba0 bp4 GG.out gz op4 NN.out rfl rfl
      · have HK := Lib.hid hK; clear hK
        rw [if_pos (by rfl)]
        go_simp
        obtain ⟨p1, hp1⟩ : ∃ z, World.alloc wa (.cells #[.slice none 0 0, .slice none 0 0, .slice none 0 0] 25) = z := ⟨_, rfl⟩
        have bp1 : Below wa.heap.size wa p1 := by rw [← hp1]; exact bwa.alloc bwa.size _
        have gg : (p1).heap[(wa).heap.size]? = some (.cells #[.slice none 0 0, .slice none 0 0, .slice none 0 0] 25 (0, 0)) := by rw [← hp1]; exact heap_alloc_new _ _
        have gb : Below (wa).heap.size wa p1 := by rw [← hp1]; exact (Below.refl _ _).alloc (Nat.le_refl _) _
        have gz : wa.heap.size ≤ (wa).heap.size := bwa.size
        rw [hp1]
        refine HK.out _ _ bp1 ?_
        clear HK
        refine wpAnyS_one 0 (by kernel_rfl) (by rfl) (by decide) (fun K hK => ?_)
        have HK := Lib.hid hK; clear hK
        rw [if_pos (by rfl)]
        go_simp
        obtain ⟨p2, hp2⟩ : ∃ z, World.alloc p1 (.cells #[] 32) = z := ⟨_, rfl⟩
        have bp2 : Below wa.heap.size wa p2 := by rw [← hp2]; exact bp1.alloc bp1.size _
        have op2 : OwnL wa.heap.size p2 (.slice (some ⟨(p1).heap.size, 0, none⟩) 0 0) [] := own_empty (by rw [← hp2]; exact heap_alloc_new _ _) bp1.size
        have lbp2 : Below (p1).heap.size p1 p2 := by rw [← hp2]; exact (Below.refl _ _).alloc (Nat.le_refl _) _
        rw [hp2]
        refine HK.out _ _ bp2 ?_
        clear HK
        have nn0 : ∀ c, Value.ownBlock (.slice (some ⟨p1.heap.size, 0, none⟩) 0 0) = some c → c ≠ wa.heap.size := fun c hc => by
          have hc' := Option.some.inj (show some p1.heap.size = some c from hc)
          have := heap_lt gg
          omega
        replace gg := heap_below gg lbp2 (heap_lt gg)
        refine wpAnyS_one 5 (by kernel_rfl) (by rfl) (by decide) (fun K hK => ?_)
        have HK := Lib.hid hK; clear hK
        refine step_append_sl (by rfl) (.tmp 46) (.tmp 50) _ (by rfl) iL _ 24 Try.underlying23 hiL hzL hkL hbL (by rfl) (by decide) oneL (by rfl) op2 _ _ _ (g.links.take k) (by rfl) (by simp <;> omega) (hsl1.below (below_trans hw4a bp2)) (by simp <;> omega) (by simp <;> omega) bp2.size ?_
        intro vp3 p3 op3 gp3 atp3
        have bp3 : Below wa.heap.size wa p3 := bp2.grown gp3 bp2.size (fun j e => (op2.lt j e).1)
        refine HK.out _ _ bp3 ?_
        clear HK
        have nn1 := own_next nn0 atp3 (heap_lt gg)
        replace gg := gl_kept gp3 gg nn0
        refine wpAnyS_one 11 (by kernel_rfl) (by rfl) (by decide) (fun K hK => ?_)
        have HK := Lib.hid hK; clear hK
        refine step_append_sl (by rfl) (.tmp 51) (.tmp 56) _ (by rfl) iL _ 24 Try.underlying23 hiL hzL hkL hbL (by rfl) (by decide) oneL (by rfl) op3 _ _ _ (g.links.drop (k + 1)) (by rfl) (by simp <;> omega) (hsl2.below (below_trans hw4a bp3)) (by simp <;> omega) (by simp <;> omega) bp3.size ?_
        intro vp4 p4 op4 gp4 atp4
        have bp4 : Below wa.heap.size wa p4 := bp3.grown gp4 bp3.size (fun j e => (op3.lt j e).1)
        refine HK.out _ _ bp4 ?_
        clear HK
        have nn := own_next nn1 atp4 (heap_lt gg)
        replace gg := gl_kept gp4 gg nn1
        obtain ⟨Av, cv, rfl, oo⟩ := own_m op4 (ys := restL g k) (by simp [restL]) Hm.out
        clear op4
        have op4 := oo
        clear oo
        have hHeld := bp4
        refine wpAnyS_takeD 12 (some 58) (.agg #[.slice none 0 0, .slice none 0 0, .slice Av m cv]) (by rfl) (by rfl) (by kernel_rfl) (by exact fun _ _ _ h => h) (by rfl) (fun w' hS => by go_simp) hHeld ?_
        simp only [Act.put]
        clear hHeld
        refine (show tailOf _ _ _ _ _ _ _ _ from ⟨by kernel_rfl, ?_⟩)
        simp only [List.drop_succ_cons, List.drop_zero]
        have z0 := heap_cell (i := 0) gg; have z1 := heap_cell (i := 1) gg; have z2 := heap_cell (i := 2) gg
        have f0 := heap_free (i := 0) gg; have f1 := heap_free (i := 1) gg; have f2 := heap_free (i := 2) gg
        have GG := Lib.hid gg; have NN := Lib.hid nn
        clear gg nn
        go_wp2_with fail
        go_meet
        exact less_end hba0 bp4 GG.out gz op4 NN.out rfl rfl
    · have hsl2 : Sl w 3 (some ⟨b, o + (k + 1) * 3, none⟩) (g.links.drop (k + 1)).length ((g.links.drop (k + 1)).flatMap encL) := by rw [flat_drop encL 3 lenL, List.length_drop]; exact hsl.drop (by omega)
      have hwr1 : IntKind.i64.wrap ((k : Int) + 1) = (k : Int) + 1 := IntWalk.i64_in _ (by omega)
      refine wpAnyS_takeD 1 (some 47) (.pointer (some ⟨w.heap.size, 2, none⟩)) (by rfl) (by rfl) (by kernel_rfl) (by exact fun _ _ _ h => h) (by rfl) (fun w' hS => by go_simp) hHeld ?_
      simp only [Act.put, List.setIfInBounds_toArray, List.set_cons_succ, List.set_cons_zero]
      refine wpAnyS_takeD 2 (some 48) (.slice (some ⟨b, o, none⟩) g.links.length c3) (by rfl) (by rfl) (by kernel_rfl) (by exact fun _ _ _ h => h) (by rfl) (fun w' hS => by (have q := Fc.out w' hS; go_simp)) hHeld ?_
      simp only [Act.put, List.setIfInBounds_toArray, List.set_cons_succ, List.set_cons_zero]
      refine wpAnyS_takeD 3 (some 49) (.int .i64 k) (by rfl) (by rfl) (by kernel_rfl) (by exact fun _ _ _ h => h) (by rfl) (fun w' hS => by go_simp) hHeld ?_
      simp only [Act.put, List.setIfInBounds_toArray, List.set_cons_succ, List.set_cons_zero]
      refine wpAnyS_takeD 4 (some 50) (.slice (some ⟨b, o, none⟩) k c3) (by rfl) (by rfl) (by kernel_rfl) (by exact fun _ _ _ h => h) (by rfl) (fun w' hS => by go_simp) hHeld ?_
      simp only [Act.put, List.setIfInBounds_toArray, List.set_cons_succ, List.set_cons_zero]
      refine wpAnyS_takeD 6 (some 52) (.pointer (some ⟨w.heap.size, 2, none⟩)) (by rfl) (by rfl) (by kernel_rfl) (by exact fun _ _ _ h => h) (by rfl) (fun w' hS => by go_simp) hHeld ?_
      simp only [Act.put, List.setIfInBounds_toArray, List.set_cons_succ, List.set_cons_zero]
      refine wpAnyS_takeD 7 (some 53) (.slice (some ⟨b, o, none⟩) g.links.length c3) (by rfl) (by rfl) (by kernel_rfl) (by exact fun _ _ _ h => h) (by rfl) (fun w' hS => by (have q := Fc.out w' hS; go_simp)) hHeld ?_
      simp only [Act.put, List.setIfInBounds_toArray, List.set_cons_succ, List.set_cons_zero]
      refine wpAnyS_takeD 8 (some 54) (.int .i64 k) (by rfl) (by rfl) (by kernel_rfl) (by exact fun _ _ _ h => h) (by rfl) (fun w' hS => by go_simp) hHeld ?_
      simp only [Act.put, List.setIfInBounds_toArray, List.set_cons_succ, List.set_cons_zero]
      refine wpAnyS_takeD 9 (some 55) (.int .i64 (k + 1)) (by rfl) (by rfl) (by kernel_rfl) (by exact fun _ _ _ h => h) (by rfl) (fun w' hS => by go_simp) hHeld ?_
      simp only [Act.put, List.setIfInBounds_toArray, List.set_cons_succ, List.set_cons_zero]
      refine wpAnyS_takeD 10 (some 56) (.slice (some ⟨b, o + (k + 1) * 3, none⟩) (g.links.length - (k + 1)) (c3 - (k + 1))) (by rfl) (by rfl) (by kernel_rfl) (by exact fun _ _ _ h => h) (by rfl) (fun w' hS => by (go_simp)) hHeld ?_
      simp only [Act.put, List.setIfInBounds_toArray, List.set_cons_succ, List.set_cons_zero]
      clear Fc hHeld hwr1
      refine wpAnyS_two 0 13 (by kernel_rfl) (by rfl) (by rfl) (by decide) (by decide) (fun K hK => ?_) (fun K hK => ?_)
      · have HK := Lib.hid hK; clear hK
        rw [if_pos (by rfl)]
        go_simp
        obtain ⟨p1, hp1⟩ : ∃ z, World.alloc wa (.cells #[] 32) = z := ⟨_, rfl⟩
        have bp1 : Below wa.heap.size wa p1 := by rw [← hp1]; exact bwa.alloc bwa.size _
        have op1 : OwnL wa.heap.size p1 (.slice (some ⟨(wa).heap.size, 0, none⟩) 0 0) [] := own_empty (by rw [← hp1]; exact heap_alloc_new _ _) bwa.size
        have lbp1 : Below (wa).heap.size wa p1 := by rw [← hp1]; exact (Below.refl _ _).alloc (Nat.le_refl _) _
        rw [hp1]
        refine HK.out _ _ bp1 ?_
        clear HK
        refine wpAnyS_two 5 13 (by kernel_rfl) (by rfl) (by rfl) (by decide) (by decide) (fun K hK => ?_) (fun K hK => ?_)
        · have HK := Lib.hid hK; clear hK
          refine step_append_sl (by rfl) (.tmp 46) (.tmp 50) _ (by rfl) iL _ 24 Try.underlying23 hiL hzL hkL hbL (by rfl) (by decide) oneL (by rfl) op1 _ _ _ (g.links.take k) (by rfl) (by simp <;> omega) (hsl1.below (below_trans hw4a bp1)) (by simp <;> omega) (by simp <;> omega) bp1.size ?_
          intro vp2 p2 op2 gp2 atp2
          have bp2 : Below wa.heap.size wa p2 := bp1.grown gp2 bp1.size (fun j e => (op1.lt j e).1)
          refine HK.out _ _ bp2 ?_
          clear HK
          refine wpAnyS_two 11 13 (by kernel_rfl) (by rfl) (by rfl) (by decide) (by decide) (fun K hK => ?_) (fun K hK => ?_)
          · have HK := Lib.hid hK; clear hK
            refine step_append_sl (by rfl) (.tmp 51) (.tmp 56) _ (by rfl) iL _ 24 Try.underlying23 hiL hzL hkL hbL (by rfl) (by decide) oneL (by rfl) op2 _ _ _ (g.links.drop (k + 1)) (by rfl) (by simp <;> omega) (hsl2.below (below_trans hw4a bp2)) (by simp <;> omega) (by simp <;> omega) bp2.size ?_
            intro vp3 p3 op3 gp3 atp3
            have bp3 : Below wa.heap.size wa p3 := bp2.grown gp3 bp2.size (fun j e => (op2.lt j e).1)
            refine HK.out _ _ bp3 ?_
            clear HK
            obtain ⟨Av, cv, rfl, oo⟩ := own_m op3 (ys := restL g k) (by simp [restL]) Hm.out
            clear op3
            have op3 := oo
            clear oo
            have hHeld := bp3
            refine wpAnyS_takeD 12 (some 58) (.agg #[.slice none 0 0, .slice none 0 0, .slice Av m cv]) (by rfl) (by rfl) (by kernel_rfl) (by exact fun _ _ _ h => h) (by rfl) (fun w' hS => by go_simp) hHeld ?_
            simp only [Act.put]
            clear hHeld
            refine wpAnyS_one 13 (by kernel_rfl) (by rfl) (by decide) (fun K hK => ?_)
            have HK := Lib.hid hK; clear hK
            rw [if_pos (by rfl)]
            go_simp
            obtain ⟨p4, hp4⟩ : ∃ z, World.alloc p3 (.cells #[.slice none 0 0, .slice none 0 0, .slice none 0 0] 25) = z := ⟨_, rfl⟩
            have bp4 : Below wa.heap.size wa p4 := by rw [← hp4]; exact bp3.alloc bp3.size _
            have gg : (p4).heap[(p3).heap.size]? = some (.cells #[.slice none 0 0, .slice none 0 0, .slice none 0 0] 25 (0, 0)) := by rw [← hp4]; exact heap_alloc_new _ _
            have gb : Below (p3).heap.size p3 p4 := by rw [← hp4]; exact (Below.refl _ _).alloc (Nat.le_refl _) _
            have gz : wa.heap.size ≤ (p3).heap.size := bp3.size
            rw [hp4]
            refine HK.out _ _ bp4 ?_
            clear HK
            have nn : ∀ c, Value.ownBlock (.slice Av m cv) = some c → c ≠ p3.heap.size := fun c hc => Nat.ne_of_lt (op3.lt c hc).2
            have op4 := op3.below gb
            refine (show tailOf _ _ _ _ _ _ _ _ from ⟨by kernel_rfl, ?_⟩)
            simp only [List.drop_succ_cons, List.drop_zero]
            have z0 := heap_cell (i := 0) gg; have z1 := heap_cell (i := 1) gg; have z2 := heap_cell (i := 2) gg
            have f0 := heap_free (i := 0) gg; have f1 := heap_free (i := 1) gg; have f2 := heap_free (i := 2) gg
            have GG := Lib.hid gg; have NN := Lib.hid nn
            clear gg nn
            go_wp2_with fail
            go_meet
            exact less_end hba0 bp4 GG.out gz op4 NN.out rfl rfl
          · have HK := Lib.hid hK; clear hK
            rw [if_pos (by rfl)]
            go_simp
            obtain ⟨p3, hp3⟩ : ∃ z, World.alloc p2 (.cells #[.slice none 0 0, .slice none 0 0, .slice none 0 0] 25) = z := ⟨_, rfl⟩
            have bp3 : Below wa.heap.size wa p3 := by rw [← hp3]; exact bp2.alloc bp2.size _
            have gg : (p3).heap[(p2).heap.size]? = some (.cells #[.slice none 0 0, .slice none 0 0, .slice none 0 0] 25 (0, 0)) := by rw [← hp3]; exact heap_alloc_new _ _
            have gb : Below (p2).heap.size p2 p3 := by rw [← hp3]; exact (Below.refl _ _).alloc (Nat.le_refl _) _
            have gz : wa.heap.size ≤ (p2).heap.size := bp2.size
            rw [hp3]
            refine HK.out _ _ bp3 ?_
            clear HK
            have nn0 : ∀ c, vp2.ownBlock = some c → c ≠ p2.heap.size := fun c hc => Nat.ne_of_lt (op2.lt c hc).2
            have op3 := op2.below gb
            refine wpAnyS_one 11 (by kernel_rfl) (by rfl) (by decide) (fun K hK => ?_)
            have HK := Lib.hid hK; clear hK
            refine step_append_sl (by rfl) (.tmp 51) (.tmp 56) _ (by rfl) iL _ 24 Try.underlying23 hiL hzL hkL hbL (by rfl) (by decide) oneL (by rfl) op3 _ _ _ (g.links.drop (k + 1)) (by rfl) (by simp <;> omega) (hsl2.below (below_trans hw4a bp3)) (by simp <;> omega) (by simp <;> omega) bp3.size ?_
            intro vp4 p4 op4 gp4 atp4
            have bp4 : Below wa.heap.size wa p4 := bp3.grown gp4 bp3.size (fun j e => (op3.lt j e).1)
            refine HK.out _ _ bp4 ?_
            clear HK
            have nn := own_next nn0 atp4 (heap_lt gg)
            replace gg := gl_kept gp4 gg nn0
            obtain ⟨Av, cv, rfl, oo⟩ := own_m op4 (ys := restL g k) (by simp [restL]) Hm.out
            clear op4
            have op4 := oo
            clear oo
            have hHeld := bp4
            refine wpAnyS_takeD 12 (some 58) (.agg #[.slice none 0 0, .slice none 0 0, .slice Av m cv]) (by rfl) (by rfl) (by kernel_rfl) (by exact fun _ _ _ h => h) (by rfl) (fun w' hS => by go_simp) hHeld ?_
            simp only [Act.put]
            clear hHeld
            refine (show tailOf _ _ _ _ _ _ _ _ from ⟨by kernel_rfl, ?_⟩)
            simp only [List.drop_succ_cons, List.drop_zero]
            have z0 := heap_cell (i := 0) gg; have z1 := heap_cell (i := 1) gg; have z2 := heap_cell (i := 2) gg
            have f0 := heap_free (i := 0) gg; have f1 := heap_free (i := 1) gg; have f2 := heap_free (i := 2) gg
            have GG := Lib.hid gg; have NN := Lib.hid nn
            clear gg nn
            go_wp2_with fail
            go_meet
            exact less_end hba0 bp4 GG.out gz op4 NN.out rfl rfl
        · have HK := Lib.hid hK; clear hK
          rw [if_pos (by rfl)]
          go_simp
          obtain ⟨p2, hp2⟩ : ∃ z, World.alloc p1 (.cells #[.slice none 0 0, .slice none 0 0, .slice none 0 0] 25) = z := ⟨_, rfl⟩
          have bp2 : Below wa.heap.size wa p2 := by rw [← hp2]; exact bp1.alloc bp1.size _
          have gg : (p2).heap[(p1).heap.size]? = some (.cells #[.slice none 0 0, .slice none 0 0, .slice none 0 0] 25 (0, 0)) := by rw [← hp2]; exact heap_alloc_new _ _
          have gb : Below (p1).heap.size p1 p2 := by rw [← hp2]; exact (Below.refl _ _).alloc (Nat.le_refl _) _
          have gz : wa.heap.size ≤ (p1).heap.size := bp1.size
          rw [hp2]
          refine HK.out _ _ bp2 ?_
          clear HK
          have nn0 : ∀ c, Value.ownBlock (.slice (some ⟨wa.heap.size, 0, none⟩) 0 0) = some c → c ≠ p1.heap.size := fun c hc => Nat.ne_of_lt (op1.lt c hc).2
          have op2 := op1.below gb
          refine wpAnyS_one 5 (by kernel_rfl) (by rfl) (by decide) (fun K hK => ?_)
          have HK := Lib.hid hK; clear hK
          refine step_append_sl (by rfl) (.tmp 46) (.tmp 50) _ (by rfl) iL _ 24 Try.underlying23 hiL hzL hkL hbL (by rfl) (by decide) oneL (by rfl) op2 _ _ _ (g.links.take k) (by rfl) (by simp <;> omega) (hsl1.below (below_trans hw4a bp2)) (by simp <;> omega) (by simp <;> omega) bp2.size ?_
          intro vp3 p3 op3 gp3 atp3
          have bp3 : Below wa.heap.size wa p3 := bp2.grown gp3 bp2.size (fun j e => (op2.lt j e).1)
          refine HK.out _ _ bp3 ?_
          clear HK
          have nn1 := own_next nn0 atp3 (heap_lt gg)
          replace gg := gl_kept gp3 gg nn0
          refine wpAnyS_one 11 (by kernel_rfl) (by rfl) (by decide) (fun K hK => ?_)
          have HK := Lib.hid hK; clear hK
          refine step_append_sl (by rfl) (.tmp 51) (.tmp 56) _ (by rfl) iL _ 24 Try.underlying23 hiL hzL hkL hbL (by rfl) (by decide) oneL (by rfl) op3 _ _ _ (g.links.drop (k + 1)) (by rfl) (by simp <;> omega) (hsl2.below (below_trans hw4a bp3)) (by simp <;> omega) (by simp <;> omega) bp3.size ?_
          intro vp4 p4 op4 gp4 atp4
          have bp4 : Below wa.heap.size wa p4 := bp3.grown gp4 bp3.size (fun j e => (op3.lt j e).1)
          refine HK.out _ _ bp4 ?_
          clear HK
          have nn := own_next nn1 atp4 (heap_lt gg)
          replace gg := gl_kept gp4 gg nn1
          obtain ⟨Av, cv, rfl, oo⟩ := own_m op4 (ys := restL g k) (by simp [restL]) Hm.out
          clear op4
          have op4 := oo
          clear oo
          have hHeld := bp4
          refine wpAnyS_takeD 12 (some 58) (.agg #[.slice none 0 0, .slice none 0 0, .slice Av m cv]) (by rfl) (by rfl) (by kernel_rfl) (by exact fun _ _ _ h => h) (by rfl) (fun w' hS => by go_simp) hHeld ?_
          simp only [Act.put]
          clear hHeld
          refine (show tailOf _ _ _ _ _ _ _ _ from ⟨by kernel_rfl, ?_⟩)
          simp only [List.drop_succ_cons, List.drop_zero]
          have z0 := heap_cell (i := 0) gg; have z1 := heap_cell (i := 1) gg; have z2 := heap_cell (i := 2) gg
          have f0 := heap_free (i := 0) gg; have f1 := heap_free (i := 1) gg; have f2 := heap_free (i := 2) gg
          have GG := Lib.hid gg; have NN := Lib.hid nn
          clear gg nn
          go_wp2_with fail
          go_meet
          exact less_end hba0 bp4 GG.out gz op4 NN.out rfl rfl
      · have HK := Lib.hid hK; clear hK
        rw [if_pos (by rfl)]
        go_simp
        obtain ⟨p1, hp1⟩ : ∃ z, World.alloc wa (.cells #[.slice none 0 0, .slice none 0 0, .slice none 0 0] 25) = z := ⟨_, rfl⟩
        have bp1 : Below wa.heap.size wa p1 := by rw [← hp1]; exact bwa.alloc bwa.size _
        have gg : (p1).heap[(wa).heap.size]? = some (.cells #[.slice none 0 0, .slice none 0 0, .slice none 0 0] 25 (0, 0)) := by rw [← hp1]; exact heap_alloc_new _ _
        have gb : Below (wa).heap.size wa p1 := by rw [← hp1]; exact (Below.refl _ _).alloc (Nat.le_refl _) _
        have gz : wa.heap.size ≤ (wa).heap.size := bwa.size
        rw [hp1]
        refine HK.out _ _ bp1 ?_
        clear HK
        refine wpAnyS_one 0 (by kernel_rfl) (by rfl) (by decide) (fun K hK => ?_)
        have HK := Lib.hid hK; clear hK
        rw [if_pos (by rfl)]
        go_simp
        obtain ⟨p2, hp2⟩ : ∃ z, World.alloc p1 (.cells #[] 32) = z := ⟨_, rfl⟩
        have bp2 : Below wa.heap.size wa p2 := by rw [← hp2]; exact bp1.alloc bp1.size _
        have op2 : OwnL wa.heap.size p2 (.slice (some ⟨(p1).heap.size, 0, none⟩) 0 0) [] := own_empty (by rw [← hp2]; exact heap_alloc_new _ _) bp1.size
        have lbp2 : Below (p1).heap.size p1 p2 := by rw [← hp2]; exact (Below.refl _ _).alloc (Nat.le_refl _) _
        rw [hp2]
        refine HK.out _ _ bp2 ?_
        clear HK
        have nn0 : ∀ c, Value.ownBlock (.slice (some ⟨p1.heap.size, 0, none⟩) 0 0) = some c → c ≠ wa.heap.size := fun c hc => by
          have hc' := Option.some.inj (show some p1.heap.size = some c from hc)
          have := heap_lt gg
          omega
        replace gg := heap_below gg lbp2 (heap_lt gg)
        refine wpAnyS_one 5 (by kernel_rfl) (by rfl) (by decide) (fun K hK => ?_)
        have HK := Lib.hid hK; clear hK
        refine step_append_sl (by rfl) (.tmp 46) (.tmp 50) _ (by rfl) iL _ 24 Try.underlying23 hiL hzL hkL hbL (by rfl) (by decide) oneL (by rfl) op2 _ _ _ (g.links.take k) (by rfl) (by simp <;> omega) (hsl1.below (below_trans hw4a bp2)) (by simp <;> omega) (by simp <;> omega) bp2.size ?_
        intro vp3 p3 op3 gp3 atp3
        have bp3 : Below wa.heap.size wa p3 := bp2.grown gp3 bp2.size (fun j e => (op2.lt j e).1)
        refine HK.out _ _ bp3 ?_
        clear HK
        have nn1 := own_next nn0 atp3 (heap_lt gg)
        replace gg := gl_kept gp3 gg nn0
        refine wpAnyS_one 11 (by kernel_rfl) (by rfl) (by decide) (fun K hK => ?_)
        have HK := Lib.hid hK; clear hK
        refine step_append_sl (by rfl) (.tmp 51) (.tmp 56) _ (by rfl) iL _ 24 Try.underlying23 hiL hzL hkL hbL (by rfl) (by decide) oneL (by rfl) op3 _ _ _ (g.links.drop (k + 1)) (by rfl) (by simp <;> omega) (hsl2.below (below_trans hw4a bp3)) (by simp <;> omega) (by simp <;> omega) bp3.size ?_
        intro vp4 p4 op4 gp4 atp4
        have bp4 : Below wa.heap.size wa p4 := bp3.grown gp4 bp3.size (fun j e => (op3.lt j e).1)
        refine HK.out _ _ bp4 ?_
        clear HK
        have nn := own_next nn1 atp4 (heap_lt gg)
        replace gg := gl_kept gp4 gg nn1
        obtain ⟨Av, cv, rfl, oo⟩ := own_m op4 (ys := restL g k) (by simp [restL]) Hm.out
        clear op4
        have op4 := oo
        clear oo
        have hHeld := bp4
        refine wpAnyS_takeD 12 (some 58) (.agg #[.slice none 0 0, .slice none 0 0, .slice Av m cv]) (by rfl) (by rfl) (by kernel_rfl) (by exact fun _ _ _ h => h) (by rfl) (fun w' hS => by go_simp) hHeld ?_
        simp only [Act.put]
        clear hHeld
        refine (show tailOf _ _ _ _ _ _ _ _ from ⟨by kernel_rfl, ?_⟩)
        simp only [List.drop_succ_cons, List.drop_zero]
        have z0 := heap_cell (i := 0) gg; have z1 := heap_cell (i := 1) gg; have z2 := heap_cell (i := 2) gg
        have f0 := heap_free (i := 0) gg; have f1 := heap_free (i := 1) gg; have f2 := heap_free (i := 2) gg
        have GG := Lib.hid gg; have NN := Lib.hid nn
        clear gg nn
        go_wp2_with fail
        go_meet
        exact less_end hba0 bp4 GG.out gz op4 NN.out rfl rfl
  case rest =>
    obtain ⟨gl, Al, cl, rfl, hG, hO, hNN, hB, hz⟩ := hcut.ex
    have hkk2 := Lib.hid (less_valid Hg.out Hx.out)
    have hsizes := Lib.hid (less_sizes Hg.out Hx.out)
    have hrl : (restL g k).length ≤ 64 := Nat.le_trans (rest_sub g k).length_le hll
    generalize restL g k = rest at hG hO hNN hkk2 hsizes hrl
    have hwX := hw4.trans (hB.mono hw4.size)
    replace a0 := cell_later hB a0; replace a1 := cell_later hB a1; replace a2 := cell_later hB a2
    replace x1 := cell_later hB x1; replace x2 := cell_later hB x2
    have hw3s := hw3.size
    have hnw : w.heap.size ∉ [gl] := by simp; omega
    have hnx : w3.heap.size ∉ [gl] := by simp; omega
    have hblk := hG
    have HL : Hid (∀ w', Touch wc w' [gl] → Links w' (.slice Al rest.length cl) rest) := Lib.hid fun w' hT => slOf_off hO.slOf hT (fun j hj => by have := hNN j hj; simp; exact this)
    have hwlt : w.heap.size < wc.heap.size := by have := heap_lt hG; omega
    have hcl2 : (cl : Int) ≤ 9223372036854775807 := by
      obtain ⟨A', c', e, h1, h2, _⟩ := (HL.out wc (Touch.refl _ _)).cells
      injection e with _ _ e3
      rw [e3]; exact h2
    clear hcut hG hO hNN hB hsl hw4
    obtain ⟨wX, hwX0⟩ : ∃ z, z = wc := ⟨_, rfl⟩
    subst hwX0
    go_wp2_with fail
    go_loopw [7] (fun i wr => ∃ (k : Nat) (u : Value), k ≤ (g.obv).length ∧ i = .int .i64 k ∧ wr.heap[gl]? = some (.cells #[u, .slice none 0 0, .slice Al rest.length cl] 25 (0, 0)) ∧ OwnI wX.heap.size wr u ((g.obv).take k |>.filter fun n => !aloneB Link.obv rest x.obv n) ∧ Touch wX wr [gl]) (fun i _ => (g.obv).length - (intOf i).toNat)
    case atStart => exact ⟨0, .slice none 0 0, Nat.zero_le _, rfl, hblk, by simpa using own_nil encI 1 3 wX.heap.size wX, Touch.refl _ _⟩
    case round =>
      obtain ⟨i, u, hi, rfl, hMr, hown, hT⟩ := hrel
      have hTz := hT.size
      have n0 := cell_off hT hnw a0; have n1 := cell_off hT hnw a1; have n2 := cell_off hT hnw a2
      have y1 := cell_off hT hnx x1; have y2 := cell_off hT hnx x2
      have hwr : Below w.heap.size w wr := hwX.trans (hT.below (by simp; omega) (by have := hwX.size; omega))
      have hLr := HL.out wr hT
      have p2 := (heap_cell (i := 2) hMr).trans rfl
      by_cases hin : i < (g.obv).length
      · obtain ⟨ba, oa, rfl, hbaw, hca⟩ := hco i hin
        obtain ⟨n, hn⟩ := get_of_lt hin
        have e0' := hca wr hwr i n hn
        have hsn := filter_snoc (p := fun n => !aloneB Link.obv rest x.obv n) hn
        have hi1 : (i : Int) < ((g.obv).length : Int) := by omega
        have hi0 : (0 : Int) ≤ (i : Int) := by omega
        have Hsn := Lib.hid hsn; have HO := Lib.hid hown; have HMr := Lib.hid hMr; have HT := Lib.hid hT
        have Hca := Lib.hid (fun w' (hb : Below w.heap.size w w') => hca w' hb i n hn)
        clear hsn hown hMr hT hca hn
        obtain ⟨wo, hwo⟩ : ∃ z, z = wr := ⟨_, rfl⟩
        subst hwo
        obtain ⟨bb, hbb⟩ : ∃ bb, (n == x.obv) = bb := ⟨_, rfl⟩
        have Hbb := Lib.hid hbb
        have e0 := Later.cell_all e0'; have q0 := Later.cell_all n0; have q1 := Later.cell_all n1; have z1 := Later.cell_all y1; have z2 := Later.cell_all y2
        go_wp2_with fail
        refine wp_region_later (by kernel_rfl) (by kernel_rfl) ?_
        repeat (go_big_quiet_step (first | fail))
        refine wpQuiet_nil ?_
        intro _ hw'
        obtain ⟨xq, hw''⟩ := hw'
        subst hw''
        have hbq := xq.h
        generalize xq.to = wq at hbq ⊢
        clear e0 q0 q1 z1 z2 e0'
        replace y1 := cell_later hbq y1; replace y2 := cell_later hbq y2; replace p2 := cell_later hbq p2
        replace n0 := cell_later hbq n0; replace n1 := cell_later hbq n1
        replace hLr := SlOf.below hLr hbq
        replace hwr := below_trans hwr hbq
        clear hbb
        go_wp2_with fail
        go_loopw [8, 9] (fun c j wr => ∃ (k : Nat) (b : Bool), k ≤ rest.length ∧ c = .bool b ∧ j = .int .i64 k ∧ Hid (b = (bb && (rest.take k).all fun y => !(y.obv == x.obv))) ∧ Below wq.heap.size wq wr) (fun _ j _ => rest.length - (intOf j).toNat)
        case atStart => exact ⟨0, bb, Nat.zero_le _, rfl, rfl, by show _ = _; simp, Below.refl _ _⟩
        case round =>
          obtain ⟨k, b, hk, rfl, rfl, Hb, hb⟩ := hrel
          have r2' := cell_later hb p2; have r3' := cell_later hb y1; have r4' := cell_later hb y2
          by_cases hkn : k < rest.length
          · obtain ⟨y, hy⟩ := get_of_lt hkn
            obtain ⟨bq, oq, rfl, _, hcq⟩ := Links.at hLr hkn
            obtain ⟨e1', e2', e3'⟩ := hcq y hy
            replace e1' := cell_later hb e1'; replace e2' := cell_later hb e2'; replace e3' := cell_later hb e3'
            have e1 := Later.cell_all e1'; have e2 := Later.cell_all e2'; have e3 := Later.cell_all e3'
            have r2 := Later.cell_all r2'; have r3 := Later.cell_all r3'; have r4 := Later.cell_all r4'
            have hk1 : (k : Int) < (rest.length : Int) := by omega
            have hk0 : (0 : Int) ≤ (k : Int) := by omega
            have Hy := Lib.hid hy
            clear hy hcq e1' e2' e3'
            cases b
            · have Hn := Lib.hid (alone_false (k := k) Hb.out)
              clear e1 e2 e3
              go_wp2_with fail
              refine wp_region_later (by kernel_rfl) (by kernel_rfl) ?_
              repeat (go_big_quiet_step (first | fail))
              refine wpQuiet_nil ?_
              intro _ hw'
              obtain ⟨xq, hw''⟩ := hw'
              subst hw''
              have hbc2 := xq.h
              generalize xq.to = wc2 at hbc2 ⊢
              go_wp2_with fail
              refine ⟨?rel, ?measure⟩
              case rel => exact ⟨k + 1, false, by omega, rfl, by go_num, Hn.out, below_trans hb hbc2⟩
              case measure => first | (simp [intOf]; done) | (simp [intOf]; omega)
            · by_cases hyx : y.obv = x.obv
              · have d0 : (y.obv != x.obv) = false := by simpa using hyx
                have Hn := Lib.hid (alone_no (f := Link.obv) Hy.out hyx Hb.out)
                clear hyx
                go_wp2_with fail
                refine wp_region_later (by kernel_rfl) (by kernel_rfl) ?_
                repeat (go_big_quiet_step (first | fail))
                refine wpQuiet_nil ?_
                intro _ hw'
                obtain ⟨xq, hw''⟩ := hw'
                subst hw''
                have hbc2 := xq.h
                generalize xq.to = wc2 at hbc2 ⊢
                go_wp2_with fail
                refine ⟨?rel, ?measure⟩
                case rel => exact ⟨k + 1, false, by omega, rfl, by go_num, Hn.out, below_trans hb hbc2⟩
                case measure => first | (simp [intOf]; done) | (simp [intOf]; omega)
              · have d0 : (y.obv != x.obv) = true := by simpa using hyx
                have Hn := Lib.hid (alone_yes (f := Link.obv) Hy.out hyx Hb.out)
                clear hyx
                go_wp2_with fail
                refine wp_region_later (by kernel_rfl) (by kernel_rfl) ?_
                repeat (go_big_quiet_step (first | fail))
                refine wpQuiet_nil ?_
                intro _ hw'
                obtain ⟨xq, hw''⟩ := hw'
                subst hw''
                have hbc2 := xq.h
                generalize xq.to = wc2 at hbc2 ⊢
                go_wp2_with fail
                refine ⟨?rel, ?measure⟩
                case rel => exact ⟨k + 1, true, by omega, rfl, by go_num, Hn.out, below_trans hb hbc2⟩
                case measure => first | (simp [intOf]; done) | (simp [intOf]; omega)
          · have hfin : b = aloneB Link.obv rest x.obv n := by
              have := Hb.out
              rw [List.take_of_length_le (by omega)] at this
              rw [this, ← Hbb.out]; rfl
            have hbqr := below_trans hbq hb
            have hTr := HT.out.trans (touch_below hbqr [gl])
            have HTr := Lib.hid hTr
            have hownR := HO.out.below hbqr
            have hMr := heap_below HMr.out hbqr (heap_lt HMr.out)
            cases b
            · have Hs2 : Hid (((g.obv).take (i + 1)).filter (fun n => !aloneB Link.obv rest x.obv n) = ((g.obv).take i).filter (fun n => !aloneB Link.obv rest x.obv n) ++ [n]) := Lib.hid (by rw [Hsn.out, ← hfin]; rfl)
              have hlen : (((g.obv).take i).filter (fun n => !aloneB Link.obv rest x.obv n)).length ≤ 40 := by
                have h2 := List.length_filter_le (fun n => !aloneB Link.obv rest x.obv n) ((g.obv).take i)
                rw [List.length_take] at h2
                omega
              clear hfin Hsn Hb
              replace n0 := cell_later hb n0; replace n1 := cell_later hb n1
              go_wp2_with fail
              clear p2 r2' r3' r4' y1 y2
              have hba : Below wr.heap.size wr wr.drew := (Below.refl _ _).drew
              obtain ⟨wa, hwa⟩ : ∃ W, wr.drew = W := ⟨_, rfl⟩
              rw [hwa] at hba
              have hMa := heap_below hMr hba (heap_lt hMr)
              have e0 := Hca.out wa (below_trans (below_trans hwr hb) hba)
              have m0 := cell_later hba n0; have m1 := cell_later hba n1
              have hne : ∀ j, u.ownBlock = some j → wX.heap.size ≤ j := fun j e => (hownR.lt j e).1
              have hnb : ∀ c, c < wX.heap.size → some c ≠ u.ownBlock := fun c hc e => by have := hne c e.symm; omega
              have hglX : gl < wX.heap.size := heap_lt hblk
              have hwwX : w.heap.size < wX.heap.size := by omega
              have hbaX : ba < wX.heap.size := by omega
              have Fc := Lib.hid (fun (w' : World) (hS : wa.grownBy w' u.ownBlock) => (⟨cell_grown hS ((heap_cell (i := 0) hMa).trans rfl) (hnb _ hglX), cell_grown hS m0 (hnb _ hwwX), cell_grown hS m1 (hnb _ hwwX), cell_grown hS e0 (hnb _ hbaX)⟩ :
                w'.cell? ⟨gl, 0, none⟩ = some u ∧ w'.cell? ⟨w.heap.size, 0, none⟩ = some (.slice (some ⟨ba, oa, none⟩) g.obv.length c1) ∧ w'.cell? ⟨w.heap.size, 1, none⟩ = some (.slice A2 g.rev.length c2) ∧ w'.cell? ⟨ba, oa + i, none⟩ = some (.int .i64 n)))
              have hHeld : wa.grownBy wa u.ownBlock := World.grownBy.refl _ _
              have hownA := hownR.below hba
              have hsza : wX.heap.size ≤ wa.heap.size := by have := hba.size; have := hb.size; have := hbq.size; omega
              have HMa := Lib.hid hMa; have Hba := Lib.hid hba
              refine wp_region_S 9 (fun w' => wa.grownBy w' u.ownBlock) (by kernel_rfl) (by decide) ?_
              rw [hwa]
              clear hwa hMr n0 n1 n2 hMa hba e0 m0 m1 hownR hTr
              refine wpAnyS_takeD 0 (some 95) (.pointer (some ⟨gl, 0, none⟩)) (by rfl) (by rfl) (by kernel_rfl) (by exact fun _ _ _ h => h) (by rfl) (fun w' hS => by go_simp) hHeld ?_
              simp only [Act.put, List.setIfInBounds_toArray, List.set_cons_succ, List.set_cons_zero]
              refine wpAnyS_takeD 1 (some 96) u (by rfl) (by rfl) (by kernel_rfl) (by exact fun _ _ _ h => h) (by rfl) (fun w' hS => by (obtain ⟨g0, g1, g2, g3⟩ := Fc.out w' hS; go_simp)) hHeld ?_
              simp only [Act.put, List.setIfInBounds_toArray, List.set_cons_succ, List.set_cons_zero]
              refine wpAnyS_takeD 2 (some 97) (.pointer (some ⟨w.heap.size, 0, none⟩)) (by rfl) (by rfl) (by kernel_rfl) (by exact fun _ _ _ h => h) (by rfl) (fun w' hS => by go_simp) hHeld ?_
              simp only [Act.put, List.setIfInBounds_toArray, List.set_cons_succ, List.set_cons_zero]
              refine wpAnyS_takeD 3 (some 98) (.slice (some ⟨ba, oa, none⟩) g.obv.length c1) (by rfl) (by rfl) (by kernel_rfl) (by exact fun _ _ _ h => h) (by rfl) (fun w' hS => by (obtain ⟨g0, g1, g2, g3⟩ := Fc.out w' hS; go_simp)) hHeld ?_
              simp only [Act.put, List.setIfInBounds_toArray, List.set_cons_succ, List.set_cons_zero]
              refine wpAnyS_takeD 4 (some 99) (.int .i64 i) (by rfl) (by rfl) (by kernel_rfl) (by exact fun _ _ _ h => h) (by rfl) (fun w' hS => by go_simp) hHeld ?_
              simp only [Act.put, List.setIfInBounds_toArray, List.set_cons_succ, List.set_cons_zero]
              refine wpAnyS_takeD 5 (some 100) (.pointer (some ⟨ba, oa + i, none⟩)) (by rfl) (by rfl) (by kernel_rfl) (by exact fun _ _ _ h => h) (by rfl) (fun w' hS => by go_simp) hHeld ?_
              simp only [Act.put, List.setIfInBounds_toArray, List.set_cons_succ, List.set_cons_zero]
              refine wpAnyS_takeD 6 (some 101) (.int .i64 n) (by rfl) (by rfl) (by kernel_rfl) (by exact fun _ _ _ h => h) (by rfl) (fun w' hS => by (obtain ⟨g0, g1, g2, g3⟩ := Fc.out w' hS; go_simp)) hHeld ?_
              simp only [Act.put, List.setIfInBounds_toArray, List.set_cons_succ, List.set_cons_zero]
              clear hHeld Fc
              refine wpAnyS_one 7 (by kernel_rfl) (by rfl) (by decide) (fun K hK => ?_)
              have HK := Lib.hid hK; clear hK
              rw [if_pos (by rfl)]
              go_simp
              obtain ⟨wb, hwb⟩ : ∃ W, World.alloc wa (.cells #[.int .i64 n] 3) = W := ⟨_, rfl⟩
              rw [hwb]
              have hbb1 : wb.heap[wa.heap.size]? = some (.cells (encI n).toArray 3 (0, 0)) := by rw [← hwb]; exact heap_alloc_new _ _
              have hgb : wa.grownBy wb u.ownBlock := by rw [← hwb]; exact World.grownBy_alloc _ _ _
              have hownB : OwnI wX.heap.size wb u (((g.obv).take i).filter fun n => !aloneB Link.obv rest x.obv n) := by rw [← hwb]; exact hownA.alloc _
              have hszb : wX.heap.size ≤ wb.heap.size := by have := hgb.size; omega
              clear hwb
              refine HK.out _ _ hgb ?_
              clear HK
              refine wpAnyS_one 8 (by kernel_rfl) (by rfl) (by decide) (fun K hK => ?_)
              have HK := Lib.hid hK; clear hK
              refine step_append_sl (by rfl) (.tmp 96) (.tmp 102) _ (by rfl) iI _ 8 Try.underlying22 hiI hzI hkI hbI (by rfl) (by decide) oneI (by rfl) hownB _ 1 1 [n] (by rfl) (by rfl) (sl_one (by rfl) hbb1) (by simp; omega) (by simp; omega) hszb ?_
              intro v1 wc3 hownC hgc hat
              have hgac := hgb.trans hgc
              refine HK.out _ _ hgac ?_
              clear HK
              have hMc := (hgac.block _ (heap_lt HMa.out) (hnb _ hglX)).trans HMa.out
              have f0 := (heap_cell (i := 0) hMc).trans rfl; have f1 := heap_free (i := 0) hMc
              have HMc := Lib.hid hMc; have HC := Lib.hid hownC; have HG := Lib.hid hgac
              clear hMc hgac hgc hgb hbb1 hownB hownC hownA
              refine (show tailOf _ _ _ _ _ _ _ _ from ⟨by kernel_rfl, ?_⟩)
              simp only [List.drop_succ_cons, List.drop_zero]
              obtain ⟨gv, cv, rfl⟩ := HC.out.form (m := (((g.obv).take i).filter fun n => !aloneB Link.obv rest x.obv n).length + 1) (by simp)
              go_wp2_with fail
              have hset := set1_grown wc3 gl 0 (.slice (some ⟨gv, 0, none⟩) ((((g.obv).take i).filter fun n => !aloneB Link.obv rest x.obv n).length + 1) cv)
              refine ⟨?rel, ?measure⟩
              case rel =>
                refine ⟨i + 1, .slice (some ⟨gv, 0, none⟩) ((((g.obv).take i).filter fun n => !aloneB Link.obv rest x.obv n).length + 1) cv, by omega, by go_num, ?_, ?_, (HTr.out.trans (touch_below Hba.out [gl])).trans_own HG.out hne |>.trans (grown_touch hset (by simp))⟩
                · have := heap_setCell_same wc3 gl 0 _ _ (.slice (some ⟨gv, 0, none⟩) ((((g.obv).take i).filter fun n => !aloneB Link.obv rest x.obv n).length + 1) cv) HMc.out
                  simpa using this
                · rw [Hs2.out]
                  refine Own.kept HC.out hset (.inr fun e => ?_)
                  have := (HC.out.lt _ e).1
                  omega
              case measure => first | (simp [intOf]; done) | (simp [intOf]; omega)
            · have Hs2 : Hid (((g.obv).take (i + 1)).filter (fun n => !aloneB Link.obv rest x.obv n) = ((g.obv).take i).filter (fun n => !aloneB Link.obv rest x.obv n)) := Lib.hid (by rw [Hsn.out, ← hfin]; simp)
              have HMr2 := Lib.hid hMr; have HOR := Lib.hid hownR
              clear hfin Hsn Hb hMr hownR
              go_wp2_with fail
              refine ⟨?rel, ?measure⟩
              case rel => exact ⟨i + 1, u, by omega, by go_num, HMr2.out, by rw [Hs2.out]; exact HOR.out, HTr.out⟩
              case measure => first | (simp [intOf]; done) | (simp [intOf]; omega)
      · have e1 : g.obv.take i = g.obv := List.take_of_length_le (by omega)
        rw [e1] at hown
        clear e1
        obtain ⟨mu, hmu⟩ : ∃ m, (g.obv.filter fun n => !aloneB Link.obv rest x.obv n).length = m := ⟨_, rfl⟩
        obtain ⟨Au, cu, rfl, _, hcu⟩ := hown.slOf
        have hI : Ints wr (.slice Au (g.obv.filter fun n => !aloneB Link.obv rest x.obv n).length cu) (g.obv.filter fun n => !aloneB Link.obv rest x.obv n) := hown.slOf
        have hIb : ∀ j, Value.ownBlock (.slice Au (g.obv.filter fun n => !aloneB Link.obv rest x.obv n).length cu) = some j → j ∉ [gl] := fun j hj => by have := (hown.lt j hj).1; have := heap_lt hblk; simp; omega
        rw [hmu] at hI hIb hMr
        have HU := Lib.hid (fun w' (hT' : Touch wr w' [gl]) => slOf_off hI hT' hIb)
        have HL2 := Lib.hid (fun w' (hT' : Touch wr w' [gl]) => HL.out w' (hT.trans hT'))
        have Hmu := Lib.hid hmu
        have hwlt2 : w.heap.size < wr.heap.size := by omega
        have hcu2 : (cu : Int) ≤ 9223372036854775807 := by simp only [maxLen] at hcu; omega
        clear hmu hI hIb hown hblk HL hcu hLr p2
        go_wp2_with fail
        clear a0 a1 a2 x1 x2 hwX hwlt
        have a0 := n0; have a1 := n1; have a2 := n2; have x1 := y1; have x2 := y2
        have hblk := hMr
        have hwX := hwr
        have HL := HL2
        have hwlt := hwlt2
        clear n0 n1 n2 y1 y2 hMr hwr HL2 hwlt2 hT hTz hin hi
        obtain ⟨wX, hwX0⟩ : ∃ z, z = wr := ⟨_, rfl⟩
        subst hwX0
        go_loopw [10] (fun i wr => ∃ (k : Nat) (u : Value), k ≤ (g.rev).length ∧ i = .int .i64 k ∧ wr.heap[gl]? = some (.cells #[.slice Au mu cu, u, .slice Al rest.length cl] 25 (0, 0)) ∧ OwnI wX.heap.size wr u ((g.rev).take k |>.filter fun n => !aloneB Link.rev rest x.rev n) ∧ Touch wX wr [gl]) (fun i _ => (g.rev).length - (intOf i).toNat)
        case atStart => exact ⟨0, .slice none 0 0, Nat.zero_le _, rfl, hblk, by simpa using own_nil encI 1 3 wX.heap.size wX, Touch.refl _ _⟩
        case round =>
          obtain ⟨i, u, hi, rfl, hMr, hown, hT⟩ := hrel
          have hTz := hT.size
          have n0 := cell_off hT hnw a0; have n1 := cell_off hT hnw a1; have n2 := cell_off hT hnw a2
          have y1 := cell_off hT hnx x1; have y2 := cell_off hT hnx x2
          have hwr : Below w.heap.size w wr := hwX.trans (hT.below (by simp; omega) (by have := hwX.size; omega))
          have hLr := HL.out wr hT
          have p2 := (heap_cell (i := 2) hMr).trans rfl
          by_cases hin : i < (g.rev).length
          · obtain ⟨ba, oa, rfl, hbaw, hca⟩ := hcr i hin
            obtain ⟨n, hn⟩ := get_of_lt hin
            have e0' := hca wr hwr i n hn
            have hsn := filter_snoc (p := fun n => !aloneB Link.rev rest x.rev n) hn
            have hi1 : (i : Int) < ((g.rev).length : Int) := by omega
            have hi0 : (0 : Int) ≤ (i : Int) := by omega
            have Hsn := Lib.hid hsn; have HO := Lib.hid hown; have HMr := Lib.hid hMr; have HT := Lib.hid hT
            have Hca := Lib.hid (fun w' (hb : Below w.heap.size w w') => hca w' hb i n hn)
            clear hsn hown hMr hT hca hn
            obtain ⟨wo, hwo⟩ : ∃ z, z = wr := ⟨_, rfl⟩
            subst hwo
            obtain ⟨bb, hbb⟩ : ∃ bb, (n == x.rev) = bb := ⟨_, rfl⟩
            have Hbb := Lib.hid hbb
            have e0 := Later.cell_all e0'; have q0 := Later.cell_all n0; have q1 := Later.cell_all n1; have z1 := Later.cell_all y1; have z2 := Later.cell_all y2
            go_wp2_with fail
            refine wp_region_later (by kernel_rfl) (by kernel_rfl) ?_
            repeat (go_big_quiet_step (first | fail))
            refine wpQuiet_nil ?_
            intro _ hw'
            obtain ⟨xq, hw''⟩ := hw'
            subst hw''
            have hbq := xq.h
            generalize xq.to = wq at hbq ⊢
            clear e0 q0 q1 z1 z2 e0'
            replace y1 := cell_later hbq y1; replace y2 := cell_later hbq y2; replace p2 := cell_later hbq p2
            replace n0 := cell_later hbq n0; replace n1 := cell_later hbq n1
            replace hLr := SlOf.below hLr hbq
            replace hwr := below_trans hwr hbq
            clear hbb
            go_wp2_with fail
            go_loopw [11, 12] (fun c j wr => ∃ (k : Nat) (b : Bool), k ≤ rest.length ∧ c = .bool b ∧ j = .int .i64 k ∧ Hid (b = (bb && (rest.take k).all fun y => !(y.rev == x.rev))) ∧ Below wq.heap.size wq wr) (fun _ j _ => rest.length - (intOf j).toNat)
            case atStart => exact ⟨0, bb, Nat.zero_le _, rfl, rfl, by show _ = _; simp, Below.refl _ _⟩
            case round =>
              obtain ⟨k, b, hk, rfl, rfl, Hb, hb⟩ := hrel
              have r2' := cell_later hb p2; have r3' := cell_later hb y1; have r4' := cell_later hb y2
              by_cases hkn : k < rest.length
              · obtain ⟨y, hy⟩ := get_of_lt hkn
                obtain ⟨bq, oq, rfl, _, hcq⟩ := Links.at hLr hkn
                obtain ⟨e1', e2', e3'⟩ := hcq y hy
                replace e1' := cell_later hb e1'; replace e2' := cell_later hb e2'; replace e3' := cell_later hb e3'
                have e1 := Later.cell_all e1'; have e2 := Later.cell_all e2'; have e3 := Later.cell_all e3'
                have r2 := Later.cell_all r2'; have r3 := Later.cell_all r3'; have r4 := Later.cell_all r4'
                have hk1 : (k : Int) < (rest.length : Int) := by omega
                have hk0 : (0 : Int) ≤ (k : Int) := by omega
                have Hy := Lib.hid hy
                clear hy hcq e1' e2' e3'
                cases b
                · have Hn := Lib.hid (alone_false (k := k) Hb.out)
                  clear e1 e2 e3
                  go_wp2_with fail
                  refine wp_region_later (by kernel_rfl) (by kernel_rfl) ?_
                  repeat (go_big_quiet_step (first | fail))
                  refine wpQuiet_nil ?_
                  intro _ hw'
                  obtain ⟨xq, hw''⟩ := hw'
                  subst hw''
                  have hbc2 := xq.h
                  generalize xq.to = wc2 at hbc2 ⊢
                  go_wp2_with fail
                  refine ⟨?rel, ?measure⟩
                  case rel => exact ⟨k + 1, false, by omega, rfl, by go_num, Hn.out, below_trans hb hbc2⟩
                  case measure => first | (simp [intOf]; done) | (simp [intOf]; omega)
                · by_cases hyx : y.rev = x.rev
                  · have d0 : (y.rev != x.rev) = false := by simpa using hyx
                    have Hn := Lib.hid (alone_no (f := Link.rev) Hy.out hyx Hb.out)
                    clear hyx
                    go_wp2_with fail
                    refine wp_region_later (by kernel_rfl) (by kernel_rfl) ?_
                    repeat (go_big_quiet_step (first | fail))
                    refine wpQuiet_nil ?_
                    intro _ hw'
                    obtain ⟨xq, hw''⟩ := hw'
                    subst hw''
                    have hbc2 := xq.h
                    generalize xq.to = wc2 at hbc2 ⊢
                    go_wp2_with fail
                    refine ⟨?rel, ?measure⟩
                    case rel => exact ⟨k + 1, false, by omega, rfl, by go_num, Hn.out, below_trans hb hbc2⟩
                    case measure => first | (simp [intOf]; done) | (simp [intOf]; omega)
                  · have d0 : (y.rev != x.rev) = true := by simpa using hyx
                    have Hn := Lib.hid (alone_yes (f := Link.rev) Hy.out hyx Hb.out)
                    clear hyx
                    go_wp2_with fail
                    refine wp_region_later (by kernel_rfl) (by kernel_rfl) ?_
                    repeat (go_big_quiet_step (first | fail))
                    refine wpQuiet_nil ?_
                    intro _ hw'
                    obtain ⟨xq, hw''⟩ := hw'
                    subst hw''
                    have hbc2 := xq.h
                    generalize xq.to = wc2 at hbc2 ⊢
                    go_wp2_with fail
                    refine ⟨?rel, ?measure⟩
                    case rel => exact ⟨k + 1, true, by omega, rfl, by go_num, Hn.out, below_trans hb hbc2⟩
                    case measure => first | (simp [intOf]; done) | (simp [intOf]; omega)
              · have hfin : b = aloneB Link.rev rest x.rev n := by
                  have := Hb.out
                  rw [List.take_of_length_le (by omega)] at this
                  rw [this, ← Hbb.out]; rfl
                have hbqr := below_trans hbq hb
                have hTr := HT.out.trans (touch_below hbqr [gl])
                have HTr := Lib.hid hTr
                have hownR := HO.out.below hbqr
                have hMr := heap_below HMr.out hbqr (heap_lt HMr.out)
                cases b
                · have Hs2 : Hid (((g.rev).take (i + 1)).filter (fun n => !aloneB Link.rev rest x.rev n) = ((g.rev).take i).filter (fun n => !aloneB Link.rev rest x.rev n) ++ [n]) := Lib.hid (by rw [Hsn.out, ← hfin]; rfl)
                  have hlen : (((g.rev).take i).filter (fun n => !aloneB Link.rev rest x.rev n)).length ≤ 40 := by
                    have h2 := List.length_filter_le (fun n => !aloneB Link.rev rest x.rev n) ((g.rev).take i)
                    rw [List.length_take] at h2
                    omega
                  clear hfin Hsn Hb
                  replace n0 := cell_later hb n0; replace n1 := cell_later hb n1
                  go_wp2_with fail
                  clear p2 r2' r3' r4' y1 y2
                  have hba : Below wr.heap.size wr wr.drew := (Below.refl _ _).drew
                  obtain ⟨wa, hwa⟩ : ∃ W, wr.drew = W := ⟨_, rfl⟩
                  rw [hwa] at hba
                  have hMa := heap_below hMr hba (heap_lt hMr)
                  have e0 := Hca.out wa (below_trans (below_trans hwr hb) hba)
                  have m0 := cell_later hba n0; have m1 := cell_later hba n1
                  have hne : ∀ j, u.ownBlock = some j → wX.heap.size ≤ j := fun j e => (hownR.lt j e).1
                  have hnb : ∀ c, c < wX.heap.size → some c ≠ u.ownBlock := fun c hc e => by have := hne c e.symm; omega
                  have hglX : gl < wX.heap.size := heap_lt hblk
                  have hwwX : w.heap.size < wX.heap.size := by omega
                  have hbaX : ba < wX.heap.size := by omega
                  have Fc := Lib.hid (fun (w' : World) (hS : wa.grownBy w' u.ownBlock) => (⟨cell_grown hS ((heap_cell (i := 1) hMa).trans rfl) (hnb _ hglX), cell_grown hS m0 (hnb _ hwwX), cell_grown hS m1 (hnb _ hwwX), cell_grown hS e0 (hnb _ hbaX)⟩ :
                    w'.cell? ⟨gl, 1, none⟩ = some u ∧ w'.cell? ⟨w.heap.size, 0, none⟩ = some (.slice A1 g.obv.length c1) ∧ w'.cell? ⟨w.heap.size, 1, none⟩ = some (.slice (some ⟨ba, oa, none⟩) g.rev.length c2) ∧ w'.cell? ⟨ba, oa + i, none⟩ = some (.int .i64 n)))
                  have hHeld : wa.grownBy wa u.ownBlock := World.grownBy.refl _ _
                  have hownA := hownR.below hba
                  have hsza : wX.heap.size ≤ wa.heap.size := by have := hba.size; have := hb.size; have := hbq.size; omega
                  have HMa := Lib.hid hMa; have Hba := Lib.hid hba
                  refine wp_region_S 9 (fun w' => wa.grownBy w' u.ownBlock) (by kernel_rfl) (by decide) ?_
                  rw [hwa]
                  clear hwa hMr n0 n1 n2 hMa hba e0 m0 m1 hownR hTr
                  refine wpAnyS_takeD 0 (some 141) (.pointer (some ⟨gl, 1, none⟩)) (by rfl) (by rfl) (by kernel_rfl) (by exact fun _ _ _ h => h) (by rfl) (fun w' hS => by go_simp) hHeld ?_
                  simp only [Act.put, List.setIfInBounds_toArray, List.set_cons_succ, List.set_cons_zero]
                  refine wpAnyS_takeD 1 (some 142) u (by rfl) (by rfl) (by kernel_rfl) (by exact fun _ _ _ h => h) (by rfl) (fun w' hS => by (obtain ⟨g0, g1, g2, g3⟩ := Fc.out w' hS; go_simp)) hHeld ?_
                  simp only [Act.put, List.setIfInBounds_toArray, List.set_cons_succ, List.set_cons_zero]
                  refine wpAnyS_takeD 2 (some 143) (.pointer (some ⟨w.heap.size, 1, none⟩)) (by rfl) (by rfl) (by kernel_rfl) (by exact fun _ _ _ h => h) (by rfl) (fun w' hS => by go_simp) hHeld ?_
                  simp only [Act.put, List.setIfInBounds_toArray, List.set_cons_succ, List.set_cons_zero]
                  refine wpAnyS_takeD 3 (some 144) (.slice (some ⟨ba, oa, none⟩) g.rev.length c2) (by rfl) (by rfl) (by kernel_rfl) (by exact fun _ _ _ h => h) (by rfl) (fun w' hS => by (obtain ⟨g0, g1, g2, g3⟩ := Fc.out w' hS; go_simp)) hHeld ?_
                  simp only [Act.put, List.setIfInBounds_toArray, List.set_cons_succ, List.set_cons_zero]
                  refine wpAnyS_takeD 4 (some 145) (.int .i64 i) (by rfl) (by rfl) (by kernel_rfl) (by exact fun _ _ _ h => h) (by rfl) (fun w' hS => by go_simp) hHeld ?_
                  simp only [Act.put, List.setIfInBounds_toArray, List.set_cons_succ, List.set_cons_zero]
                  refine wpAnyS_takeD 5 (some 146) (.pointer (some ⟨ba, oa + i, none⟩)) (by rfl) (by rfl) (by kernel_rfl) (by exact fun _ _ _ h => h) (by rfl) (fun w' hS => by go_simp) hHeld ?_
                  simp only [Act.put, List.setIfInBounds_toArray, List.set_cons_succ, List.set_cons_zero]
                  refine wpAnyS_takeD 6 (some 147) (.int .i64 n) (by rfl) (by rfl) (by kernel_rfl) (by exact fun _ _ _ h => h) (by rfl) (fun w' hS => by (obtain ⟨g0, g1, g2, g3⟩ := Fc.out w' hS; go_simp)) hHeld ?_
                  simp only [Act.put, List.setIfInBounds_toArray, List.set_cons_succ, List.set_cons_zero]
                  clear hHeld Fc
                  refine wpAnyS_one 7 (by kernel_rfl) (by rfl) (by decide) (fun K hK => ?_)
                  have HK := Lib.hid hK; clear hK
                  rw [if_pos (by rfl)]
                  go_simp
                  obtain ⟨wb, hwb⟩ : ∃ W, World.alloc wa (.cells #[.int .i64 n] 3) = W := ⟨_, rfl⟩
                  rw [hwb]
                  have hbb1 : wb.heap[wa.heap.size]? = some (.cells (encI n).toArray 3 (0, 0)) := by rw [← hwb]; exact heap_alloc_new _ _
                  have hgb : wa.grownBy wb u.ownBlock := by rw [← hwb]; exact World.grownBy_alloc _ _ _
                  have hownB : OwnI wX.heap.size wb u (((g.rev).take i).filter fun n => !aloneB Link.rev rest x.rev n) := by rw [← hwb]; exact hownA.alloc _
                  have hszb : wX.heap.size ≤ wb.heap.size := by have := hgb.size; omega
                  clear hwb
                  refine HK.out _ _ hgb ?_
                  clear HK
                  refine wpAnyS_one 8 (by kernel_rfl) (by rfl) (by decide) (fun K hK => ?_)
                  have HK := Lib.hid hK; clear hK
                  refine step_append_sl (by rfl) (.tmp 142) (.tmp 148) _ (by rfl) iI _ 8 Try.underlying22 hiI hzI hkI hbI (by rfl) (by decide) oneI (by rfl) hownB _ 1 1 [n] (by rfl) (by rfl) (sl_one (by rfl) hbb1) (by simp; omega) (by simp; omega) hszb ?_
                  intro v1 wc3 hownC hgc hat
                  have hgac := hgb.trans hgc
                  refine HK.out _ _ hgac ?_
                  clear HK
                  have hMc := (hgac.block _ (heap_lt HMa.out) (hnb _ hglX)).trans HMa.out
                  have f0 := (heap_cell (i := 1) hMc).trans rfl; have f1 := heap_free (i := 1) hMc
                  have HMc := Lib.hid hMc; have HC := Lib.hid hownC; have HG := Lib.hid hgac
                  clear hMc hgac hgc hgb hbb1 hownB hownC hownA
                  refine (show tailOf _ _ _ _ _ _ _ _ from ⟨by kernel_rfl, ?_⟩)
                  simp only [List.drop_succ_cons, List.drop_zero]
                  obtain ⟨gv, cv, rfl⟩ := HC.out.form (m := (((g.rev).take i).filter fun n => !aloneB Link.rev rest x.rev n).length + 1) (by simp)
                  go_wp2_with fail
                  have hset := set1_grown wc3 gl 1 (.slice (some ⟨gv, 0, none⟩) ((((g.rev).take i).filter fun n => !aloneB Link.rev rest x.rev n).length + 1) cv)
                  refine ⟨?rel, ?measure⟩
                  case rel =>
                    refine ⟨i + 1, .slice (some ⟨gv, 0, none⟩) ((((g.rev).take i).filter fun n => !aloneB Link.rev rest x.rev n).length + 1) cv, by omega, by go_num, ?_, ?_, (HTr.out.trans (touch_below Hba.out [gl])).trans_own HG.out hne |>.trans (grown_touch hset (by simp))⟩
                    · have := heap_setCell_same wc3 gl 1 _ _ (.slice (some ⟨gv, 0, none⟩) ((((g.rev).take i).filter fun n => !aloneB Link.rev rest x.rev n).length + 1) cv) HMc.out
                      simpa using this
                    · rw [Hs2.out]
                      refine Own.kept HC.out hset (.inr fun e => ?_)
                      have := (HC.out.lt _ e).1
                      omega
                  case measure => first | (simp [intOf]; done) | (simp [intOf]; omega)
                · have Hs2 : Hid (((g.rev).take (i + 1)).filter (fun n => !aloneB Link.rev rest x.rev n) = ((g.rev).take i).filter (fun n => !aloneB Link.rev rest x.rev n)) := Lib.hid (by rw [Hsn.out, ← hfin]; simp)
                  have HMr2 := Lib.hid hMr; have HOR := Lib.hid hownR
                  clear hfin Hsn Hb hMr hownR
                  go_wp2_with fail
                  refine ⟨?rel, ?measure⟩
                  case rel => exact ⟨i + 1, u, by omega, by go_num, HMr2.out, by rw [Hs2.out]; exact HOR.out, HTr.out⟩
                  case measure => first | (simp [intOf]; done) | (simp [intOf]; omega)
          · have e1 : g.rev.take i = g.rev := List.take_of_length_le (by omega)
            rw [e1] at hown
            clear e1
            obtain ⟨mv, hmv⟩ : ∃ m, (g.rev.filter fun n => !aloneB Link.rev rest x.rev n).length = m := ⟨_, rfl⟩
            obtain ⟨Av, cv, rfl, _, hcv⟩ := hown.slOf
            have hI : Ints wr (.slice Av (g.rev.filter fun n => !aloneB Link.rev rest x.rev n).length cv) (g.rev.filter fun n => !aloneB Link.rev rest x.rev n) := hown.slOf
            rw [hmv] at hI hMr
            have hgl : GraphAt wr (.agg #[.slice Au mu cu, .slice Av mv cv, .slice Al rest.length cl]) (lessG g x rest) := ⟨_, _, _, rfl, HU.out wr hT, hI, hLr⟩
            have hwfl : WfG (lessG g x rest) := ⟨fun n hn => hwf.o n (List.mem_filter.1 hn).1, fun n hn => hwf.r n (List.mem_filter.1 hn).1⟩
            have m0 := (heap_cell (i := 0) hMr).trans rfl; have m1 := (heap_cell (i := 1) hMr).trans rfl; have m2 := (heap_cell (i := 2) hMr).trans rfl
            obtain ⟨na, hna⟩ : ∃ n, (mchG g).length = n := ⟨_, rfl⟩
            obtain ⟨nb, hnb⟩ : ∃ n, (mchG (lessG g x rest)).length = n := ⟨_, rfl⟩
            obtain ⟨s1, s2⟩ := hsizes.out
            rw [hna, hnb] at s1 s2
            have v1 : validE g = 0 := by simp [validE, Hg.out]
            have v2 : validE (lessG g x rest) = 0 := by simp [validE, hkk2.out]
            have HS1 := Size_ok g hwf _ _ (h0.below hwr)
            rw [v1, sizeG, hna] at HS1
            have HS1' := Lib.hid HS1
            have HS2 := fun w' (hb : Below wr.heap.size wr w') => Size_ok (lessG g x rest) hwfl _ w' (hgl.below hb)
            rw [v2, sizeG, hnb] at HS2
            have HS2' := Lib.hid HS2
            have na1 : (na : Int) ≤ 32 := by have := mchG_len g; omega
            have na0 : (0 : Int) ≤ (na : Int) := by omega
            have t1 : decide (nb ≤ na) = true := decide_eq_true s1
            have t2 : decide ((nb : Int) ≤ (na : Int)) = true := decide_eq_true (by omega)
            have t3 : decide ((na : Int) - 1 ≤ (nb : Int)) = true := decide_eq_true (by omega)
            have t4 : decide ((na : Int) ≤ (nb : Int) + 1) = true := decide_eq_true (by omega)
            clear hmv hI hgl hwfl hown hMr hna hnb s1 s2 v1 v2 HS1 HS2 HU HL hkk2 hsizes hcv p2 hLr
            go_wp2_with fail
            refine HS1'.out.mono ?_
            rintro e w5 ⟨rfl, hb5⟩
            clear HS1'
            replace m0 := cell_later hb5 m0; replace m1 := cell_later hb5 m1; replace m2 := cell_later hb5 m2
            go_wp2_with fail
            refine (HS2'.out w5 hb5).mono ?_
            rintro e w6 ⟨rfl, hb6⟩
            clear HS2'
            go_wp2_with fail
            go_ret
            exact ⟨by first | rfl | (simp; omega) | (simp; done), below_trans hwr (below_trans hb5 hb6)⟩

set_option maxRecDepth 100000 in
theorem more_lifted (os : Os) (started : os.Started) (H : Type) (enc : TypeId × Value → H) :
    ReturnsInHanded {} Try.checked os 4 .any (Rows.coverMoreSpec.pre6 enc Try.prog Try.f4 Rows.coverMoreRow.domain false) (Rows.coverMoreSpec.post enc Try.prog Try.f4 false true false false) := by
  refine returnsInHanded_of_change (C := Try.checked) Try.own started (by kernel_rfl) Try.func4
    (ChangeSpec.witness6 (enc := enc) (C := Try.checked) false ⟨#[], #[.agg #[.slice none 0 0, .slice none 0 0, .slice none 0 0], .int .i64 0], []⟩ 8 (by kernel_rfl) (by kernel_rfl) (by kernel_rfl) (by kernel_rfl)) ?_
  intro W base args ds gs before hval0 hW hcnd _
  have hval : ∀ (j : Nat) t v, Try.f4.params[j]? = some t → args[j]? = some v → Value.okWide Try.prog W .any base t v := hval0
  have hW' := hW
  obtain ⟨p, q, hA0, hV, rfl, hfz, hnd⟩ := hW
  have hA : DataW.TrodAll enc Try.prog W 0 (fun _ => true) true Try.f4.params.toList args.toList ds p := hA0
  rw [Try.params4] at hA hval
  obtain ⟨v0, v1, d0, d1, p0, p1, rfl, rfl, rfl, h0, h1⟩ := trodAll_two hA
  obtain ⟨rfl, rfl⟩ := trodVars_none hV
  have k0 := h0
  have lt0 : ∀ x ∈ p0, x.block < W.heap.size := by obtain ⟨m, hm⟩ := k0; exact DataW.trod_lt m _ _ _ hm
  obtain ⟨g0, hg0, wa0, wb0⟩ := opens_graph_wf (hval 0 25 v0 rfl rfl) h0
  obtain ⟨n1, rfl, rfl, rfl, wn1⟩ := open_int Try.underlying3 (hval 1 3 v1 rfl rfl) h1
  clear hA0 hval0
  refine (more_walk v0 g0 n1 W hg0 wa0 wb0 wn1).mono fun e W' ⟨he, bel⟩ => ?_
  subst he
  exact ⟨_, rfl, _, _, _, [], _, [], hW', trodAll_mk1 (shut_bool Try.underlying4 _), trodAll_mk2 (Below.trod Try.laidOut (by kernel_rfl) (of_decide_eq_true (by kernel_rfl)) k0 bel lt0) (shut_int Try.underlying3 wn1), rfl, bel.frame _, fun h => by cases h⟩

theorem more_holds : Rows.CoverMoreSaid :=
  OpenClaim.holds_of_wide 4 Try.f4 rfl rfl rfl rfl rfl rfl rfl ⟨rfl, rfl, rfl, rfl, rfl⟩ rfl rfl rfl rfl rfl (by kernel_rfl) Try.func4 (by kernel_rfl)
    (of_decide_eq_true (by kernel_rfl)) (by unfold Func.isWrapper; first | (rw [if_pos (by decide +kernel)]; kernel_rfl) | (rw [if_neg (by decide +kernel)]; exact ⟨rfl, rfl⟩))
    (fun os started H enc _ => more_lifted os started H enc)
end Go.Proofs.Ytnaoiochfdipiaa
