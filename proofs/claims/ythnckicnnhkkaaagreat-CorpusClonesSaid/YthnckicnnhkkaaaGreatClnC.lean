/- Law CorpusClones. -/
import Derived.Test.YthnckicnnhkkaaaGreatGooP
import Derived.Test.YthnckicnnhkkaaaGreatAwkC
import Derived.Test.YthnckicnnhkkaaaGreatRows
import Derived.Test.YthnckicnnhkkaaaGreatHolClnC
namespace Go.Proofs.YthnckicnnhkkaaaGreat
open Go.RowKit Go.Shelf Go.ChangeShapes Go.WideShapes Go.ChangeAt Go.Maps

theorem CJoin_nil (u : Option Addr) (w : World) : Calls Tryz.prog 42 #[.pointer none, .pointer u] w fun e w' => e = .returned (.int .i64 1) ∧ Below w.heap.size w w' := by
  go_enter Tryz.func42, Tryz.ntmps42
  go_wp2
  go_ret
  exact ⟨rfl, Below.refl _ _⟩
theorem CJoin_no (p : Nat) (w : World) : Calls Tryz.prog 42 #[.pointer (some ⟨p, 0, none⟩), .pointer none] w fun e w' => e = .returned (.int .i64 1) ∧ Below w.heap.size w w' := by
  go_enter Tryz.func42, Tryz.ntmps42
  go_wp2
  go_ret
  exact ⟨rfl, Below.refl _ _⟩
theorem cla_nil {C : List Pair} (h : ClaL (rawC (standL [] []) []) C) : C = [] := h.uniq ⟨List.Pairwise.nil, by simp [rawC, standL]⟩
theorem cha_nil : chaE (effL (standL [] []) []) = 0 ∧ chaL (effL (standL [] []) []) = [] := by
  have e : effL (standL [] []) [] = [] := rfl
  have h0 : ofE [] = 0 := by decide
  rw [e]
  refine ⟨by unfold chaE; rw [if_pos h0]; decide, ?_⟩
  unfold chaL
  rw [if_pos h0]
  have : (chainsG (ofG [])).length = 0 := by rw [count_chains h0]; decide
  exact List.eq_nil_of_length_eq_zero this
set_option maxHeartbeats 16000000 in
set_option maxRecDepth 100000 in
theorem clnC_walk (v : Value) (a : List OpC) (u : Value) (b : List OpC) (w : World) (h : OpsC w v a) (h' : OpsC w u b) :
    Calls Tryz.prog 10 #[v, u] w fun e w' => e = .returned (.bool true) ∧ Below w.heap.size w w' := by
  have HOp := Lib.hid h
  obtain ⟨A, c, rfl, _⟩ := h.at
  obtain ⟨B, cB, rfl, _, _, hBl⟩ := h'.at
  have HBl := Lib.hid hBl; have HBo := Lib.hid h'.2
  obtain ⟨X, hX⟩ : ∃ x, doAll a = x := ⟨_, rfl⟩
  have HG := Lib.hid (good_all a)
  rw [hX] at HG
  have HX := Lib.hid hX
  clear hX h h' hBl
  obtain ⟨L, D, K⟩ := X
  go_enter Tryz.func10, Tryz.ntmps10
  go_wp2_with fail
  refine (wake52_ok _).mono ?_
  rintro e w0 ⟨rfl, hb0⟩
  by_cases hfew : (30 : Int) < ((a.length : Nat) : Int)
  · go_wp2_with fail
    refine (wake52_ok _).mono ?_
    rintro e w1 ⟨rfl, hb1⟩
    go_wp2_with fail
    go_ret
    exact ⟨rfl, below_trans hb0 hb1⟩
  by_cases hfew2 : (30 : Int) < ((b.length : Nat) : Int)
  · go_wp2_with fail
    refine (wake52_ok _).mono ?_
    rintro e w1 ⟨rfl, hb1⟩
    go_wp2_with fail
    go_ret
    exact ⟨rfl, below_trans hb0 hb1⟩
  have HM := Lib.hid (made_ok _ a w0 ⟨HOp.out.1.below hb0, HOp.out.2⟩)
  rw [HX.out] at HM
  clear HOp HX
  go_wp2_with fail
  refine HM.out.mono ?_
  rintro e w1 ⟨p, q, S, T, rfl, hc, hr, hd, hS, hT, hb1⟩
  have hw1 := below_trans hb0 hb1
  have HC := Lib.hid hc; have HCl := Lib.hid hc.lt; have HR := Lib.hid hr; have HRl := Lib.hid hr.lt; have HD := Lib.hid hd
  have HFS : Hid (∀ j ∈ S, w.heap.size ≤ j) := Lib.hid fun j hj => Nat.le_trans hb0.size (hS j hj)
  clear hc hr hd hS hT HM
  obtain ⟨Sc, hSc⟩ : ∃ z, z = S := ⟨_, rfl⟩
  rw [← hSc] at HC HCl HD HFS
  clear hSc
  go_wp2_with fail
  refine (CClone_ok Sc p L D K w1 HC.out).mono ?_
  rintro e w3 ⟨n, Sx, rfl, hn, hSx, hb3⟩
  have HN := Lib.hid hn
  have HFSx : Hid (∀ j ∈ Sx, w.heap.size ≤ j) := Lib.hid fun j hj => Nat.le_trans hw1.size (hSx j hj)
  have HSx := Lib.hid hSx
  have hw3 := below_trans hw1 hb3
  have HC3 := Lib.hid (HC.out.below hb3); have HR3 := Lib.hid (HR.out.below hb3)
  clear hn hSx HC HR
  go_wp2_with fail
  go_loopw [8] (fun t wr => ∃ (k : Nat) (S : List Nat), k ≤ b.length ∧ t = .int .i64 k ∧ Hid (CorAt wr S n ((b.take k).foldl doL (L, D, K)).1 ((b.take k).foldl doL (L, D, K)).2.1 ((b.take k).foldl doL (L, D, K)).2.2 ∧ Touch w3 wr Sx ∧ ∀ j ∈ S, j ∈ Sx ∨ w3.heap.size ≤ j)) (fun t _ => b.length - (intOf t).toNat)
  case atStart => exact ⟨0, Sx, Nat.zero_le _, rfl, Lib.hid ⟨HN.out, touch_below (Below.refl _ _) _, fun j hj => .inl hj⟩⟩
  case round =>
    obtain ⟨k, S, hk, rfl, HI⟩ := hrel
    by_cases hlt : k < b.length
    case pos =>
      obtain ⟨x, hx⟩ := get_of_lt hlt
      obtain ⟨bb, o, rfl, hcc⟩ := HBl.out _ hlt
      obtain ⟨hc, ht, hs⟩ := HI.out
      have hbw : Below w.heap.size w wr := ((touch_below hw3 Sx).trans ht).below HFSx.out (Nat.le_refl _)
      obtain ⟨c0, c1, c2, c3, c4, c5, c6, c7, c8, c9, c10, c11, c12, c13, c14, c15⟩ := hcc wr hbw k x hx
      have hl1 : (k : Int) < (b.length : Int) := by omega
      have hE := do_ok S n _ x wr hc (HBo.out x (List.mem_of_getElem? hx))
      have e1 : (b.take (k + 1)).foldl doL (L, D, K) = doL ((b.take k).foldl doL (L, D, K)) x := by rw [take_snoc' hx, List.foldl_append]; rfl
      rw [← e1] at hE
      obtain ⟨E1, hE1⟩ : ∃ z, doE ((b.take k).foldl doL (L, D, K)) x = z := ⟨_, rfl⟩
      rw [hE1] at hE
      have HE := Lib.hid hE
      have Ht := Lib.hid ht; have Hs := Lib.hid hs
      clear hE hcc hx hc ht hs HI e1 hE1
      go_wp2_with fail
      refine HE.out.mono ?_
      rintro e w9 ⟨rfl, S', hc', ht', hs'⟩
      have HR : Hid (CorAt w9 S' n ((b.take (k + 1)).foldl doL (L, D, K)).1 ((b.take (k + 1)).foldl doL (L, D, K)).2.1 ((b.take (k + 1)).foldl doL (L, D, K)).2.2 ∧ Touch w3 w9 Sx ∧ ∀ j ∈ S', j ∈ Sx ∨ w3.heap.size ≤ j) := Lib.hid ⟨hc', Ht.out.fresh ht' Hs.out, fun j hj => (hs' j hj).elim (Hs.out j) (fun h => .inr (by have := Ht.out.size; omega))⟩
      clear hc' ht' hs' HE c0 c1 c2 c3 c4 c5 c6 c7 c8 c9 c10 c11 c12 c13 c14 c15
      go_wp2_with fail
      refine ⟨?rel, ?measure⟩
      case rel => exact ⟨k + 1, S', by omega, by go_num, HR⟩
      case measure => simp [intOf]; omega
    rw [List.take_of_length_le (show b.length ≤ k by omega)] at HI
    obtain ⟨wo1, hwo0⟩ : ∃ z, z = wr := ⟨_, rfl⟩
    subst hwo0
    obtain ⟨hc, ht, hs⟩ := HI.out
    have hbo1 : Below w1.heap.size w1 wo1 := ((touch_below hb3 Sx).trans ht).below HSx.out (Nat.le_refl _)
    have HC4 := Lib.hid (HC3.out.off ht fun j hj hj' => by have h1 := HCl.out j hj; have h2 := HSx.out j hj'; omega)
    have HR4 := Lib.hid (HR3.out.off ht fun j hj hj' => by have h1 := HRl.out j hj; have h2 := HSx.out j hj'; omega)
    have HN4 := Lib.hid hc
    have HN4l := Lib.hid hc.lt
    have HN4f : Hid (∀ j ∈ S, w1.heap.size ≤ j) := Lib.hid fun j hj => (hs j hj).elim (HSx.out j) (fun h => by have := hb3.size; omega)
    obtain ⟨Sn, hSn⟩ : ∃ z, z = S := ⟨_, rfl⟩
    rw [← hSn] at HN4 HN4l HN4f
    clear hc ht hs HI hSn HC3 HR3 HN HSx
    have hw4 := below_trans hw1 hbo1
    go_wp2_with fail
    refine (Specs_ok _ L D K wo1 HC4.out.O).mono ?_
    rintro e w5 ⟨uS, rfl, hoS, hb5⟩
    have HC5 := Lib.hid (HC4.out.below hb5); have HR5 := Lib.hid (HR4.out.below hb5); have HN5 := Lib.hid (HN4.out.below hb5)
    obtain ⟨AS, cS, rfl, _, _, _⟩ := id hoS.slOf
    have hL64 : L.length ≤ 64 := HG.out.ok.lis.len
    have hSg : ∃ Sg : List Nat, (∀ g ∈ Sg, wo1.heap.size ≤ g) ∧ (∀ g ∈ Sg, ∃ cur : Array Value, w5.heap[g]? = some (.cells cur 31 (0, 0)) ∧ L.length * 7 ≤ cur.size) ∧ (0 < L.length → ∃ g, AS = some ⟨g, 0, none⟩ ∧ Sg = [g]) := by
      rcases hoS.2 with ⟨e1, e2⟩ | ⟨g, cap, cur, e1, e2, e3, e4⟩
      · exact ⟨[], by simp, by simp, fun h => by rw [e2] at h; simp at h⟩
      · cases e1
        obtain ⟨cur', q1, q2, q3, q4, q5, _⟩ := hoS.row rfl
        refine ⟨[g], fun j hj => by rw [List.mem_singleton.1 hj]; exact q1, fun j hj => ?_, fun _ => ⟨g, rfl, rfl⟩⟩
        rw [List.mem_singleton.1 hj]
        exact ⟨cur', q2, by have := Nat.mul_le_mul_right 7 q3; omega⟩
    obtain ⟨Sg, hg1, hg2, hg3⟩ := hSg
    have Hg1 := Lib.hid hg1; have Hg2 := Lib.hid hg2; have Hg3 := Lib.hid hg3
    clear hoS hg1 hg2 hg3 HC4 HR4 HN4
    have hw5 := below_trans hw4 hb5
    go_wp2_with fail
    go_loopw [10] (fun t wr => ∃ (k : Nat), k ≤ L.length ∧ t = .int .i64 k ∧ Hid (Touch w5 wr Sg ∧ ∀ g ∈ Sg, ∃ cur : Array Value, wr.heap[g]? = some (.cells cur 31 (0, 0)) ∧ L.length * 7 ≤ cur.size)) (fun t _ => L.length - (intOf t).toNat)
    case atStart => exact ⟨0, Nat.zero_le _, rfl, Lib.hid ⟨touch_below (Below.refl _ _) _, Hg2.out⟩⟩
    case round =>
      obtain ⟨k, hk, rfl, HI⟩ := hrel
      by_cases hlt : k < L.length
      case pos =>
        obtain ⟨g, rfl, eS⟩ := Hg3.out (by omega)
        obtain ⟨ht, hcur⟩ := HI.out
        obtain ⟨cur, hcu, hsz⟩ := hcur g (by rw [eS]; simp)
        have hl1 : (k : Int) < (L.length : Int) := by omega
        have hin : k * 7 + 1 < cur.size := by omega
        have d0 : wr.cell? ⟨g, k * 7 + 1, none⟩ = some cur[k * 7 + 1] := by rw [heap_cell hcu]; simp [hin]
        have d1 : wr.frozen? ⟨g, k * 7 + 1, none⟩ = false := heap_free hcu
        have HR : Hid (Touch w5 (wr.setCell ⟨g, k * 7 + 1, none⟩ (.int .i64 999)) Sg ∧ ∀ g' ∈ Sg, ∃ cur : Array Value, (wr.setCell ⟨g, k * 7 + 1, none⟩ (.int .i64 999)).heap[g']? = some (.cells cur 31 (0, 0)) ∧ L.length * 7 ≤ cur.size) := Lib.hid ⟨ht.trans (touch_set rfl (by rw [eS]; simp)), fun g' hg' => by
          rw [eS, List.mem_singleton] at hg'
          subst hg'
          exact ⟨_, heap_setCell_same wr _ _ _ _ _ hcu, by simpa using hsz⟩⟩
        generalize cur[k * 7 + 1] = z at d0
        have Hlt := Lib.hid hlt
        clear ht hcur hcu hsz hin HI
        go_wp2_with fail
        refine ⟨?rel, ?measure⟩
        case rel => exact ⟨k + 1, by have := Hlt.out; omega, by go_num, HR⟩
        case measure => have := Hlt.out; simp [intOf]; omega
      obtain ⟨wo2, hwo0⟩ : ∃ z, z = wr := ⟨_, rfl⟩
      subst hwo0
      obtain ⟨ht, _⟩ := HI.out
      have hbo2 : Below wo1.heap.size wo1 wo2 := ((touch_below hb5 Sg).trans ht).below Hg1.out (Nat.le_refl _)
      have HC6 := Lib.hid (HC5.out.off ht fun j hj hj' => by have h1 := HCl.out j hj; have h2 := Hg1.out j hj'; have := hbo1.size; omega)
      have HR6 := Lib.hid (HR5.out.off ht fun j hj hj' => by have h1 := HRl.out j hj; have h2 := Hg1.out j hj'; have := hbo1.size; omega)
      have HN6 := Lib.hid (HN5.out.off ht fun j hj hj' => by have h1 := HN4l.out j hj; have h2 := Hg1.out j hj'; omega)
      clear ht HI HC5 HR5 HN5
      have hw6 := below_trans hw4 hbo2
      go_wp2_with fail
      refine (CLedger_ok _ L D K wo2 HC6.out.O).mono ?_
      rintro e w7 ⟨uL, rfl, _, hu, hb7⟩
      obtain ⟨q1, mb, wb, rfl, hl, _, hmb, _⟩ := hu (by simp)
      have HC7 := Lib.hid (HC6.out.below hb7); have HR7 := Lib.hid (HR6.out.below hb7); have HN7 := Lib.hid (HN6.out.below hb7)
      have Hlt6 := Lib.hid HC6.out.lt; have Hlr6 := Lib.hid HR6.out.lt; have Hln6 := Lib.hid HN6.out.lt
      have HE := Lib.hid (dmake_ok q1 mb wb D K ⟨7, 200, 1, 1, 2⟩ w7 hl (by unfold wfDc; decide) (Nat.le_trans HG.out.ok.lenD (by decide)))
      generalize makeE D ⟨7, 200, 1, 1, 2⟩ = EM at HE
      clear hu hl HC6 HR6 HN6
      go_wp2_with fail
      refine HE.out.mono ?_
      clear HE
      rintro e w8 ⟨rfl, _, ht8⟩
      have HC8 := Lib.hid (HC7.out.off ht8 fun j hj hj' => by have h1 := Hlt6.out j hj; rw [List.mem_singleton] at hj'; omega)
      have HR8 := Lib.hid (HR7.out.off ht8 fun j hj hj' => by have h1 := Hlr6.out j hj; rw [List.mem_singleton] at hj'; omega)
      have HN8 := Lib.hid (HN7.out.off ht8 fun j hj hj' => by have h1 := Hln6.out j hj; rw [List.mem_singleton] at hj'; omega)
      have hb8 : Below wo2.heap.size wo2 w8 := ((touch_below hb7 [mb]).trans ht8).below (by simpa using hmb) (Nat.le_refl _)
      have hw8 := below_trans hw6 hb8
      have HSm := Lib.hid (same_ok Sc T p q L D K w8 HC8.out HR8.out)
      clear ht8 HC7 HR7 HN7 HR8
      go_wp2_with fail
      refine HSm.out.mono ?_
      clear HSm
      rintro e w10 ⟨rfl, hb10⟩
      have HC10 := Lib.hid (HC8.out.below hb10); have HN10 := Lib.hid (HN8.out.below hb10)
      have hw10 := below_trans hw8 hb10
      have hw1_10 : Below w1.heap.size w1 w10 := below_trans hbo1 (below_trans hbo2 (below_trans hb8 hb10))
      have HFSc := HFS
      clear HC8 HN8
      go_wp2_with fail
      go_loopw [12] (fun t wr => ∃ (k : Nat) (S : List Nat), k ≤ b.length ∧ t = .int .i64 k ∧ Hid (CorAt wr S p ((b.take k).foldl doL (L, D, K)).1 ((b.take k).foldl doL (L, D, K)).2.1 ((b.take k).foldl doL (L, D, K)).2.2 ∧ Touch w10 wr Sc ∧ ∀ j ∈ S, j ∈ Sc ∨ w10.heap.size ≤ j)) (fun t _ => b.length - (intOf t).toNat)
      case atStart => exact ⟨0, Sc, Nat.zero_le _, rfl, Lib.hid ⟨HC10.out, touch_below (Below.refl _ _) _, fun j hj => .inl hj⟩⟩
      case round =>
        obtain ⟨k, S, hk, rfl, HI⟩ := hrel
        by_cases hlt : k < b.length
        case pos =>
          obtain ⟨x, hx⟩ := get_of_lt hlt
          obtain ⟨bb, o, rfl, hcc⟩ := HBl.out _ hlt
          obtain ⟨hc, ht, hs⟩ := HI.out
          have hbw : Below w.heap.size w wr := ((touch_below hw10 Sc).trans ht).below HFSc.out (Nat.le_refl _)
          obtain ⟨c0, c1, c2, c3, c4, c5, c6, c7, c8, c9, c10, c11, c12, c13, c14, c15⟩ := hcc wr hbw k x hx
          have hl1 : (k : Int) < (b.length : Int) := by omega
          have hE := do_ok S p _ x wr hc (HBo.out x (List.mem_of_getElem? hx))
          have e1 : (b.take (k + 1)).foldl doL (L, D, K) = doL ((b.take k).foldl doL (L, D, K)) x := by rw [take_snoc' hx, List.foldl_append]; rfl
          rw [← e1] at hE
          obtain ⟨E1, hE1⟩ : ∃ z, doE ((b.take k).foldl doL (L, D, K)) x = z := ⟨_, rfl⟩
          rw [hE1] at hE
          have HE := Lib.hid hE
          have Ht := Lib.hid ht; have Hs := Lib.hid hs
          clear hE hcc hx hc ht hs HI e1 hE1
          go_wp2_with fail
          refine HE.out.mono ?_
          rintro e w9 ⟨rfl, S', hc', ht', hs'⟩
          have HR : Hid (CorAt w9 S' p ((b.take (k + 1)).foldl doL (L, D, K)).1 ((b.take (k + 1)).foldl doL (L, D, K)).2.1 ((b.take (k + 1)).foldl doL (L, D, K)).2.2 ∧ Touch w10 w9 Sc ∧ ∀ j ∈ S', j ∈ Sc ∨ w10.heap.size ≤ j) := Lib.hid ⟨hc', Ht.out.fresh ht' Hs.out, fun j hj => (hs' j hj).elim (Hs.out j) (fun h => .inr (by have := Ht.out.size; omega))⟩
          clear hc' ht' hs' HE c0 c1 c2 c3 c4 c5 c6 c7 c8 c9 c10 c11 c12 c13 c14 c15
          go_wp2_with fail
          refine ⟨?rel, ?measure⟩
          case rel => exact ⟨k + 1, S', by omega, by go_num, HR⟩
          case measure => simp [intOf]; omega
        rw [List.take_of_length_le (show b.length ≤ k by omega)] at HI
        obtain ⟨wo3, hwo0⟩ : ∃ z, z = wr := ⟨_, rfl⟩
        subst hwo0
        obtain ⟨hc, ht, hs⟩ := HI.out
        have hbo3 : Below w.heap.size w wo3 := ((touch_below hw10 Sc).trans ht).below HFSc.out (Nat.le_refl _)
        have HC11 := Lib.hid hc
        have HN11 := Lib.hid (HN10.out.off ht fun j hj hj' => by have h1 := HCl.out j hj'; have h2 := HN4f.out j hj; omega)
        clear hc ht hs HI HC10 HN10
        generalize (b.foldl doL (L, D, K)) = Y at HC11 HN11
        obtain ⟨L', D', K'⟩ := Y
        go_wp2_with fail
        refine (CCons_ok (.pointer none) [] [] [] wo3 (.inl ⟨rfl, rfl, rfl, rfl⟩)).mono ?_
        rintro e v1 ⟨C0, hcl, rfl, hv1⟩
        obtain rfl := cla_nil hcl
        rw [show effL (standL [] []) [] = [] from rfl, gather_nil, cons_nil]
        go_wp2_with fail
        have hE := CChains_ok (.pointer none) [] [] [] v1 (.inl ⟨rfl, rfl, rfl, rfl⟩)
        rw [cha_nil.1, cha_nil.2] at hE
        refine hE.mono ?_
        clear hE
        rintro e v2 ⟨uC, rfl, hR, hv2⟩
        obtain ⟨AC, cC, rfl, _⟩ := hR.rows.cells
        have hv12 := below_trans hv1 hv2
        clear hR hcl
        have hE := CSame_ok _ _ L' L' D' D' K' K' v2 (HN11.out.below hv12).O (HC11.out.below hv12).O
        rw [show (decide (L' = L') && (decide (D' = D') && decide (K' = K'))) = true from by simp] at hE
        have HE := Lib.hid hE
        clear hE
        go_wp2_with fail
        refine HE.out.mono ?_
        clear HE
        rintro e v3 ⟨rfl, hv3⟩
        go_wp2_with fail
        refine (CNew_ok v3).mono ?_
        rintro e v4 ⟨pn, Sq, rfl, hn, _, hv4⟩
        have hE := CSame_ok (.pointer none) _ [] [] [] [] [] [] v4 (.inl ⟨rfl, rfl, rfl, rfl⟩) hn.O
        rw [show (decide (([] : List Spec) = []) && (decide (([] : List Dec) = []) && decide (([] : List Mrk) = []))) = true from by decide] at hE
        have HE := Lib.hid hE
        clear hE hn
        go_wp2_with fail
        refine HE.out.mono ?_
        clear HE
        rintro e v5 ⟨rfl, hv5⟩
        go_wp2_with fail
        refine (Specs_ok (.pointer none) [] [] [] v5 (.inl ⟨rfl, rfl, rfl, rfl⟩)).mono ?_
        rintro e v6 ⟨u1, rfl, ho1, hv6⟩
        obtain ⟨A1, c1, rfl, _⟩ := id ho1.slOf
        clear ho1
        go_wp2_with fail
        refine (Effective_ok (.pointer none) [] [] [] v6 (.inl ⟨rfl, rfl, rfl, rfl⟩)).mono ?_
        rintro e v7 ⟨u2, rfl, ho2, hv7⟩
        obtain ⟨A2, c2, rfl, _⟩ := id ho2.slOf
        rw [show effL (standL [] []) [] = [] from rfl] at ho2 ⊢
        clear ho2
        go_wp2_with fail
        refine (Claims_ok (.pointer none) [] [] [] v7 (.inl ⟨rfl, rfl, rfl, rfl⟩)).mono ?_
        rintro e v8 ⟨u3, C1, rfl, ho3, hcl, _, hv8⟩
        obtain rfl := cla_nil hcl
        obtain ⟨A3, c3, rfl, _⟩ := id ho3.slOf
        clear ho3 hcl
        go_wp2_with fail
        refine (CJoin_nil _ _).mono ?_
        rintro e v9 ⟨rfl, hv9⟩
        go_wp2_with fail
        refine (CJoin_no _ _).mono ?_
        rintro e v10 ⟨rfl, hv10⟩
        go_wp2_with fail
        go_ret
        exact ⟨rfl, below_trans hbo3 (below_trans hv12 (below_trans hv3 (below_trans hv4 (below_trans hv5 (below_trans hv6 (below_trans hv7 (below_trans hv8 (below_trans hv9 hv10))))))))⟩


set_option maxRecDepth 100000 in
theorem clnC_lifted (os : Os) (started : os.Started) (H : Type) (enc : TypeId × Value → H) :
    ReturnsInHanded {} Tryz.checked os 10 .any (Rows.corpusClonesSpec.pre6 enc Tryz.prog Tryz.f10 Rows.corpusClonesRow.domain false) (Rows.corpusClonesSpec.post enc Tryz.prog Tryz.f10 false true false false) := by
  refine returnsInHanded_of_change (C := Tryz.checked) Try.own started (by kernel_rfl) Tryz.func10
    (ChangeSpec.witness6 (enc := enc) (C := Tryz.checked) false ⟨#[], #[.slice none 0 0, .slice none 0 0], []⟩ 8 (by kernel_rfl) (by kernel_rfl) (by kernel_rfl) (by kernel_rfl)) ?_
  intro W base args ds gs before hval0 hW hcnd _
  have hval : ∀ (j : Nat) t v, Tryz.f10.params[j]? = some t → args[j]? = some v → Value.okWide Tryz.prog W .any base t v := hval0
  have hW' := hW
  obtain ⟨p, q, hA0, hV, rfl, hfz, hnd⟩ := hW
  have hA : DataW.TrodAll enc Tryz.prog W 0 (fun _ => true) true Tryz.f10.params.toList args.toList ds p := hA0
  rw [Tryz.params10] at hA hval
  obtain ⟨v0, v1, d0, d1, p0, p1, rfl, rfl, rfl, h0, h1⟩ := trodAll_two hA
  obtain ⟨rfl, rfl⟩ := trodVars_none hV
  have k0 := h0
  have lt0 : ∀ x ∈ p0, x.block < W.heap.size := by obtain ⟨m, hm⟩ := k0; exact DataW.trod_lt m _ _ _ hm
  obtain ⟨x0, hx0⟩ := opens_opsC (hval 0 22 v0 rfl rfl) h0
  have k1 := h1
  have lt1 : ∀ x ∈ p1, x.block < W.heap.size := by obtain ⟨m, hm⟩ := k1; exact DataW.trod_lt m _ _ _ hm
  obtain ⟨x1, hx1⟩ := opens_opsC (hval 1 22 v1 rfl rfl) h1
  clear hA0 hval0
  refine (clnC_walk v0 x0 v1 x1 W hx0 hx1).mono fun e W' ⟨he, bel⟩ => ?_
  subst he
  exact ⟨_, rfl, _, _, _, [], _, [], hW', trodAll_mk1 (shut_bool Tryz.underlying4 _), trodAll_mk2 (Below.trod Try.laidOut (by kernel_rfl) (of_decide_eq_true (by kernel_rfl)) k0 bel lt0) (Below.trod Try.laidOut (by kernel_rfl) (of_decide_eq_true (by kernel_rfl)) k1 bel lt1), rfl, bel.frame _, fun h => by cases h⟩

theorem clnC_holds : Rows.CorpusClonesSaid :=
  OpenClaim.holds_of_wide 10 Tryz.f10 rfl rfl rfl rfl rfl rfl rfl ⟨rfl, rfl, rfl, rfl, rfl⟩ rfl rfl rfl rfl rfl (by kernel_rfl) Tryz.func10 holClnC_closed
    (of_decide_eq_true (by kernel_rfl)) (by unfold Func.isWrapper; first | (rw [if_pos (by decide +kernel)]; kernel_rfl) | (rw [if_neg (by decide +kernel)]; exact ⟨rfl, rfl⟩))
    (fun os started H enc _ => clnC_lifted os started H enc)
end Go.Proofs.YthnckicnnhkkaaaGreat
