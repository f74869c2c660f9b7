/- slices.Index and Contains at numbers; Clone, IndexFunc and DeleteFunc at specimens. No condition but a bound of the length. -/
import Derived.Test.YtcpobcfncmcakaaDelL
import Derived.Test.YtcpobcfncmcakaaIter
import Derived.Test.YtcpobcfncmcakaaFresh
namespace Go.Proofs.Ytcpobcfncmcakaa
open Go.RowKit

set_option maxHeartbeats 4000000 in
set_option maxRecDepth 100000 in
theorem indexI_ok (v : Value) (xs : List Int) (x : Int) (w : World) (h : Ints w v xs) :
    Calls Try.prog 51 #[v, .int .i64 x] w fun e w' => e = .returned (.int .i64 (firstI (fun y => x == y) xs)) ∧ Below w.heap.size w w' := by
  obtain ⟨A, c, rfl, _, _, hc⟩ := h.cells
  go_enter Try.func51, Try.ntmps51
  go_wp2
  go_loopw [8] (fun i wr => ∃ k : Nat, k ≤ xs.length ∧ i = .int .i64 k ∧ Hid ((xs.take k).all (fun y => !(x == y)) = true) ∧ Below w.heap.size w wr) (fun i _ => xs.length - (intOf i).toNat)
  case atStart => exact ⟨0, Nat.zero_le _, rfl, by show _ = _; simp, Below.refl _ _⟩
  case round =>
    obtain ⟨k, hk, rfl, Hr, hb⟩ := hrel
    by_cases hlt : k < xs.length
    · obtain ⟨b, o, rfl, hbb, hc⟩ := hc k hlt
      obtain ⟨y, hy⟩ := get_of_lt hlt
      have c0 := hc wr hb k y hy
      have Hx := Lib.hid hy; clear hy hc
      have hl1 : (k : Int) < (xs.length : Int) := by omega
      have hl0 : (0 : Int) ≤ (k : Int) := by omega
      cases hpx : (x == y)
      · go_wp2_with fail
        refine ⟨?rel, ?measure⟩
        case rel => exact ⟨k + 1, by omega, by go_num, all_snoc Hx.out Hr.out (by simp [hpx]), hb⟩
        case measure => simp [intOf]; omega
      · go_wp2_with fail
        go_ret
        exact ⟨ret_i64 (firstI_hit Hx.out Hr.out hpx).symm, hb⟩
    · have Hm : Hid (firstI (fun y => x == y) xs = -1) := firstI_miss (all_end hlt Hr.out)
      clear hc
      go_wp2_with fail
      go_ret
      exact ⟨ret_i64 Hm.out.symm, hb⟩
theorem firstI_has (xs : List Int) (x : Int) : decide (0 ≤ firstI (fun y => x == y) xs) = decide (x ∈ xs) := by
  by_cases hall : xs.all (fun y => !(x == y)) = true
  · rw [firstI_miss hall]
    have : x ∉ xs := fun hm => by
      have := List.all_eq_true.1 hall x hm
      simp at this
    simp [this]
  · obtain ⟨i, y, h1, h2, h3⟩ := first_hit hall
    rw [firstI_hit h1 h2 h3]
    have : x = y := by simpa using h3
    subst this
    simp [List.mem_of_getElem? h1]
theorem containsI_ok (v : Value) (xs : List Int) (x : Int) (w : World) (h : Ints w v xs) :
    Calls Try.prog 39 #[v, .int .i64 x] w fun e w' => e = .returned (.bool (decide (x ∈ xs))) ∧ Below w.heap.size w w' := by
  have HF := Lib.hid (firstI_has xs x)
  obtain ⟨A, c, rfl, _⟩ := id h
  go_enter Try.func39, Try.ntmps39
  go_wp2_with fail
  refine (indexI_ok _ xs x _ h).mono ?_
  rintro e w1 ⟨rfl, hb⟩
  generalize firstI (fun y => x == y) xs = F at HF ⊢
  go_wp2_with fail
  go_ret
  exact ⟨ret_bool HF.out, hb⟩
theorem keep_ok (s : Spec) (q : Nat) (u : Value) (ids : List Int) (w : World) (h : w.cell? ⟨q, 0, none⟩ = some u) (hi : Ints w u ids) :
    Calls Try.prog 38 #[valS s, .pointer (some ⟨q, 0, none⟩)] w fun e w' => e = .returned (.bool (!decide (s.id ∈ ids))) ∧ Below w.heap.size w w' := by
  obtain ⟨W, hW, Hz, hwW, hlt, hc0⟩ := boxed w #[.int .i64 s.id, .int .i64 s.obv, .int .i64 s.rev, .int .i64 s.os, .int .i64 s.rs, .int .i64 s.ax, .int .i64 s.wt] 30
  have a0 := hc0 0 _ rfl
  have b0 := cell_later hwW h
  have hi' := hi.below hwW
  obtain ⟨A, c, rfl, _⟩ := id hi
  clear hc0
  go_enter Try.func38, Try.ntmps38
  go_wp2_with fail
  refine (containsI_ok _ ids s.id _ hi').mono ?_
  rintro e w1 ⟨rfl, hb⟩
  go_wp2_with fail
  go_ret
  exact ⟨rfl, below_trans hwW hb⟩
def zeroS : Value := .agg #[.int .i64 0, .int .i64 0, .int .i64 0, .int .i64 0, .int .i64 0, .int .i64 0, .int .i64 0]
theorem zeroS_run (w : World) : (zeroValue 30).run Try.prog w = .ok zeroS w := by unfold zeroS; kernel_rfl
set_option maxHeartbeats 4000000 in
set_option maxRecDepth 100000 in
theorem cloneS_ok (v : Value) (xs : List Spec) (w : World) (h : SlOf encS 7 w v xs) (hn : xs.length ≤ 1048576) :
    Calls Try.prog 34 #[v] w fun e w' => ∃ u, e = .returned u ∧ OwnS w.heap.size w' u xs ∧ Below w.heap.size w w' := by
  obtain ⟨A, c, rfl, h1, h2, h3⟩ := h
  have hS := h3
  have hnil := fun (A : Option Addr) (w : World) => Lib.run_eql_slice_nil (P := Try.prog) w 22 30 A xs.length c 0 0 Try.underlying22
  cases A with
  | none =>
    have h0 : xs = [] := by
      rcases Nat.eq_zero_or_pos xs.length with h0 | h0
      · exact List.eq_nil_of_length_eq_zero h0
      · obtain ⟨b, o, e, _⟩ := h3.2 h0
        cases e
    subst h0
    have hE : ∀ w, (binOp .eql 22 (.slice none 0 c) (.slice none 0 0)).run Try.prog w = .ok (.bool true) w := fun w => hnil none w
    clear hnil hS h3 h1 hn
    go_enter Try.func34, Try.ntmps34
    go_wp2
    go_ret
    exact ⟨_, rfl, own_nil _ _ _ _ _, Below.refl _ _⟩
  | some a =>
    have hE : ∀ w, (binOp .eql 22 (.slice (some a) xs.length c) (.slice none 0 0)).run Try.prog w = .ok (.bool false) w := fun w => hnil (some a) w
    clear hnil
    obtain ⟨i0, hi0, hz0, hk0, hb0⟩ := info_parts infoS
    have hS1 := Lib.hid (fun (o : Obj) => Sl.below hS ((Below.refl w.heap.size w).alloc (Nat.le_refl _) o))
    clear hS h3
    go_enter Try.func34, Try.ntmps34
    go_wp2_with (at_builtin; refine wpList_append_sl rfl (.tmp 5) (.tmp 6) _ rfl i0 _ 56 Try.underlying22 hi0 hz0 hk0 hb0 rfl (by decide) oneS rfl (own_empty (B := w.heap.size) (heap_alloc_new _ _) (Nat.le_refl _)) _ _ _ xs rfl rfl (hS1.out _) (by simp; omega) (by simp; omega) (by simp) ?_; intro v1 w1 ho1 hg1 _)
    go_ret
    exact ⟨_, rfl, by simpa using ho1, ((Below.refl w.heap.size w).alloc (Nat.le_refl _) _).grown hg1 (by simp) (fun k e => by have e' : some w.heap.size = some k := e; cases e'; exact Nat.le_refl _)⟩
set_option maxHeartbeats 4000000 in
set_option maxRecDepth 100000 in
theorem indexS_ok (p : Spec → Bool) (q : Value) (B : Nat) (v : Value) (xs : List Spec) (w : World) (h : OwnS B w v xs) (hn : xs.length ≤ 1048576)
    (hp : ∀ x ∈ xs, ∀ W, Below B w W → Calls Try.prog 38 #[valS x, q] W fun e w' => e = .returned (.bool (p x)) ∧ Below W.heap.size W w') :
    Calls Try.prog 50 #[v, .func (.func 38) #[] #[q]] w fun e w' => e = .returned (.int .i64 (firstI p xs)) ∧ Below w.heap.size w w' := by
  have Hp := Lib.hid hp; clear hp
  have hv : ∃ A c, v = .slice A xs.length c := by
    rcases h.cases with ⟨rfl, rfl⟩ | ⟨g, cap, rfl, _⟩
    · exact ⟨_, _, rfl⟩
    · exact ⟨_, _, rfl⟩
  obtain ⟨A, c, rfl⟩ := hv
  go_enter Try.func50, Try.ntmps50
  go_wp2
  go_loopw [8] (fun i wr => ∃ k : Nat, k ≤ xs.length ∧ i = .int .i64 k ∧ Hid ((xs.take k).all (fun x => !p x) = true) ∧ Below w.heap.size w wr) (fun i _ => xs.length - (intOf i).toNat)
  case atStart => exact ⟨0, Nat.zero_le _, rfl, by show _ = _; simp, Below.refl _ _⟩
  case round =>
    obtain ⟨k, hk, rfl, Hr, hb⟩ := hrel
    by_cases hlt : k < xs.length
    · obtain ⟨x, hx⟩ := get_of_lt hlt
      rcases h.cases with ⟨_, h0⟩ | ⟨g, cap, e, hg, _, _⟩
      · rw [h0] at hlt; simp at hlt
      cases e
      have hw := h.below hb
      have c_0 := (hw.cellsAt lenS rfl hx (j := 0) rfl); have c_1 := (hw.cellsAt lenS rfl hx (j := 1) rfl); have c_2 := (hw.cellsAt lenS rfl hx (j := 2) rfl); have c_3 := (hw.cellsAt lenS rfl hx (j := 3) rfl); have c_4 := (hw.cellsAt lenS rfl hx (j := 4) rfl); have c_5 := (hw.cellsAt lenS rfl hx (j := 5) rfl); have c_6 := (hw.cellsAt lenS rfl hx (j := 6) rfl)
      obtain ⟨c_0, fc_0⟩ := c_0; obtain ⟨c_1, fc_1⟩ := c_1; obtain ⟨c_2, fc_2⟩ := c_2; obtain ⟨c_3, fc_3⟩ := c_3; obtain ⟨c_4, fc_4⟩ := c_4; obtain ⟨c_5, fc_5⟩ := c_5; obtain ⟨c_6, fc_6⟩ := c_6
      simp only [Nat.add_zero] at c_0 fc_0
      have Hx := Lib.hid hx; clear hx hw h
      have hP := Hp.out x (List.mem_of_getElem? Hx.out) wr (hb.mono (by omega))
      have hl1 : (k : Int) < (xs.length : Int) := by omega
      have hl0 : (0 : Int) ≤ (k : Int) := by omega
      cases hpx : p x
      · rw [hpx] at hP
        have HP := Lib.hid hP; clear hP
        go_wp2_with fail
        refine HP.out.mono ?_
        rintro e w1 ⟨rfl, hb1⟩
        go_wp2_with fail
        refine ⟨?rel, ?measure⟩
        case rel => exact ⟨k + 1, by omega, by go_num, all_snoc Hx.out Hr.out (by simp [hpx]), below_trans hb hb1⟩
        case measure => simp [intOf]; omega
      · rw [hpx] at hP
        have HP := Lib.hid hP; clear hP
        go_wp2_with fail
        refine HP.out.mono ?_
        rintro e w1 ⟨rfl, hb1⟩
        go_wp2_with fail
        go_ret
        exact ⟨ret_i64 (firstI_hit Hx.out Hr.out hpx).symm, below_trans hb hb1⟩
    · have Hm : Hid (firstI p xs = -1) := firstI_miss (all_end hlt Hr.out)
      go_wp2_with fail
      go_ret
      exact ⟨ret_i64 Hm.out.symm, hb⟩
set_option maxHeartbeats 8000000 in
set_option maxRecDepth 100000 in
theorem deleteS_ok (p : Spec → Bool) (q : Value) (B : Nat) (v : Value) (xs : List Spec) (w : World) (h : OwnS B w v xs) (hn : xs.length ≤ 1048576) (hB : B ≤ w.heap.size)
    (hp : ∀ x ∈ xs, ∀ W, Below B w W → Calls Try.prog 38 #[valS x, q] W fun e w' => e = .returned (.bool (p x)) ∧ Below W.heap.size W w') :
    Calls Try.prog 37 #[v, .func (.func 38) #[] #[q]] w fun e w' => ∃ u, e = .returned u ∧ OwnS B w' u (xs.filter fun x => !p x) ∧ Below B w w' := by
  have HI := Lib.hid (indexS_ok p q B v xs w h hn hp)
  have Hp := Lib.hid hp; clear hp
  by_cases hall : xs.all (fun x => !p x) = true
  · have hF : xs.filter (fun x => !p x) = xs := List.filter_eq_self.2 (List.all_eq_true.1 hall)
    have hm : firstI p xs = -1 := firstI_miss hall
    rw [hm] at HI
    have HF := Lib.hid hF; clear hF hm hall
    go_enter Try.func37, Try.ntmps37
    go_wp2_with fail
    refine HI.out.mono ?_
    rintro e w1 ⟨rfl, hb1⟩
    go_wp2_with fail
    go_ret
    exact ⟨_, rfl, by rw [HF.out]; exact h.below hb1, hb1.mono hB⟩
  obtain ⟨i0, x0, hx0, hall0, hp0⟩ := first_hit hall
  have hm : firstI p xs = i0 := firstI_hit hx0 hall0 hp0
  have hi0 := lt_of_get hx0
  rw [hm] at HI
  have hd : (((i0 : Nat) : Int) == -1) = false := by simp <;> omega
  rcases h.cases with ⟨rfl, h0⟩ | ⟨g, cap, rfl, hg, hgw, hcap, hmx⟩
  · rw [h0] at hi0; simp at hi0
  have hmx' : (cap : Int) ≤ 9223372036854775807 := by simp only [maxLen] at hmx; omega
  have Hst : Hid ((xs.take (i0 + 1)).filter (fun x => !p x) = xs.take i0) := by
    show _ = _
    rw [take_snoc' hx0, List.filter_append, List.filter_eq_self.2 (List.all_eq_true.1 hall0)]
    simp [hp0]
  clear hm hall0 hp0 hx0 hall
  go_enter Try.func37, Try.ntmps37
  go_wp2_with fail
  refine HI.out.mono ?_
  rintro e w1 ⟨rfl, hb1⟩
  have h1 := h.below hb1
  have hbB := hb1.mono hB
  clear h
  go_wp2_with fail
  go_loopw [5, 6] (fun t5 t6 wr => ∃ (i j : Nat) (dk : List Spec), t5 = .int .i64 i ∧ t6 = .int .i64 j ∧ i < j ∧ j ≤ xs.length ∧ OwnS B wr (.slice (some ⟨g, 0, none⟩) xs.length cap) dk ∧ Hid (xs.length = dk.length) ∧ Hid (dk.take i = (xs.take j).filter (fun x => !p x)) ∧ Hid (∀ t, j ≤ t → dk[t]? = xs[t]?) ∧ Hid (((xs.take j).filter (fun x => !p x)).length = i) ∧ Below B w wr) (fun _ t6 _ => xs.length - (intOf t6).toNat)
  case atStart => exact ⟨i0, i0 + 1, xs, rfl, by go_num, by omega, by omega, h1, rfl, Hst.out.symm, fun _ _ => rfl, by show _ = _; rw [Hst.out, List.length_take]; omega, hbB⟩
  case round =>
    clear h1 hbB hb1
    obtain ⟨i, j, dk, rfl, rfl, hij, hj, hown, Hl, Htk, Htl, Hlen, hb⟩ := hrel
    by_cases hlt : j < xs.length
    · obtain ⟨x, hx⟩ := get_of_lt hlt
      have hxd : dk[j]? = some x := by rw [Htl.out j (Nat.le_refl _)]; exact hx
      obtain ⟨y, hy⟩ := get_of_lt (show i < dk.length by have := Hl.out; omega)
      have c_0 := (hown.cellsAt lenS Hl.out hxd (j := 0) rfl); have c_1 := (hown.cellsAt lenS Hl.out hxd (j := 1) rfl); have c_2 := (hown.cellsAt lenS Hl.out hxd (j := 2) rfl); have c_3 := (hown.cellsAt lenS Hl.out hxd (j := 3) rfl); have c_4 := (hown.cellsAt lenS Hl.out hxd (j := 4) rfl); have c_5 := (hown.cellsAt lenS Hl.out hxd (j := 5) rfl); have c_6 := (hown.cellsAt lenS Hl.out hxd (j := 6) rfl)
      obtain ⟨c_0, fc_0⟩ := c_0; obtain ⟨c_1, fc_1⟩ := c_1; obtain ⟨c_2, fc_2⟩ := c_2; obtain ⟨c_3, fc_3⟩ := c_3; obtain ⟨c_4, fc_4⟩ := c_4; obtain ⟨c_5, fc_5⟩ := c_5; obtain ⟨c_6, fc_6⟩ := c_6
      simp only [Nat.add_zero] at c_0 fc_0
      clear hxd
      obtain ⟨W1, hW1, Hz1, hb2, hlt1, hc1⟩ := boxed wr (encS x).toArray 30
      simp only [encS] at hW1 hc1
      have hgl : g < wr.heap.size := by obtain ⟨cur, _, hg, _⟩ := hown.row Hl.out; exact heap_lt hg
      have hB1 := Below.size hb
      have hP := Hp.out x (List.mem_of_getElem? hx) W1 (hb.trans (hb2.mono (by omega)))
      have own1 := hown.below hb2
      have hl1 : (j : Int) < (xs.length : Int) := by omega
      have hl0 : (0 : Int) ≤ (j : Int) := by omega
      have hl2 : (i : Int) < (xs.length : Int) := by omega
      have hl3 : (0 : Int) ≤ (i : Int) := by omega
      have hbW := hb.trans (hb2.mono (by omega))
      have hBg : B ≤ wr.heap.size := by omega
      have hsn : (xs.take (j + 1)).filter (fun x => !p x) = (xs.take j).filter (fun x => !p x) ++ (if p x = true then [] else [x]) := by
        rw [take_snoc' hx, List.filter_append]
        cases hpx : p x <;> simp [hpx]
      have Hx := Lib.hid hx; have Hy := Lib.hid hy; clear hx hy hown
      have m1 := fun i v h => Later.cell_all (hc1 i v h)
      cases hpx : p x
      · rw [hpx] at hP
        rw [hpx, if_neg (by simp)] at hsn
        have HP := Lib.hid hP; have Hsn := Lib.hid hsn; clear hP hsn m1
        go_wp2_with fail
        refine HP.out.mono ?_
        rintro e w2 ⟨rfl, hb3⟩
        have own2 := own1.below hb3
        have d_0 := (own2.cellsAt lenS Hl.out Hy.out (j := 0) rfl); have d_1 := (own2.cellsAt lenS Hl.out Hy.out (j := 1) rfl); have d_2 := (own2.cellsAt lenS Hl.out Hy.out (j := 2) rfl); have d_3 := (own2.cellsAt lenS Hl.out Hy.out (j := 3) rfl); have d_4 := (own2.cellsAt lenS Hl.out Hy.out (j := 4) rfl); have d_5 := (own2.cellsAt lenS Hl.out Hy.out (j := 5) rfl); have d_6 := (own2.cellsAt lenS Hl.out Hy.out (j := 6) rfl)
        obtain ⟨d_0, fd_0⟩ := d_0; obtain ⟨d_1, fd_1⟩ := d_1; obtain ⟨d_2, fd_2⟩ := d_2; obtain ⟨d_3, fd_3⟩ := d_3; obtain ⟨d_4, fd_4⟩ := d_4; obtain ⟨d_5, fd_5⟩ := d_5; obtain ⟨d_6, fd_6⟩ := d_6
        simp only [Nat.add_zero] at d_0 fd_0
        have hput := own2.put lenS (by omega) Hl.out (i := i) (by omega) x
        have Hput := Lib.hid hput; clear hput own1 own2 hW1
        have b0 := cell_later hb3 (hc1 0 _ rfl); have b1 := cell_later hb3 (hc1 1 _ rfl); have b2 := cell_later hb3 (hc1 2 _ rfl); have b3 := cell_later hb3 (hc1 3 _ rfl); have b4 := cell_later hb3 (hc1 4 _ rfl); have b5 := cell_later hb3 (hc1 5 _ rfl); have b6 := cell_later hb3 (hc1 6 _ rfl)
        clear hc1
        go_wp2_with fail
        refine ⟨?rel, ?measure⟩
        case rel =>
          refine ⟨i + 1, j + 1, dk.set i x, by go_num, by go_num, by omega, by omega, Hput.out, by show _ = _; rw [List.length_set]; exact Hl.out, ?_, ?_, ?_, ?_⟩
          · show _ = _
            rw [Hsn.out, ← Htk.out]
            have hi := lt_of_get Hy.out
            apply List.ext_getElem?
            intro t
            rcases Nat.lt_trichotomy t i with e | e | e
            · rw [List.getElem?_take_of_lt (by omega), List.getElem?_set_ne (by omega), List.getElem?_append_left (by simp; omega), List.getElem?_take_of_lt e]
            · subst e
              rw [List.getElem?_take_of_lt (by omega), List.getElem?_set_self hi, List.getElem?_append_right (by simp; omega), show t - (dk.take t).length = 0 by simp; omega]
              rfl
            · rw [List.getElem?_take_eq_none (by omega), List.getElem?_eq_none (by simp; omega)]
          · intro t ht
            rw [List.getElem?_set_ne (by omega)]
            exact Htl.out t (by omega)
          · show _ = _
            rw [Hsn.out, List.length_append, Hlen.out]
            rfl
          · exact (hbW.trans (hb3.mono (by omega))).grown (setCells_grown g (encS x) w2 (i * 7)) (by have := hb3.size; omega) (fun k e => by cases e; exact hg)
        case measure => simp [intOf]; omega
      · rw [hpx] at hP
        rw [hpx, if_pos rfl, List.append_nil] at hsn
        have HP := Lib.hid hP; have Hsn := Lib.hid hsn; clear hP hsn m1
        go_wp2_with fail
        refine HP.out.mono ?_
        rintro e w2 ⟨rfl, hb3⟩
        have own2 := own1.below hb3
        clear hW1 own1
        go_wp2_with fail
        refine ⟨?rel, ?measure⟩
        case rel => exact ⟨i, j + 1, dk, rfl, by go_num, by omega, by omega, own2, Hl, by show _ = _; rw [Hsn.out]; exact Htk.out, fun t ht => Htl.out t (by omega), by show _ = _; rw [Hsn.out]; exact Hlen.out, hbW.trans (hb3.mono (by omega))⟩
        case measure => simp [intOf]; omega
    · have hje : xs.take j = xs := List.take_of_length_le (by omega)
      have Hfin : Hid (dk.take i = xs.filter (fun x => !p x)) := by show _ = _; rw [Htk.out, hje]
      clear hje
      obtain ⟨cur, hBg, hgc, q1, q2, q3, q4⟩ := hown.row Hl.out
      have hcl := fun ty => run_clear_rows (P := Try.prog) wr 22 30 ty (zeroS) Try.underlying22 zeroS_run (by simp [zeroS, Value.cells, Value.oneCell']) g (i * 7) (xs.length - i) (cap - i) (by omega)
        (fun t ht => by rw [heap_cell hgc]; simp [zeroS, Value.cells] at ht; rw [Array.getElem?_eq_getElem (by omega)]; rfl) (fun t ht => heap_free hgc)
      obtain ⟨Z, hZ⟩ : ∃ Z, (Builtin.zeroCells (zeroS).cells (xs.length - i)).toList = Z := ⟨_, rfl⟩
      have hZl : Z.length = (xs.length - i) * 7 := by rw [← hZ, zeros_len]; rfl
      simp only [hZ] at hcl
      clear hZ
      have HZl := Lib.hid hZl; clear hZl
      have Hown := Lib.hid hown; clear hown q3 q4 hgc
      have i2 : (i : Int) ≤ (xs.length : Int) := by omega
      have i3 : (0 : Int) ≤ (i : Int) := by omega
      have i4 : (i : Int) ≤ (cap : Int) := by omega
      have i5 : ¬ cap = i := by omega
      have hBw := Below.size hb
      go_wp2
      go_ret
      have hcut := Hown.out.cut lenS Hl.out (m := i) (by omega)
      rw [Hfin.out] at hcut
      have hlen : i = (xs.filter (fun x => !p x)).length := by rw [← Hfin.out, List.length_take]; have := Hl.out; omega
      exact ⟨_, rfl, hcut.putTail lenS hlen (Nat.le_refl _) Z (by rw [HZl.out]; omega), hb.grown (setCells_grown g _ wr (i * 7)) (by omega) (fun k e => by cases e; exact hg)⟩
end Go.Proofs.Ytcpobcfncmcakaa
