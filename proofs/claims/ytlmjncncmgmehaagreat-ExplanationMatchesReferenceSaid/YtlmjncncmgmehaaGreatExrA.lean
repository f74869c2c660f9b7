/- Reference 9: Find; reference 51: only, joins, Is. Condition: the arguments read as such. -/
import Derived.Test.YtlmjncncmgmehaaGreatExpA
import Derived.Test.YtlmjncncmgmehaaGreatRefU
import Derived.Deep.DeepCutAuto
namespace Go.Proofs.YtlmjncncmgmehaaGreat
open Go.RowKit Go.Maps Go.Shelf

theorem filter_snocR {p : Spec → Bool} {l : List Spec} {k : Nat} {x : Spec} (h : l[k]? = some x) : (l.take (k + 1)).filter p = (l.take k).filter p ++ (if p x = true then [x] else []) := by
  rw [take_snoc' h, List.filter_append, List.filter_cons]
  cases p x <;> rfl
set_option maxHeartbeats 4000000 in
set_option maxRecDepth 100000 in
theorem onlyRtrue_ok (v iv : Value) (l : List Spec) (set : List Int) (w : World) (h : Specs w v l) (hi : Ints w iv set) (hl : l.length ≤ 1048576) :
    Calls Tryz.prog 37 #[v, iv, .bool true] w fun e w' => ∃ u, e = .returned u ∧ OwnS w.heap.size w' u (onlyL l set true) ∧ Below w.heap.size w w' := by
  obtain ⟨A, c, rfl, _, _, hc⟩ := h.cells
  obtain ⟨Ai, ci, rfl, _⟩ := id hi
  obtain ⟨iS, hiS, hzS, hkS, hbS⟩ := info_parts infoS
  have Hi := Lib.hid hi
  clear hi
  go_enter Tryz.func37, Tryz.ntmps37
  go_wp2_with fail
  go_loopw [7, 8] (fun u i wr => ∃ j : Nat, j ≤ l.length ∧ i = .int .i64 j ∧ OwnS w.heap.size wr u ((l.take j).filter fun s => hasB set s.id == true) ∧ Below w.heap.size w wr) (fun _ i _ => l.length - (intOf i).toNat)
  case atStart => exact ⟨0, Nat.zero_le _, rfl, own_nil _ _ _ _ _, Below.refl _ _⟩
  case round =>
    obtain ⟨j, hj, rfl, hown, hb⟩ := hrel
    by_cases hlt : j < l.length
    · obtain ⟨bo, o, rfl, _, hcb⟩ := hc j hlt
      obtain ⟨x, hx⟩ := get_of_lt hlt
      obtain ⟨y0, y1, y2, y3, y4, y5, y6⟩ := hcb wr hb j x hx
      have HH := Lib.hid (Has_ok _ set x.id wr (Hi.out.below hb))
      have hsn := filter_snocR (p := fun s => hasB set s.id == true) hx
      have hlen : ((l.take j).filter fun s => hasB set s.id == true).length ≤ 1048576 := Nat.le_trans (List.length_filter_le _ _) (by rw [List.length_take]; omega)
      have hBs := hb.size
      have hj1 : (j : Int) < (l.length : Int) := by omega
      obtain ⟨T, hT⟩ : ∃ T, hasB set x.id = T := ⟨_, rfl⟩
      rw [hT] at HH
      simp only [hT] at hsn
      have Hsn := Lib.hid hsn
      obtain ⟨Q, hQ⟩ : ∃ Q, ((l.take j).filter fun s => hasB set s.id == true) = Q := ⟨_, rfl⟩
      rw [hQ] at hown hlen Hsn
      clear hc hcb hx hsn hT hQ
      cases T
      · have tok : True := trivial
        clear tok
        have Hs2 : Hid (((l.take (j + 1)).filter fun s => hasB set s.id == true) = Q) := Lib.hid (by rw [Hsn.out]; simp)
        go_wp2_with fail
        refine HH.out.mono ?_
        rintro e wq ⟨rfl, rfl⟩
        go_wp2_with fail
        refine ⟨?rel, ?measure⟩
        case rel => exact ⟨j + 1, by omega, by go_num, by rw [Hs2.out]; exact hown, hb⟩
        case measure => first | (simp [intOf]; done) | (simp [intOf]; omega)
      · have tok : True := trivial
        clear tok
        have Hs2 : Hid (((l.take (j + 1)).filter fun s => hasB set s.id == true) = Q ++ [x]) := Lib.hid (by rw [Hsn.out]; simp)
        go_wp2_with fail
        refine HH.out.mono ?_
        rintro e wq ⟨rfl, rfl⟩
        go_wp2_with (at_builtin; refine wpList_append1 (enc := encS) (size := 7) (B := w.heap.size) rfl (.tmp 24) (.tmp 29) _ rfl 38 iS _ 56 Tryz.underlying22 hiS hzS hkS hbS rfl (by decide) rfl hown x _ rfl lenS oneS _ rfl rfl (by omega) (by omega) hBs ?_; intro v' w7 hown' hgrow hat)
        refine ⟨?rel, ?measure⟩
        case rel => exact ⟨j + 1, by omega, by go_num, by rw [Hs2.out]; exact hown', hb.trans (below_append hown hgrow hBs)⟩
        case measure => first | (simp [intOf]; done) | (simp [intOf]; omega)
    · rw [List.take_of_length_le (by omega)] at hown
      go_wp2_with fail
      go_ret
      exact ⟨_, rfl, hown, hb⟩
set_option maxHeartbeats 4000000 in
set_option maxRecDepth 100000 in
theorem onlyRfalse_ok (v iv : Value) (l : List Spec) (set : List Int) (w : World) (h : Specs w v l) (hi : Ints w iv set) (hl : l.length ≤ 1048576) :
    Calls Tryz.prog 37 #[v, iv, .bool false] w fun e w' => ∃ u, e = .returned u ∧ OwnS w.heap.size w' u (onlyL l set false) ∧ Below w.heap.size w w' := by
  obtain ⟨A, c, rfl, _, _, hc⟩ := h.cells
  obtain ⟨Ai, ci, rfl, _⟩ := id hi
  obtain ⟨iS, hiS, hzS, hkS, hbS⟩ := info_parts infoS
  have Hi := Lib.hid hi
  clear hi
  go_enter Tryz.func37, Tryz.ntmps37
  go_wp2_with fail
  go_loopw [7, 8] (fun u i wr => ∃ j : Nat, j ≤ l.length ∧ i = .int .i64 j ∧ OwnS w.heap.size wr u ((l.take j).filter fun s => hasB set s.id == false) ∧ Below w.heap.size w wr) (fun _ i _ => l.length - (intOf i).toNat)
  case atStart => exact ⟨0, Nat.zero_le _, rfl, own_nil _ _ _ _ _, Below.refl _ _⟩
  case round =>
    obtain ⟨j, hj, rfl, hown, hb⟩ := hrel
    by_cases hlt : j < l.length
    · obtain ⟨bo, o, rfl, _, hcb⟩ := hc j hlt
      obtain ⟨x, hx⟩ := get_of_lt hlt
      obtain ⟨y0, y1, y2, y3, y4, y5, y6⟩ := hcb wr hb j x hx
      have HH := Lib.hid (Has_ok _ set x.id wr (Hi.out.below hb))
      have hsn := filter_snocR (p := fun s => hasB set s.id == false) hx
      have hlen : ((l.take j).filter fun s => hasB set s.id == false).length ≤ 1048576 := Nat.le_trans (List.length_filter_le _ _) (by rw [List.length_take]; omega)
      have hBs := hb.size
      have hj1 : (j : Int) < (l.length : Int) := by omega
      obtain ⟨T, hT⟩ : ∃ T, hasB set x.id = T := ⟨_, rfl⟩
      rw [hT] at HH
      simp only [hT] at hsn
      have Hsn := Lib.hid hsn
      obtain ⟨Q, hQ⟩ : ∃ Q, ((l.take j).filter fun s => hasB set s.id == false) = Q := ⟨_, rfl⟩
      rw [hQ] at hown hlen Hsn
      clear hc hcb hx hsn hT hQ
      cases T
      · have tok : True := trivial
        clear tok
        have Hs2 : Hid (((l.take (j + 1)).filter fun s => hasB set s.id == false) = Q ++ [x]) := Lib.hid (by rw [Hsn.out]; simp)
        go_wp2_with fail
        refine HH.out.mono ?_
        rintro e wq ⟨rfl, rfl⟩
        go_wp2_with (at_builtin; refine wpList_append1 (enc := encS) (size := 7) (B := w.heap.size) rfl (.tmp 24) (.tmp 29) _ rfl 38 iS _ 56 Tryz.underlying22 hiS hzS hkS hbS rfl (by decide) rfl hown x _ rfl lenS oneS _ rfl rfl (by omega) (by omega) hBs ?_; intro v' w7 hown' hgrow hat)
        refine ⟨?rel, ?measure⟩
        case rel => exact ⟨j + 1, by omega, by go_num, by rw [Hs2.out]; exact hown', hb.trans (below_append hown hgrow hBs)⟩
        case measure => first | (simp [intOf]; done) | (simp [intOf]; omega)
      · have tok : True := trivial
        clear tok
        have Hs2 : Hid (((l.take (j + 1)).filter fun s => hasB set s.id == false) = Q) := Lib.hid (by rw [Hsn.out]; simp)
        go_wp2_with fail
        refine HH.out.mono ?_
        rintro e wq ⟨rfl, rfl⟩
        go_wp2_with fail
        refine ⟨?rel, ?measure⟩
        case rel => exact ⟨j + 1, by omega, by go_num, by rw [Hs2.out]; exact hown, hb⟩
        case measure => first | (simp [intOf]; done) | (simp [intOf]; omega)
    · rw [List.take_of_length_le (by omega)] at hown
      go_wp2_with fail
      go_ret
      exact ⟨_, rfl, hown, hb⟩
set_option maxHeartbeats 4000000 in
set_option maxRecDepth 100000 in
theorem joinsR_ok (v : Value) (L : List Spec) (da db : Die) (w : World) (h : Specs w v L) (hL : L.length ≤ 64) (hE : ofE L = 0) :
    Calls Tryz.prog 36 #[v, vlD da, vlD db] w fun e w' => e = .returned (.bool (jnL L da db)) ∧ Below w.heap.size w w' := by
  obtain ⟨X0, hX0, HzX0, hbX0, hltX0, hcX0⟩ := boxed w #[.int .i64 da.side, .int .i64 da.num] 24
  obtain ⟨X1, hX1, HzX1, hbX1, hltX1, hcX1⟩ := boxed X0 #[.int .i64 db.side, .int .i64 db.num] 24
  have hX := below_trans hbX0 hbX1
  have h0 := h.below hX
  have a0 := cell_later hbX1 (hcX0 0 _ rfl); have a1 := cell_later hbX1 (hcX0 1 _ rfl)
  have b0 := hcX1 0 _ rfl; have b1 := hcX1 1 _ rfl
  clear hcX0 hcX1
  obtain ⟨A, c, rfl, _⟩ := id h
  obtain ⟨B, hB⟩ : ∃ B, jnL L da db = B := ⟨_, rfl⟩
  rw [hB]
  have hv := of_valid hE
  rw [jnL, joinG, hv, Bool.true_and] at hB
  have HB := Lib.hid hB; have Hv := Lib.hid hv
  clear hB hv h hE
  go_enter Tryz.func36, Tryz.ntmps36
  go_wp2_with fail
  refine (Of_ok13 _ L _ h0 (by omega)).mono ?_
  rintro e w2 ⟨ug, rfl, hg, hb2⟩
  have a0 := cell_later hb2 a0; have a1 := cell_later hb2 a1; have b0 := cell_later hb2 b0; have b1 := cell_later hb2 b1
  have hw2 := below_trans hX hb2
  generalize ofG L = g at hg HB Hv
  generalize ofE L = E
  have hg' := hg
  obtain ⟨v1, v2, v3, rfl, ⟨A1k, c1k, rfl, _⟩, ⟨A2k, c2k, rfl, _⟩, ⟨A3k, c3k, rfl, _⟩⟩ := hg
  obtain ⟨W1, W2, hW1, hW2, HzW2, hkW1, hkW2, hbW2, hltW2⟩ := fresh w2 [.slice none 0 0, .slice none 0 0, .slice none 0 0] [.slice A1k (g).obv.length c1k, .slice A2k (g).rev.length c2k, .slice A3k (g).links.length c3k] 54 rfl
  have hsW2 : ((W1.setCell ⟨w2.heap.size, 0, none⟩ (.slice A1k (g).obv.length c1k)).setCell ⟨w2.heap.size, 1, none⟩ (.slice A2k (g).rev.length c2k)).setCell ⟨w2.heap.size, 2, none⟩ (.slice A3k (g).links.length c3k) = W2 := hW2
  clear hW2
  obtain ⟨⟨z0k, z1k, z2k⟩, f0k, f1k, f2k⟩ := cells3 hkW1
  obtain ⟨⟨s0k, s1k, s2k⟩, _⟩ := cells3 hkW2
  clear hkW1 hkW2
  have a0 := cell_later hbW2 a0; have a1 := cell_later hbW2 a1; have b0 := cell_later hbW2 b0; have b1 := cell_later hbW2 b1
  have hw3 := below_trans hw2 hbW2
  have HJ := Lib.hid (Joined14_ok _ g Hv.out da db _ (hg'.below hbW2))
  rw [HB.out] at HJ
  clear h0 hg'
  go_wp2_with fail
  refine HJ.out.mono ?_
  rintro e w3 ⟨rfl, hb3⟩
  go_wp2_with fail
  go_ret
  exact ⟨ret_bool rfl, below_trans hw3 hb3⟩
set_option maxHeartbeats 4000000 in
set_option maxRecDepth 100000 in
theorem FindR_ok (v : Value) (l : List Spec) (id : Int) (w : World) (h : Specs w v l) :
    Calls Tryz.prog 35 #[v, .int .i64 id] w fun e w' => ∃ s : Spec, e = .returned (.tuple #[valS s, .bool (decide (id ∈ l.map Spec.id))]) ∧ Below w.heap.size w w' := by
  obtain ⟨A, c, rfl, _, _, hc⟩ := h.cells
  obtain ⟨W, hW, Hz, hbW, hltW, _⟩ := boxed w #[.int .i64 0, .int .i64 0, .int .i64 0, .int .i64 0, .int .i64 0, .int .i64 0, .int .i64 0] 38
  have hk : W.heap[w.heap.size]? = some (.cells [.int .i64 0, .int .i64 0, .int .i64 0, .int .i64 0, .int .i64 0, .int .i64 0, .int .i64 0].toArray 38 (0, 0)) := by rw [← hW]; exact heap_alloc_new _ _
  have Hk := Lib.hid hk; clear hk
  go_enter Tryz.func35, Tryz.ntmps35
  go_wp2_with fail
  clear hW
  go_loopw [6] (fun i wr => ∃ k : Nat, k ≤ l.length ∧ i = .int .i64 k ∧ Below W.heap.size W wr ∧ ∀ s ∈ l.take k, s.id ≠ id) (fun i _ => l.length - (intOf i).toNat)
  case atStart => exact ⟨0, Nat.zero_le _, rfl, Below.refl _ _, fun s hs => by simp at hs⟩
  case round =>
    obtain ⟨k, hk, rfl, hb, hno⟩ := hrel
    have HN := Lib.hid hno; clear hno
    have Hkr := Lib.hid (heap_below Hk.out hb hltW)
    have hbw := below_trans hbW hb
    by_cases hlt : k < l.length
    · obtain ⟨bo, o, rfl, hbb, hc⟩ := hc k hlt
      obtain ⟨x, hx⟩ := get_of_lt hlt
      obtain ⟨y0, y1, y2, y3, y4, y5, y6⟩ := hc wr hbw k x hx
      have Hx := Lib.hid hx
      have hlt1 : (k : Int) < (l.length : Int) := by omega
      clear hx hc
      cases hid : (x.id == id)
      · have hne : x.id ≠ id := by simpa using hid
        have Hne := Lib.hid hne; clear hne
        go_wp2_with fail
        refine ⟨?rel, ?measure⟩
        case rel => exact ⟨k + 1, by omega, by go_num, hb, fun s hs => by rw [take_snoc' Hx.out, List.mem_append, List.mem_singleton] at hs; rcases hs with hs | rfl; exact HN.out s hs; exact Hne.out⟩
        case measure => simp [intOf]; omega
      · have he : x.id = id := by simpa using hid
        have hin : decide (id ∈ l.map Spec.id) = true := by rw [decide_eq_true_eq, ← he]; exact List.mem_map_of_mem (f := Spec.id) (List.mem_of_getElem? Hx.out)
        have Hin := Lib.hid hin; clear hin he
        obtain ⟨⟨r0, r1, r2, r3, r4, r5, r6⟩, g0, g1, g2, g3, g4, g5, g6⟩ := cellsS Hkr.out
        go_wp2_with fail
        refine bodyPost_ret (results_cell_tmp_row rfl _ _ w.heap.size 38 #[.int .i64 x.id, .int .i64 x.obv, .int .i64 x.rev, .int .i64 x.os, .int .i64 x.rs, .int .i64 x.ax, .int .i64 x.wt] (0, 0) _ (by simp) (heap_set7 Hkr.out) Tryz.underlying38 rfl (by kernel_rfl)) rfl ⟨x, ?_, below_set7 hbw (Nat.le_refl _) hbw.size⟩
        rw [Hin.out]; rfl
    · have hin : decide (id ∈ l.map Spec.id) = false := by
        rw [decide_eq_false_iff_not]
        intro hm
        obtain ⟨s, hs, e⟩ := List.mem_map.1 hm
        exact HN.out s (by rw [List.take_of_length_le (by omega)]; exact hs) e
      have Hin := Lib.hid hin; clear hin hc
      obtain ⟨⟨r0, r1, r2, r3, r4, r5, r6⟩, g0, g1, g2, g3, g4, g5, g6⟩ := cellsS Hkr.out
      go_wp2_with fail
      refine bodyPost_ret (results_cell_tmp_row rfl _ _ w.heap.size 38 #[.int .i64 0, .int .i64 0, .int .i64 0, .int .i64 0, .int .i64 0, .int .i64 0, .int .i64 0] (0, 0) _ (by simp) (heap_set7 Hkr.out) Tryz.underlying38 rfl (by kernel_rfl)) rfl ⟨⟨0, 0, 0, 0, 0, 0, 0⟩, ?_, below_set7 hbw (Nat.le_refl _) hbw.size⟩
      rw [Hin.out]; rfl
end Go.Proofs.YtlmjncncmgmehaaGreat
/- Reference 51: Is, Few. Condition: the arguments read as such. -/
namespace Go.Proofs.YtlmjncncmgmehaaGreat
open Go.RowKit Go.Maps Go.Shelf

section
variable {l : List Spec} {a b : Die} {set : List Int} {k : Nat}
theorem isS_noasc (h : ofE l = 0) (ha : ascB set 1 9999 = false) : isS l a b set = false := by
  cases hs : isS l a b set
  · rfl
  · simp only [isS, Bool.and_eq_true, decide_eq_true_eq, List.all_eq_true] at hs
    obtain ⟨⟨⟨_, h2⟩, h3⟩, _⟩ := hs
    have : ascB set 1 9999 = true := by
      simp only [ascB, decide_eq_true_eq]
      refine ⟨fun n hn => ?_, h2⟩
      obtain ⟨s, hs, rfl⟩ := List.mem_map.1 (h3 n hn)
      obtain ⟨i, hi⟩ := List.getElem?_of_mem hs
      have := (ofE_spec h hi).1
      simp only [specB, inB, Bool.and_eq_true, decide_eq_true_eq] at this
      omega
    rw [this] at ha; cases ha
theorem asc_of (h : ascB set 1 9999 = true) : AscL set := by
  simp only [ascB, decide_eq_true_eq] at h
  exact h.2
theorem isS_allR (h : ofE l = 0) (ha : ascB set 1 9999 = true) (hu : ∀ n ∈ set.take k, n ∈ l.map Spec.id) (hk : ¬ k < set.length) : isS l a b set = jnL (onlyL l set true) a b :=
  isS_all h ⟨(asc_of ha).sublist (List.take_sublist _ _), hu⟩ hk
end
set_option maxHeartbeats 8000000 in
set_option maxRecDepth 100000 in
theorem IsR_ok (v iv : Value) (l : List Spec) (da db : Die) (set : List Int) (w : World) (h : Specs w v l) (hi : Ints w iv set) (hl : l.length ≤ 1048576) :
    Calls Tryz.prog 13 #[v, vlD da, vlD db, iv] w fun e w' => e = .returned (.bool (isS l da db set)) ∧ Below w.heap.size w w' := by
  obtain ⟨X0, hX0, HzX0, hbX0, hltX0, hcX0⟩ := boxed w #[.int .i64 da.side, .int .i64 da.num] 24
  obtain ⟨X1, hX1, HzX1, hbX1, hltX1, hcX1⟩ := boxed X0 #[.int .i64 db.side, .int .i64 db.num] 24
  have hX := below_trans hbX0 hbX1
  have h0 := h.below hX
  have hi0 := hi.below hX
  have a0 := cell_later hbX1 (hcX0 0 _ rfl); have a1 := cell_later hbX1 (hcX0 1 _ rfl)
  have b0 := hcX1 0 _ rfl; have b1 := hcX1 1 _ rfl
  clear hcX0 hcX1
  obtain ⟨A, c, rfl, _⟩ := id h
  obtain ⟨Ai, ci, rfl, hi1, hi2, hci⟩ := hi.cells
  obtain ⟨B, hB⟩ : ∃ B, isS l da db set = B := ⟨_, rfl⟩
  rw [hB]
  have HB := Lib.hid hB
  have Hi := Lib.hid hi; have Hh := Lib.hid h
  clear hi0 hB hi h
  go_enter Tryz.func13, Tryz.ntmps13
  go_wp2_with fail
  refine (Of_ok13 _ l _ h0 hl).mono ?_
  rintro e w1 ⟨ug, rfl, hg, hb1⟩
  have a0 := cell_later hb1 a0; have a1 := cell_later hb1 a1; have b0 := cell_later hb1 b0; have b1 := cell_later hb1 b1
  have hw1 := below_trans hX hb1
  generalize ofG l = g at hg
  obtain ⟨v1, v2, v3, rfl, ⟨A1k, c1k, rfl, _⟩, ⟨A2k, c2k, rfl, _⟩, ⟨A3k, c3k, rfl, _⟩⟩ := hg
  obtain ⟨W1, W2, hW1, hW2, HzW2, hkW1, hkW2, hbW2, hltW2⟩ := fresh w1 [.slice none 0 0, .slice none 0 0, .slice none 0 0] [.slice A1k (g).obv.length c1k, .slice A2k (g).rev.length c2k, .slice A3k (g).links.length c3k] 54 rfl
  have hsW2 : ((W1.setCell ⟨w1.heap.size, 0, none⟩ (.slice A1k (g).obv.length c1k)).setCell ⟨w1.heap.size, 1, none⟩ (.slice A2k (g).rev.length c2k)).setCell ⟨w1.heap.size, 2, none⟩ (.slice A3k (g).links.length c3k) = W2 := hW2
  clear hW2
  obtain ⟨⟨z0k, z1k, z2k⟩, f0k, f1k, f2k⟩ := cells3 hkW1
  obtain ⟨⟨s0k, s1k, s2k⟩, _⟩ := cells3 hkW2
  clear hkW1 hkW2
  have a0 := cell_later hbW2 a0; have a1 := cell_later hbW2 a1; have b0 := cell_later hbW2 b0; have b1 := cell_later hbW2 b1
  have hw2 := below_trans hw1 hbW2
  by_cases hE : ofE l = 0
  case neg =>
    have HR := Lib.hid (HB.out.symm.trans (isS_off (a := da) (b := db) (set := set) hE))
    generalize ofE l = E at hE
    have hd : (E != 0) = true := by simpa using hE
    clear hE hci
    go_wp2_with fail
    go_ret
    exact ⟨ret_bool HR.out.symm, hw2⟩
  have hd : (ofE l != 0) = false := by simp [hE]
  have HE := Lib.hid hE; clear hE
  have HAs := Lib.hid (Ascending_ok _ set 1 9999 W2 (Hi.out.below hw2))
  cases hA : ascB set 1 9999
  case false =>
    rw [hA] at HAs
    have HR := Lib.hid (HB.out.symm.trans (isS_noasc (a := da) (b := db) HE.out hA))
    clear hA hci
    go_wp2_with fail
    refine HAs.out.mono ?_
    rintro e w3 ⟨rfl, hb3⟩
    go_wp2_with fail
    go_ret
    exact ⟨ret_bool HR.out.symm, below_trans hw2 hb3⟩
  rw [hA] at HAs
  have HA := Lib.hid hA; clear hA
  go_wp2_with fail
  refine HAs.out.mono ?_
  rintro e w3 ⟨rfl, hb3⟩
  have a0 := cell_later hb3 a0; have a1 := cell_later hb3 a1; have b0 := cell_later hb3 b0; have b1 := cell_later hb3 b1
  have hw3 := below_trans hw2 hb3
  clear z0k z1k z2k f0k f1k f2k s0k s1k s2k hsW2 hW1 h0 hd
  go_wp2_with fail
  go_loopw [11] (fun i wr => ∃ k : Nat, k ≤ set.length ∧ i = .int .i64 k ∧ Hid (∀ n ∈ set.take k, n ∈ l.map Spec.id) ∧ Below w3.heap.size w3 wr) (fun i _ => set.length - (intOf i).toNat)
  case atStart => exact ⟨0, Nat.zero_le _, rfl, Lib.hid (fun n hn => by simp at hn), Below.refl _ _⟩
  case round =>
    obtain ⟨k, hk, rfl, HU, hbr⟩ := hrel
    have hwr := below_trans hw3 hbr
    have a0 := cell_later hbr a0; have a1 := cell_later hbr a1; have b0 := cell_later hbr b0; have b1 := cell_later hbr b1
    by_cases hlt : k < set.length
    · obtain ⟨x, hx⟩ := get_of_lt hlt
      obtain ⟨bo, o, rfl, hbb, hc0⟩ := hci k hlt
      have y0 := hc0 wr hwr k x hx
      have HF := Lib.hid (FindR_ok _ l x _ (Hh.out.below hwr))
      have hlt1 : (k : Int) < (set.length : Int) := by omega
      have hlt0 : (0 : Int) ≤ (k : Int) := by omega
      have Hx := Lib.hid hx; clear hx
      by_cases hm : x ∈ l.map Spec.id
      case neg =>
        have HR := Lib.hid (HB.out.symm.trans (isS_mem (a := da) (b := db) Hx.out hm))
        have hmd : decide (x ∈ l.map Spec.id) = false := by simpa using hm
        rw [hmd] at HF
        clear hm hmd hci hc0
        go_wp2_with fail
        refine HF.out.mono ?_
        rintro e w4 ⟨s, rfl, hb4⟩
        obtain ⟨V1, V2, hV1, hV2, HzV2, hkV1, hkV2, hbV2, hltV2⟩ := fresh w4 [.int .i64 0, .int .i64 0, .int .i64 0, .int .i64 0, .int .i64 0, .int .i64 0, .int .i64 0] [.int .i64 (s).id, .int .i64 (s).obv, .int .i64 (s).rev, .int .i64 (s).os, .int .i64 (s).rs, .int .i64 (s).ax, .int .i64 (s).wt] 38 rfl
        have hsV2 : ((((((V1.setCell ⟨w4.heap.size, 0, none⟩ (.int .i64 (s).id)).setCell ⟨w4.heap.size, 1, none⟩ (.int .i64 (s).obv)).setCell ⟨w4.heap.size, 2, none⟩ (.int .i64 (s).rev)).setCell ⟨w4.heap.size, 3, none⟩ (.int .i64 (s).os)).setCell ⟨w4.heap.size, 4, none⟩ (.int .i64 (s).rs)).setCell ⟨w4.heap.size, 5, none⟩ (.int .i64 (s).ax)).setCell ⟨w4.heap.size, 6, none⟩ (.int .i64 (s).wt) = V2 := hV2
        clear hV2
        obtain ⟨⟨z0, z1, z2, z3, z4, z5, z6⟩, f0, f1, f2, f3, f4, f5, f6⟩ := cellsS hkV1
        clear hkV1
        obtain ⟨⟨s0, s1, s2, s3, s4, s5, s6⟩, _⟩ := cellsS hkV2
        go_wp2_with fail
        go_ret
        exact ⟨ret_bool HR.out.symm, below_trans (below_trans hwr hb4) hbV2⟩
      have hmd : decide (x ∈ l.map Spec.id) = true := by simpa using hm
      rw [hmd] at HF
      have Hm : Hid (∀ n ∈ set.take (k + 1), n ∈ l.map Spec.id) := Lib.hid (mem_snoc2 (P := fun n => n ∈ l.map Spec.id) Hx.out HU.out hm)
      clear hm hmd hci hc0
      go_wp2_with fail
      refine HF.out.mono ?_
      rintro e w4 ⟨s, rfl, hb4⟩
      obtain ⟨V1, V2, hV1, hV2, HzV2, hkV1, hkV2, hbV2, hltV2⟩ := fresh w4 [.int .i64 0, .int .i64 0, .int .i64 0, .int .i64 0, .int .i64 0, .int .i64 0, .int .i64 0] [.int .i64 (s).id, .int .i64 (s).obv, .int .i64 (s).rev, .int .i64 (s).os, .int .i64 (s).rs, .int .i64 (s).ax, .int .i64 (s).wt] 38 rfl
      have hsV2 : ((((((V1.setCell ⟨w4.heap.size, 0, none⟩ (.int .i64 (s).id)).setCell ⟨w4.heap.size, 1, none⟩ (.int .i64 (s).obv)).setCell ⟨w4.heap.size, 2, none⟩ (.int .i64 (s).rev)).setCell ⟨w4.heap.size, 3, none⟩ (.int .i64 (s).os)).setCell ⟨w4.heap.size, 4, none⟩ (.int .i64 (s).rs)).setCell ⟨w4.heap.size, 5, none⟩ (.int .i64 (s).ax)).setCell ⟨w4.heap.size, 6, none⟩ (.int .i64 (s).wt) = V2 := hV2
      clear hV2
      obtain ⟨⟨z0, z1, z2, z3, z4, z5, z6⟩, f0, f1, f2, f3, f4, f5, f6⟩ := cellsS hkV1
      clear hkV1
      obtain ⟨⟨s0, s1, s2, s3, s4, s5, s6⟩, _⟩ := cellsS hkV2
      have hb5 := below_trans hb4 hbV2
      go_wp2_with fail
      refine ⟨?rel, ?measure⟩
      case rel => exact ⟨k + 1, by omega, by go_num, Hm, below_trans hbr hb5⟩
      case measure => simp [intOf]; omega
    · have HR := Lib.hid (HB.out.symm.trans (isS_allR HE.out HA.out HU.out hlt))
      have hL := only_of HE.out set true
      have hll : l.length ≤ 64 := (checkE_zero (ofE_zero HE.out).1).1
      have hLl : (onlyL l set true).length ≤ 64 := Nat.le_trans (only_sub l set true).length_le hll
      have hba : Below wr.heap.size wr wr.drew := (Below.refl _ _).drew
      clear hci
      go_wp2_with fail
      obtain ⟨wa, hwa⟩ : ∃ W, wr.drew = W := ⟨_, rfl⟩
      rw [hwa] at hba
      have hwA := below_trans hwr hba
      have HO := Lib.hid (onlyRtrue_ok _ _ l set _ (Hh.out.below hwA) (Hi.out.below hwA) hl)
      have hHeld : (fun w' : World => w'.cell? ⟨w.heap.size, 0, none⟩ = some (.int .i64 da.side) ∧ w'.cell? ⟨w.heap.size, 1, none⟩ = some (.int .i64 da.num) ∧ w'.cell? ⟨X0.heap.size, 0, none⟩ = some (.int .i64 db.side) ∧ w'.cell? ⟨X0.heap.size, 1, none⟩ = some (.int .i64 db.num)) wa := ⟨cell_later hba a0, cell_later hba a1, cell_later hba b0, cell_later hba b1⟩
      have HH := Lib.hid hHeld
      refine wp_region_S 5 (fun w' : World => w'.cell? ⟨w.heap.size, 0, none⟩ = some (.int .i64 da.side) ∧ w'.cell? ⟨w.heap.size, 1, none⟩ = some (.int .i64 da.num) ∧ w'.cell? ⟨X0.heap.size, 0, none⟩ = some (.int .i64 db.side) ∧ w'.cell? ⟨X0.heap.size, 1, none⟩ = some (.int .i64 db.num)) (by kernel_rfl) (by decide) ?_
      rw [hwa]
      clear hwa a0 a1 b0 b1
      refine wpAnyS_takeD 0 (some 43) (.slice A l.length c) (by rfl) (by rfl) (by kernel_rfl) (by exact fun _ _ _ h => h) (by rfl) (fun w' hS => by go_simp) hHeld ?_
      simp only [Act.put, List.setIfInBounds_toArray, List.set_cons_succ, List.set_cons_zero]
      refine wpAnyS_takeD 1 (some 44) (.slice Ai set.length ci) (by rfl) (by rfl) (by kernel_rfl) (by exact fun _ _ _ h => h) (by rfl) (fun w' hS => by go_simp) hHeld ?_
      simp only [Act.put, List.setIfInBounds_toArray, List.set_cons_succ, List.set_cons_zero]
      refine wpAnyS_takeD 3 (some 46) (vlD da) (by rfl) (by rfl) (by kernel_rfl) (by exact fun _ _ _ h => h) (by rfl) (fun w' hS => by (obtain ⟨x0, x1, x2, x3⟩ := hS; go_simp)) hHeld ?_
      simp only [Act.put, List.setIfInBounds_toArray, List.set_cons_succ, List.set_cons_zero]
      refine wpAnyS_takeD 4 (some 47) (vlD db) (by rfl) (by rfl) (by kernel_rfl) (by exact fun _ _ _ h => h) (by rfl) (fun w' hS => by (obtain ⟨x0, x1, x2, x3⟩ := hS; go_simp)) hHeld ?_
      simp only [Act.put, List.setIfInBounds_toArray, List.set_cons_succ, List.set_cons_zero]
      clear hHeld
      refine wpAnyS_one 2 (by kernel_rfl) (by rfl) (by decide) (fun K hK => ?_)
      have HK := Lib.hid hK; clear hK
      rw [if_pos (by rfl)]
      go_simp
      refine HO.out.mono ?_
      rintro e w5 ⟨u5, rfl, ho5, hb5⟩
      refine HK.out _ _ ⟨cell_later hb5 HH.out.1, cell_later hb5 HH.out.2.1, cell_later hb5 HH.out.2.2.1, cell_later hb5 HH.out.2.2.2⟩ ?_
      clear HK
      have HJ := Lib.hid (joinsR_ok _ (onlyL l set true) da db _ ho5.slOf hLl hL)
      generalize jnL (onlyL l set true) da db = J at HJ HR
      have hS5 : Specs w5 u5 (onlyL l set true) := ho5.slOf
      obtain ⟨A5, c5, rfl, _⟩ := id hS5
      clear ho5 hS5 hL hLl
      refine (show tailOf _ _ _ _ _ _ _ _ from ⟨by kernel_rfl, ?_⟩)
      simp only [List.drop_succ_cons, List.drop_zero]
      go_wp2_with fail
      refine HJ.out.mono ?_
      rintro e w6 ⟨rfl, hb6⟩
      go_wp2_with fail
      go_ret
      exact ⟨ret_bool HR.out.symm, below_trans hwA (below_trans hb5 hb6)⟩
def fewB51 (l : List Spec) : Bool := decide (l.length ≤ 12) || (decide (64 < l.length) && decide (l.length < 200))
set_option maxHeartbeats 1000000 in
theorem Few51_ok (v : Value) (l : List Spec) (w : World) (h : Specs w v l) : Calls Tryz.prog 11 #[v] w fun e w' => e = .returned (.bool (fewB51 l)) ∧ w = w' := by
  obtain ⟨A, c, rfl, _⟩ := id h
  clear h
  unfold fewB51
  by_cases h1 : l.length ≤ 12
  · have d1 : decide ((l.length : Int) ≤ 12) = true := by simp; omega
    rw [decide_eq_true h1, Bool.true_or]
    clear h1
    go_enter Tryz.func11, Tryz.ntmps11
    go_wp2_with fail
    go_ret
    exact ⟨rfl, rfl⟩
  · have d1 : decide ((l.length : Int) ≤ 12) = false := by simp; omega
    rw [decide_eq_false h1, Bool.false_or]
    by_cases h2 : 64 < l.length
    · have d2 : decide ((64 : Int) < (l.length : Int)) = true := by simp; omega
      rw [decide_eq_true h2, Bool.true_and]
      by_cases h3 : l.length < 200
      · have d3 : decide ((l.length : Int) < 200) = true := by simp; omega
        rw [decide_eq_true h3]
        clear h1 h2 h3
        go_enter Tryz.func11, Tryz.ntmps11
        go_wp2_with fail
        go_ret
        exact ⟨rfl, rfl⟩
      · have d3 : decide ((l.length : Int) < 200) = false := by simp; omega
        rw [decide_eq_false h3]
        clear h1 h2 h3
        go_enter Tryz.func11, Tryz.ntmps11
        go_wp2_with fail
        go_ret
        exact ⟨rfl, rfl⟩
    · have d2 : decide ((64 : Int) < (l.length : Int)) = false := by simp; omega
      rw [decide_eq_false h2, Bool.false_and]
      clear h1 h2
      go_enter Tryz.func11, Tryz.ntmps11
      go_wp2_with fail
      go_ret
      exact ⟨rfl, rfl⟩
end Go.Proofs.YtlmjncncmgmehaaGreat
/- Reference 51: Minimal. Condition: the arguments read as such. -/
namespace Go.Proofs.YtlmjncncmgmehaaGreat
open Go.RowKit Go.Maps Go.Shelf

set_option maxHeartbeats 8000000 in
set_option maxRecDepth 100000 in
theorem MinR_ok (v iv : Value) (l : List Spec) (da db : Die) (set : List Int) (w : World) (h : Specs w v l) (hi : Ints w iv set) (hl : l.length ≤ 1048576) (hls : set.length ≤ 1048576) :
    Calls Tryz.prog 15 #[v, vlD da, vlD db, iv] w fun e w' => e = .returned (.bool (minS l da db set)) ∧ Below w.heap.size w w' := by
  obtain ⟨X0, hX0, HzX0, hbX0, hltX0, hcX0⟩ := boxed w #[.int .i64 da.side, .int .i64 da.num] 24
  obtain ⟨X1, hX1, HzX1, hbX1, hltX1, hcX1⟩ := boxed X0 #[.int .i64 db.side, .int .i64 db.num] 24
  have hX := below_trans hbX0 hbX1
  have h0 := h.below hX
  have hi0 := hi.below hX
  have a0 := cell_later hbX1 (hcX0 0 _ rfl); have a1 := cell_later hbX1 (hcX0 1 _ rfl)
  have b0 := hcX1 0 _ rfl; have b1 := hcX1 1 _ rfl
  clear hcX0 hcX1
  obtain ⟨A, c, rfl, _⟩ := id h
  obtain ⟨Ai, ci, rfl, hi1, hi2, hci⟩ := hi.cells
  obtain ⟨B, hB⟩ : ∃ B, minS l da db set = B := ⟨_, rfl⟩
  rw [hB]
  have HB := Lib.hid hB
  have HI := Lib.hid (IsR_ok _ _ l da db set _ h0 hi0 hl)
  have Hi := Lib.hid hi; have Hh := Lib.hid h
  clear h0 hi0 hB hi h
  cases hIs : isS l da db set
  case false =>
    rw [hIs] at HI
    have HR := Lib.hid (HB.out.symm.trans (minS_off hIs))
    clear hIs HB hci
    go_enter Tryz.func15, Tryz.ntmps15
    go_wp2_with fail
    refine HI.out.mono ?_
    rintro e w1 ⟨rfl, hb1⟩
    go_wp2_with fail
    go_ret
    exact ⟨ret_bool HR.out.symm, below_trans hX hb1⟩
  rw [hIs] at HI
  have hE : ofE l = 0 := by
    simp only [isS, Bool.and_eq_true, decide_eq_true_eq] at hIs
    exact hIs.1.1.1
  have HE := Lib.hid hE
  have HS := Lib.hid hIs
  obtain ⟨iI, hiI, hzI, hkI, hbI⟩ := info_parts infoI
  clear hIs hE
  go_enter Tryz.func15, Tryz.ntmps15
  go_wp2_with fail
  refine HI.out.mono ?_
  rintro e w1 ⟨rfl, hb1⟩
  have a0 := cell_later hb1 a0; have a1 := cell_later hb1 a1; have b0 := cell_later hb1 b0; have b1 := cell_later hb1 b1
  have hw1 := below_trans hX hb1
  clear HI hX0 hX1
  go_wp2_with fail
  go_loopw [9] (fun i wr => ∃ k : Nat, k ≤ set.length ∧ i = .int .i64 k ∧ Hid (minUp l da db set k) ∧ Below w1.heap.size w1 wr) (fun i _ => set.length - (intOf i).toNat)
  case atStart => exact ⟨0, Nat.zero_le _, rfl, Lib.hid (fun i hi => absurd hi (by omega)), Below.refl _ _⟩
  case round =>
    obtain ⟨k, hk, rfl, HU, hbr⟩ := hrel
    have hwr := below_trans hw1 hbr
    have hsz := hwr.size
    have a0 := cell_later hbr a0; have a1 := cell_later hbr a1; have b0 := cell_later hbr b0; have b1 := cell_later hbr b1
    by_cases hlt : k < set.length
    case neg =>
      have HR := Lib.hid (HB.out.symm.trans (minS_all HS.out HU.out hlt))
      clear hci
      go_wp2_with fail
      go_ret
      exact ⟨ret_bool HR.out.symm, hwr⟩
    obtain ⟨bo, o, rfl, _, _⟩ := hci k hlt
    have hk1 : ((k : Int) + 1) ≤ (set.length : Int) := by omega
    have hk2 : ((k : Int) + 1) ≤ (ci : Int) := by omega
    have hk3 : (0 : Int) ≤ (k : Int) + 1 := by omega
    have hk4 : (set.length : Int) ≤ (ci : Int) := by omega
    have hk5 : (k : Int) ≤ (ci : Int) := by omega
    have hk6 : ¬ ci = k := by omega
    have hk7 : ¬ ((k : Int) + 1 < (k : Int)) := by omega
    have hlt1 : (k : Int) < (set.length : Int) := by omega
    clear hci
    go_upto_region 6 with fail
    go_cut [10] (fun s wc => Ints wc s (set.eraseIdx k) ∧ Below wr.heap.size wr wc)
    case first =>
      have hsl := SlOf.sl (Hi.out)
      have hsl1 : Sl w 1 (some ⟨bo, o, none⟩) (set.take k).length ((set.take k).flatMap encI) := by rw [flat_take encI 1 lenI, List.length_take, Nat.min_eq_left (by omega)]; exact hsl.take (by omega)
      have hba : Below wr.heap.size wr wr.drew := (Below.refl _ _).drew
      obtain ⟨wa, hwa⟩ : ∃ W, wr.drew = W := ⟨_, rfl⟩
      rw [hwa] at hba
      have hwA := below_trans hwr hba
      have hHeld : Below wa.heap.size wa wa := Below.refl _ _
      have hwr1 : IntKind.i64.wrap ((k : Int) + 1) = (k : Int) + 1 := IntWalk.i64_in _ (by omega)
      refine wp_region_S 10 (fun w' => Below wa.heap.size wa w') (by kernel_rfl) (by decide) ?_
      rw [hwa]
      clear hwa a0 a1 b0 b1
      by_cases hc5 : ci = k + 1
      · have hsl2 : Sl w 1 (some ⟨bo, o, none⟩) (set.drop (k + 1)).length ((set.drop (k + 1)).flatMap encI) := by rw [List.drop_eq_nil_of_le (by omega)]; exact Sl.nil _ _ _
        have Hc5 := Lib.hid hc5
        clear hc5 hsl
        refine wpAnyS_takeD 1 (some 24) (.slice (some ⟨bo, o, none⟩) set.length ci) (by rfl) (by rfl) (by kernel_rfl) (by exact fun _ _ _ h => h) (by rfl) (fun w' hS => by go_simp) hHeld ?_
        simp only [Act.put, List.setIfInBounds_toArray, List.set_cons_succ, List.set_cons_zero]
        refine wpAnyS_takeD 2 (some 25) (.int .i64 (k : Int)) (by rfl) (by rfl) (by kernel_rfl) (by exact fun _ _ _ h => h) (by rfl) (fun w' hS => by go_simp) hHeld ?_
        simp only [Act.put, List.setIfInBounds_toArray, List.set_cons_succ, List.set_cons_zero]
        refine wpAnyS_takeD 3 (some 26) (.slice (some ⟨bo, o, none⟩) k ci) (by rfl) (by rfl) (by kernel_rfl) (by exact fun _ _ _ h => h) (by rfl) (fun w' hS => by go_simp) hHeld ?_
        simp only [Act.put, List.setIfInBounds_toArray, List.set_cons_succ, List.set_cons_zero]
        refine wpAnyS_takeD 5 (some 28) (.slice (some ⟨bo, o, none⟩) set.length ci) (by rfl) (by rfl) (by kernel_rfl) (by exact fun _ _ _ h => h) (by rfl) (fun w' hS => by go_simp) hHeld ?_
        simp only [Act.put, List.setIfInBounds_toArray, List.set_cons_succ, List.set_cons_zero]
        refine wpAnyS_takeD 6 (some 29) (.int .i64 (k : Int)) (by rfl) (by rfl) (by kernel_rfl) (by exact fun _ _ _ h => h) (by rfl) (fun w' hS => by go_simp) hHeld ?_
        simp only [Act.put, List.setIfInBounds_toArray, List.set_cons_succ, List.set_cons_zero]
        refine wpAnyS_takeD 7 (some 30) (.int .i64 ((k : Int) + 1)) (by rfl) (by rfl) (by kernel_rfl) (by exact fun _ _ _ h => h) (by rfl) (fun w' hS => by go_simp) hHeld ?_
        simp only [Act.put, List.setIfInBounds_toArray, List.set_cons_succ, List.set_cons_zero]
        refine wpAnyS_takeD 8 (some 31) (.slice (some ⟨bo, o, none⟩) (set.length - (k + 1)) (ci - (k + 1))) (by rfl) (by rfl) (by kernel_rfl) (by exact fun _ _ _ h => h) (by rfl) (fun w' hS => by (have q := Hc5.out; go_simp)) hHeld ?_
        simp only [Act.put, List.setIfInBounds_toArray, List.set_cons_succ, List.set_cons_zero]
        clear hHeld
        refine wpAnyS_one 0 (by kernel_rfl) (by rfl) (by decide) (fun K hK => ?_)
        have HK := Lib.hid hK; clear hK
        rw [if_pos (by rfl)]
        go_simp
        obtain ⟨p1, hp1⟩ : ∃ z, World.alloc wa (.cells #[] 3) = z := ⟨_, rfl⟩
        have bp1 : Below wa.heap.size wa p1 := by rw [← hp1]; exact (Below.refl _ _).alloc (Nat.le_refl _) _
        have op1 : OwnI wa.heap.size p1 (.slice (some ⟨wa.heap.size, 0, none⟩) 0 0) [] := own_empty (by rw [← hp1]; exact heap_alloc_new _ _) (Nat.le_refl _)
        rw [hp1]
        refine HK.out _ _ bp1 ?_
        clear HK
        refine wpAnyS_one 4 (by kernel_rfl) (by rfl) (by decide) (fun K hK => ?_)
        have HK := Lib.hid hK; clear hK
        refine step_append_sl (by rfl) (.tmp 23) (.tmp 26) _ (by rfl) iI _ 8 Tryz.underlying26 hiI hzI hkI hbI (by rfl) (by decide) oneI (by rfl) op1 _ _ _ (set.take k) (by rfl) (by simp <;> omega) (hsl1.below (below_trans hwA bp1)) (by simp <;> omega) (by simp <;> omega) bp1.size ?_
        intro vp2 p2 op2 gp2 atp2
        have bp2 : Below wa.heap.size wa p2 := bp1.grown gp2 bp1.size (fun j e => (op1.lt j e).1)
        refine HK.out _ _ bp2 ?_
        clear HK
        refine wpAnyS_one 9 (by kernel_rfl) (by rfl) (by decide) (fun K hK => ?_)
        have HK := Lib.hid hK; clear hK
        refine step_append_sl (by rfl) (.tmp 27) (.tmp 31) _ (by rfl) iI _ 8 Tryz.underlying26 hiI hzI hkI hbI (by rfl) (by decide) oneI (by rfl) op2 _ _ _ (set.drop (k + 1)) (by rfl) (by simp <;> omega) (hsl2.below (below_trans hwA bp2)) (by simp <;> omega) (by simp <;> omega) bp2.size ?_
        intro vp3 p3 op3 gp3 atp3
        have bp3 : Below wa.heap.size wa p3 := bp2.grown gp3 bp2.size (fun j e => (op2.lt j e).1)
        refine HK.out _ _ bp3 ?_
        clear HK
        refine (show tailOf _ _ _ _ _ _ _ _ from ⟨by kernel_rfl, ?_⟩)
        simp only [List.drop_succ_cons, List.drop_zero]
        have hr : Ints p3 vp3 (set.eraseIdx k) := by
          have := op3.slOf
          rw [List.nil_append, ← List.eraseIdx_eq_take_drop_succ] at this
          exact this
        have Hr := Lib.hid hr
        obtain ⟨Ar, cr, rfl, _⟩ := id hr
        clear hr op1 op2 op3 hp1 gp2 gp3 atp2 atp3
        go_wp2_with fail
        go_meet
        exact ⟨Hr.out, below_trans hba bp3⟩
      · have hsl2 : Sl w 1 (some ⟨bo, o + (k + 1) * 1, none⟩) (set.drop (k + 1)).length ((set.drop (k + 1)).flatMap encI) := by rw [flat_drop encI 1 lenI, List.length_drop]; exact hsl.drop (by omega)
        rw [Nat.mul_one] at hsl2
        clear hsl
        refine wpAnyS_takeD 1 (some 24) (.slice (some ⟨bo, o, none⟩) set.length ci) (by rfl) (by rfl) (by kernel_rfl) (by exact fun _ _ _ h => h) (by rfl) (fun w' hS => by go_simp) hHeld ?_
        simp only [Act.put, List.setIfInBounds_toArray, List.set_cons_succ, List.set_cons_zero]
        refine wpAnyS_takeD 2 (some 25) (.int .i64 (k : Int)) (by rfl) (by rfl) (by kernel_rfl) (by exact fun _ _ _ h => h) (by rfl) (fun w' hS => by go_simp) hHeld ?_
        simp only [Act.put, List.setIfInBounds_toArray, List.set_cons_succ, List.set_cons_zero]
        refine wpAnyS_takeD 3 (some 26) (.slice (some ⟨bo, o, none⟩) k ci) (by rfl) (by rfl) (by kernel_rfl) (by exact fun _ _ _ h => h) (by rfl) (fun w' hS => by go_simp) hHeld ?_
        simp only [Act.put, List.setIfInBounds_toArray, List.set_cons_succ, List.set_cons_zero]
        refine wpAnyS_takeD 5 (some 28) (.slice (some ⟨bo, o, none⟩) set.length ci) (by rfl) (by rfl) (by kernel_rfl) (by exact fun _ _ _ h => h) (by rfl) (fun w' hS => by go_simp) hHeld ?_
        simp only [Act.put, List.setIfInBounds_toArray, List.set_cons_succ, List.set_cons_zero]
        refine wpAnyS_takeD 6 (some 29) (.int .i64 (k : Int)) (by rfl) (by rfl) (by kernel_rfl) (by exact fun _ _ _ h => h) (by rfl) (fun w' hS => by go_simp) hHeld ?_
        simp only [Act.put, List.setIfInBounds_toArray, List.set_cons_succ, List.set_cons_zero]
        refine wpAnyS_takeD 7 (some 30) (.int .i64 ((k : Int) + 1)) (by rfl) (by rfl) (by kernel_rfl) (by exact fun _ _ _ h => h) (by rfl) (fun w' hS => by go_simp) hHeld ?_
        simp only [Act.put, List.setIfInBounds_toArray, List.set_cons_succ, List.set_cons_zero]
        refine wpAnyS_takeD 8 (some 31) (.slice (some ⟨bo, o + (k + 1), none⟩) (set.length - (k + 1)) (ci - (k + 1))) (by rfl) (by rfl) (by kernel_rfl) (by exact fun _ _ _ h => h) (by rfl) (fun w' hS => by (go_simp)) hHeld ?_
        simp only [Act.put, List.setIfInBounds_toArray, List.set_cons_succ, List.set_cons_zero]
        clear hHeld
        refine wpAnyS_one 0 (by kernel_rfl) (by rfl) (by decide) (fun K hK => ?_)
        have HK := Lib.hid hK; clear hK
        rw [if_pos (by rfl)]
        go_simp
        obtain ⟨p1, hp1⟩ : ∃ z, World.alloc wa (.cells #[] 3) = z := ⟨_, rfl⟩
        have bp1 : Below wa.heap.size wa p1 := by rw [← hp1]; exact (Below.refl _ _).alloc (Nat.le_refl _) _
        have op1 : OwnI wa.heap.size p1 (.slice (some ⟨wa.heap.size, 0, none⟩) 0 0) [] := own_empty (by rw [← hp1]; exact heap_alloc_new _ _) (Nat.le_refl _)
        rw [hp1]
        refine HK.out _ _ bp1 ?_
        clear HK
        refine wpAnyS_one 4 (by kernel_rfl) (by rfl) (by decide) (fun K hK => ?_)
        have HK := Lib.hid hK; clear hK
        refine step_append_sl (by rfl) (.tmp 23) (.tmp 26) _ (by rfl) iI _ 8 Tryz.underlying26 hiI hzI hkI hbI (by rfl) (by decide) oneI (by rfl) op1 _ _ _ (set.take k) (by rfl) (by simp <;> omega) (hsl1.below (below_trans hwA bp1)) (by simp <;> omega) (by simp <;> omega) bp1.size ?_
        intro vp2 p2 op2 gp2 atp2
        have bp2 : Below wa.heap.size wa p2 := bp1.grown gp2 bp1.size (fun j e => (op1.lt j e).1)
        refine HK.out _ _ bp2 ?_
        clear HK
        refine wpAnyS_one 9 (by kernel_rfl) (by rfl) (by decide) (fun K hK => ?_)
        have HK := Lib.hid hK; clear hK
        refine step_append_sl (by rfl) (.tmp 27) (.tmp 31) _ (by rfl) iI _ 8 Tryz.underlying26 hiI hzI hkI hbI (by rfl) (by decide) oneI (by rfl) op2 _ _ _ (set.drop (k + 1)) (by rfl) (by simp <;> omega) (hsl2.below (below_trans hwA bp2)) (by simp <;> omega) (by simp <;> omega) bp2.size ?_
        intro vp3 p3 op3 gp3 atp3
        have bp3 : Below wa.heap.size wa p3 := bp2.grown gp3 bp2.size (fun j e => (op2.lt j e).1)
        refine HK.out _ _ bp3 ?_
        clear HK
        refine (show tailOf _ _ _ _ _ _ _ _ from ⟨by kernel_rfl, ?_⟩)
        simp only [List.drop_succ_cons, List.drop_zero]
        have hr : Ints p3 vp3 (set.eraseIdx k) := by
          have := op3.slOf
          rw [List.nil_append, ← List.eraseIdx_eq_take_drop_succ] at this
          exact this
        have Hr := Lib.hid hr
        obtain ⟨Ar, cr, rfl, _⟩ := id hr
        clear hr op1 op2 op3 hp1 gp2 gp3 atp2 atp3
        go_wp2_with fail
        go_meet
        exact ⟨Hr.out, below_trans hba bp3⟩
    case rest =>
      obtain ⟨hr, hbc⟩ := hcut
      have hwc := below_trans hwr hbc
      have hHc : (fun w' : World => w'.cell? ⟨w.heap.size, 0, none⟩ = some (.int .i64 da.side) ∧ w'.cell? ⟨w.heap.size, 1, none⟩ = some (.int .i64 da.num) ∧ w'.cell? ⟨X0.heap.size, 0, none⟩ = some (.int .i64 db.side) ∧ w'.cell? ⟨X0.heap.size, 1, none⟩ = some (.int .i64 db.num)) wc := ⟨cell_later hbc a0, cell_later hbc a1, cell_later hbc b0, cell_later hbc b1⟩
      have hL := only_of HE.out (set.eraseIdx k) true
      have hll : l.length ≤ 64 := (checkE_zero (ofE_zero HE.out).1).1
      have hLl : (onlyL l (set.eraseIdx k) true).length ≤ 64 := Nat.le_trans (only_sub l (set.eraseIdx k) true).length_le hll
      have hba : Below wc.heap.size wc wc.drew := (Below.refl _ _).drew
      have Hr := Lib.hid hr
      obtain ⟨Ar, cr, rfl, _⟩ := id hr
      have HN : Hid (minUp l da db set k → jnL (onlyL l (set.eraseIdx k) true) da db = false → minUp l da db set (k + 1)) := Lib.hid fun hu hj i hi => by
        rcases Nat.lt_or_ge i k with h1 | h1
        · exact hu i h1
        · have : i = k := by omega
          subst this; exact hj
      have HT : Hid (jnL (onlyL l (set.eraseIdx k) true) da db = true → B = false) := Lib.hid fun hj => HB.out.symm.trans (minS_hit hlt hj)
      clear a0 a1 b0 b1 hr
      go_wp2_with fail
      obtain ⟨wa, hwa⟩ : ∃ W, wc.drew = W := ⟨_, rfl⟩
      rw [hwa] at hba
      have hwA := below_trans hwc hba
      have HO := Lib.hid (onlyRtrue_ok _ _ l (set.eraseIdx k) _ (Hh.out.below hwA) (Hr.out.below hba) hl)
      have hHeld : (fun w' : World => w'.cell? ⟨w.heap.size, 0, none⟩ = some (.int .i64 da.side) ∧ w'.cell? ⟨w.heap.size, 1, none⟩ = some (.int .i64 da.num) ∧ w'.cell? ⟨X0.heap.size, 0, none⟩ = some (.int .i64 db.side) ∧ w'.cell? ⟨X0.heap.size, 1, none⟩ = some (.int .i64 db.num)) wa := ⟨cell_later hba hHc.1, cell_later hba hHc.2.1, cell_later hba hHc.2.2.1, cell_later hba hHc.2.2.2⟩
      have HH := Lib.hid hHeld
      refine wp_region_S 5 (fun w' : World => w'.cell? ⟨w.heap.size, 0, none⟩ = some (.int .i64 da.side) ∧ w'.cell? ⟨w.heap.size, 1, none⟩ = some (.int .i64 da.num) ∧ w'.cell? ⟨X0.heap.size, 0, none⟩ = some (.int .i64 db.side) ∧ w'.cell? ⟨X0.heap.size, 1, none⟩ = some (.int .i64 db.num)) (by kernel_rfl) (by decide) ?_
      rw [hwa]
      clear hwa hHc
      refine wpAnyS_takeD 0 (some 33) (.slice A l.length c) (by rfl) (by rfl) (by kernel_rfl) (by exact fun _ _ _ h => h) (by rfl) (fun w' hS => by go_simp) hHeld ?_
      simp only [Act.put, List.setIfInBounds_toArray, List.set_cons_succ, List.set_cons_zero]
      refine wpAnyS_takeD 1 (some 34) (.slice Ar (set.eraseIdx k).length cr) (by rfl) (by rfl) (by kernel_rfl) (by exact fun _ _ _ h => h) (by rfl) (fun w' hS => by go_simp) hHeld ?_
      simp only [Act.put, List.setIfInBounds_toArray, List.set_cons_succ, List.set_cons_zero]
      refine wpAnyS_takeD 3 (some 36) (vlD da) (by rfl) (by rfl) (by kernel_rfl) (by exact fun _ _ _ h => h) (by rfl) (fun w' hS => by (obtain ⟨x0, x1, x2, x3⟩ := hS; go_simp)) hHeld ?_
      simp only [Act.put, List.setIfInBounds_toArray, List.set_cons_succ, List.set_cons_zero]
      refine wpAnyS_takeD 4 (some 37) (vlD db) (by rfl) (by rfl) (by kernel_rfl) (by exact fun _ _ _ h => h) (by rfl) (fun w' hS => by (obtain ⟨x0, x1, x2, x3⟩ := hS; go_simp)) hHeld ?_
      simp only [Act.put, List.setIfInBounds_toArray, List.set_cons_succ, List.set_cons_zero]
      clear hHeld
      refine wpAnyS_one 2 (by kernel_rfl) (by rfl) (by decide) (fun K hK => ?_)
      have HK := Lib.hid hK; clear hK
      rw [if_pos (by rfl)]
      go_simp
      refine HO.out.mono ?_
      rintro e w5 ⟨u5, rfl, ho5, hb5⟩
      refine HK.out _ _ ⟨cell_later hb5 HH.out.1, cell_later hb5 HH.out.2.1, cell_later hb5 HH.out.2.2.1, cell_later hb5 HH.out.2.2.2⟩ ?_
      clear HK
      have HJ := Lib.hid (joinsR_ok _ (onlyL l (set.eraseIdx k) true) da db _ ho5.slOf hLl hL)
      generalize jnL (onlyL l (set.eraseIdx k) true) da db = J at HJ HN HT
      have hS5 : Specs w5 u5 (onlyL l (set.eraseIdx k) true) := ho5.slOf
      obtain ⟨A5, c5, rfl, _⟩ := id hS5
      clear ho5 hS5 hL hLl
      refine (show tailOf _ _ _ _ _ _ _ _ from ⟨by kernel_rfl, ?_⟩)
      simp only [List.drop_succ_cons, List.drop_zero]
      cases J
      · go_wp2_with fail
        refine HJ.out.mono ?_
        rintro e w6 ⟨rfl, hb6⟩
        go_wp2_with fail
        refine ⟨?rel, ?measure⟩
        case rel => exact ⟨k + 1, by omega, by go_num, Lib.hid (HN.out HU.out (by trivial)), below_trans hbr (below_trans hbc (below_trans hba (below_trans hb5 hb6)))⟩
        case measure => simp [intOf]; omega
      · go_wp2_with fail
        refine HJ.out.mono ?_
        rintro e w6 ⟨rfl, hb6⟩
        go_wp2_with fail
        go_ret
        exact ⟨ret_bool (HT.out (by trivial)).symm, below_trans hwA (below_trans hb5 hb6)⟩
end Go.Proofs.YtlmjncncmgmehaaGreat
/- Reference 51: place, distances. Condition: a valid graph, lists that read as such. -/
namespace Go.Proofs.YtlmjncncmgmehaaGreat
open Go.RowKit Go.Maps Go.Shelf

def plN (l : List Die) (d : Die) : Nat := (plI l d).toNat
theorem plN_at {l : List Die} {d : Die} (h : d ∈ l) : l[plN l d]? = some d := by
  obtain ⟨k, h1, h2⟩ := plI_at h
  rw [plN, h1]; exact h2
set_option maxHeartbeats 2000000 in
set_option maxRecDepth 100000 in
theorem place51_ok (v : Value) (xs : List Die) (y : Die) (w : World) (h : Dies w v xs) :
    Calls Tryz.prog 48 #[v, vlD y] w fun e w' => e = .returned (.int .i64 (plN xs y : Nat)) ∧ Below w.heap.size w w' := by
  obtain ⟨A, c, rfl, _, _, hc⟩ := h.cells
  obtain ⟨W, hW, Hz, hwW, hlt0, hc1⟩ := boxed w #[.int .i64 y.side, .int .i64 y.num] 24
  have b0 := hc1 0 _ rfl; have b1 := hc1 1 _ rfl
  clear hc1
  unfold plN plI
  go_enter Tryz.func48, Tryz.ntmps48
  go_wp2_with fail
  clear hW
  go_loopw [5] (fun i wr => ∃ k : Nat, k ≤ xs.length ∧ i = .int .i64 k ∧ Hid ((xs.take k).all (fun x => !decide (x = y)) = true) ∧ Below W.heap.size W wr) (fun i _ => xs.length - (intOf i).toNat)
  case atStart => exact ⟨0, Nat.zero_le _, rfl, by show _ = _; simp, Below.refl _ _⟩
  case round =>
    obtain ⟨k, hk, rfl, Hr, hb⟩ := hrel
    by_cases hlt : k < xs.length
    · obtain ⟨b, o, rfl, _, hcb⟩ := hc k hlt
      obtain ⟨x, hx⟩ := get_of_lt hlt
      have hw := below_trans hwW hb
      obtain ⟨e0, e1⟩ := hcb wr hw k x hx
      have m0 := Later.cell_all e0; have m1 := Later.cell_all e1
      have n0 := Later.cell_all (cell_later hb b0); have n1 := Later.cell_all (cell_later hb b1)
      have hl1 : (k : Int) < (xs.length : Int) := by omega
      have hl0 : (0 : Int) ≤ (k : Int) := by omega
      have Hx := Lib.hid hx; clear hx hc hcb e0 e1
      by_cases h1 : x.side = y.side
      · have d1 : (x.side = y.side) = True := eq_true h1
        by_cases h2 : x.num = y.num
        · have d2 : (x.num = y.num) = True := eq_true h2
          have hp := firstI_hit (p := fun z => decide (z = y)) Hx.out Hr.out (by cases x; cases y; simp_all)
          have Hp := Lib.hid hp; clear hp h1 h2
          go_wp2_with fail
          refine wp_region_later (by kernel_rfl) (by kernel_rfl) ?_
          repeat (go_big_quiet_step (first | fail))
          refine wpQuiet_nil ?_
          intro _ hw'
          obtain ⟨xq, hw''⟩ := hw'
          subst hw''
          have hba := xq.h
          generalize xq.to = wa at hba ⊢
          clear m0 m1 n0 n1
          have hb' := below_trans hb hba
          go_wp2_with fail
          go_ret
          exact ⟨ret_i64 (by rw [Hp.out]; rfl), below_trans hwW hb'⟩
        · have d2 : (x.num = y.num) = False := eq_false h2
          have hn := all_snoc (p := fun z => !decide (z = y)) Hx.out Hr.out (by simp; intro e; subst e; exact h2 rfl)
          have Hn := Lib.hid hn; clear hn h1 h2
          go_wp2_with fail
          refine wp_region_later (by kernel_rfl) (by kernel_rfl) ?_
          repeat (go_big_quiet_step (first | fail))
          refine wpQuiet_nil ?_
          intro _ hw'
          obtain ⟨xq, hw''⟩ := hw'
          subst hw''
          have hba := xq.h
          generalize xq.to = wa at hba ⊢
          clear m0 m1 n0 n1
          have hb' := below_trans hb hba
          go_wp2_with fail
          refine ⟨?rel, ?measure⟩
          case rel => exact ⟨k + 1, by omega, by go_num, Hn.out, hb'⟩
          case measure => first | (simp [intOf]; done) | (simp [intOf]; omega)
      · have d1 : (x.side = y.side) = False := eq_false h1
        have hn := all_snoc (p := fun z => !decide (z = y)) Hx.out Hr.out (by simp; intro e; subst e; exact h1 rfl)
        have Hn := Lib.hid hn; clear hn h1
        go_wp2_with fail
        refine wp_region_later (by kernel_rfl) (by kernel_rfl) ?_
        repeat (go_big_quiet_step (first | fail))
        refine wpQuiet_nil ?_
        intro _ hw'
        obtain ⟨xq, hw''⟩ := hw'
        subst hw''
        have hba := xq.h
        generalize xq.to = wa at hba ⊢
        clear m0 m1 n0 n1
        have hb' := below_trans hb hba
        go_wp2_with fail
        refine ⟨?rel, ?measure⟩
        case rel => exact ⟨k + 1, by omega, by go_num, Hn.out, hb'⟩
        case measure => first | (simp [intOf]; done) | (simp [intOf]; omega)
    · have Hm : Hid (firstI (fun z => decide (z = y)) xs = -1) := firstI_miss (all_end hlt Hr.out)
      go_wp2_with fail
      go_ret
      exact ⟨ret_i64 (by rw [Hm.out]; rfl), below_trans hwW hb⟩
noncomputable def dstF (g : Graph) (a d : Die) : Int := if awayE g a d = 0 then distG g a d else 100
theorem dst_cases {g : Graph} (hg : graphB g = true) (a d : Die) : ∃ n e : Int, distG g a d = n ∧ awayE g a d = e ∧ ((e = 0 ∧ dstF g a d = n) ∨ (e = 7 ∧ dstF g a d = 100)) := by
  refine ⟨_, _, rfl, rfl, ?_⟩
  cases hj : joinB (edgesG g) a d
  · exact .inr ⟨(dist_none hg hj).2, by rw [dstF, (dist_none hg hj).2]; rfl⟩
  · exact .inl ⟨(dist_some hg hj).2, by rw [dstF, (dist_some hg hj).2]; rfl⟩
set_option maxHeartbeats 8000000 in
set_option maxRecDepth 100000 in
theorem distances_ok (v u : Value) (g : Graph) (hg : graphB g = true) (da : Die) (ds : List Die) (w : World) (h : GraphAt w v g) (hu : Dies w u ds) (hl : ds.length ≤ 1024) :
    Calls Tryz.prog 47 #[v, vlD da, u] w fun e w' => ∃ r, e = .returned r ∧ Ints w' r (ds.map (dstF g da)) ∧ Below w.heap.size w w' := by
  have h' := h
  obtain ⟨v1, v2, v3, rfl, ho, hr, hk⟩ := h
  obtain ⟨A1, c1, rfl, _, _, _⟩ := ho.cells
  obtain ⟨A2, c2, rfl, _, _, _⟩ := hr.cells
  obtain ⟨A3, c3, rfl, _, _, _⟩ := hk.cells
  obtain ⟨W0, hW0, Hz0, hb0, hlt0, hc0⟩ := boxed w #[.slice A1 g.obv.length c1, .slice A2 g.rev.length c2, .slice A3 g.links.length c3] 54
  obtain ⟨W1, hW1, Hz1, hb1, hlt1, hc1⟩ := boxed W0 #[.int .i64 da.side, .int .i64 da.num] 24
  have a0 := cell_later hb1 (hc0 0 _ rfl); have a1 := cell_later hb1 (hc0 1 _ rfl); have a2 := cell_later hb1 (hc0 2 _ rfl)
  have b0 := hc1 0 _ rfl; have b1 := hc1 1 _ rfl
  have hw1 := below_trans hb0 hb1
  obtain ⟨A, c, rfl, _, _, hc⟩ := hu.cells
  obtain ⟨iI, hiI, hzI, hkI, hbI⟩ := info_parts infoI
  have Hg := Lib.hid hg; have Hh := Lib.hid h'
  clear hc0 hc1 ho hr hk hg h' hu
  go_enter Tryz.func47, Tryz.ntmps47
  go_wp2_with fail
  clear hW0 hW1
  go_loopw [7, 8] (fun q i wr => ∃ k : Nat, k ≤ ds.length ∧ i = .int .i64 k ∧ OwnI W1.heap.size wr q ((ds.take k).map (dstF g da)) ∧ Below W1.heap.size W1 wr) (fun _ i _ => ds.length - (intOf i).toNat)
  case atStart => exact ⟨0, Nat.zero_le _, rfl, own_nil _ _ _ _ _, Below.refl _ _⟩
  case round =>
    obtain ⟨k, hk, rfl, hown, hbr⟩ := hrel
    have hwr := below_trans hw1 hbr
    by_cases hlt : k < ds.length
    case neg =>
      have Ht : Hid ((ds.take k).map (dstF g da) = ds.map (dstF g da)) := Lib.hid (by rw [List.take_of_length_le (by omega)])
      clear hc
      go_wp2_with fail
      go_ret
      exact ⟨_, rfl, by rw [← Ht.out]; exact hown.slOf, hwr⟩
    obtain ⟨x, hx⟩ := get_of_lt hlt
    obtain ⟨bo, o, rfl, _, hcb⟩ := hc k hlt
    have h1 : (k : Int) < (ds.length : Int) := by omega
    have h0 : (0 : Int) ≤ (k : Int) := by omega
    obtain ⟨n, E, hn, hE, hcase⟩ := dst_cases Hg.out da x
    have HC := Lib.hid hcase
    have Htk : Hid ((ds.take (k + 1)).map (dstF g da) = (ds.take k).map (dstF g da) ++ [dstF g da x]) := Lib.hid (by rw [take_snoc' hx, List.map_append]; rfl)
    have hQl : ((ds.take k).map (dstF g da)).length ≤ 1024 := by simp; omega
    obtain ⟨Q, hQ⟩ : ∃ Q, (ds.take k).map (dstF g da) = Q := ⟨_, rfl⟩
    rw [hQ] at hown Htk hQl
    clear hQ hcase
    go_wp2_with fail
    have hba : Below wr.heap.size wr wr.drew := (Below.refl _ _).drew
    obtain ⟨wa, hwa⟩ : ∃ W, wr.drew = W := ⟨_, rfl⟩
    rw [hwa] at hba
    have hwA := below_trans hwr hba
    have hbrA := below_trans hbr hba
    have HD := Lib.hid fun w9 (hb : Below W1.heap.size W1 w9) => Distance14_ok _ g Hg.out da x w9 (Hh.out.below (below_trans hw1 hb))
    rw [hn, hE] at HD
    obtain ⟨y0, y1⟩ := hcb wa hwA k x hx
    have hHeld : (fun w' : World => (w'.cell? ⟨w.heap.size, 0, none⟩ = some (.slice A1 g.obv.length c1) ∧ w'.cell? ⟨w.heap.size, 1, none⟩ = some (.slice A2 g.rev.length c2) ∧ w'.cell? ⟨w.heap.size, 2, none⟩ = some (.slice A3 g.links.length c3)) ∧ (w'.cell? ⟨W0.heap.size, 0, none⟩ = some (.int .i64 da.side) ∧ w'.cell? ⟨W0.heap.size, 1, none⟩ = some (.int .i64 da.num)) ∧ w'.cell? ⟨bo, o + k * 2, none⟩ = some (.int .i64 x.side) ∧ w'.cell? ⟨bo, o + k * 2 + 1, none⟩ = some (.int .i64 x.num)) wa := ⟨⟨cell_later hbrA a0, cell_later hbrA a1, cell_later hbrA a2⟩, ⟨cell_later hbrA b0, cell_later hbrA b1⟩, y0, y1⟩
    have HH := Lib.hid fun (w9 : World) (hb : Below wa.heap.size wa w9) => (show (fun w' : World => (w'.cell? ⟨w.heap.size, 0, none⟩ = some (.slice A1 g.obv.length c1) ∧ w'.cell? ⟨w.heap.size, 1, none⟩ = some (.slice A2 g.rev.length c2) ∧ w'.cell? ⟨w.heap.size, 2, none⟩ = some (.slice A3 g.links.length c3)) ∧ (w'.cell? ⟨W0.heap.size, 0, none⟩ = some (.int .i64 da.side) ∧ w'.cell? ⟨W0.heap.size, 1, none⟩ = some (.int .i64 da.num)) ∧ w'.cell? ⟨bo, o + k * 2, none⟩ = some (.int .i64 x.side) ∧ w'.cell? ⟨bo, o + k * 2 + 1, none⟩ = some (.int .i64 x.num)) w9 from ⟨⟨cell_later hb hHeld.1.1, cell_later hb hHeld.1.2.1, cell_later hb hHeld.1.2.2⟩, ⟨cell_later hb hHeld.2.1.1, cell_later hb hHeld.2.1.2⟩, cell_later hb hHeld.2.2.1, cell_later hb hHeld.2.2.2⟩)
    refine wp_region_S 11 (fun w' : World => (w'.cell? ⟨w.heap.size, 0, none⟩ = some (.slice A1 g.obv.length c1) ∧ w'.cell? ⟨w.heap.size, 1, none⟩ = some (.slice A2 g.rev.length c2) ∧ w'.cell? ⟨w.heap.size, 2, none⟩ = some (.slice A3 g.links.length c3)) ∧ (w'.cell? ⟨W0.heap.size, 0, none⟩ = some (.int .i64 da.side) ∧ w'.cell? ⟨W0.heap.size, 1, none⟩ = some (.int .i64 da.num)) ∧ w'.cell? ⟨bo, o + k * 2, none⟩ = some (.int .i64 x.side) ∧ w'.cell? ⟨bo, o + k * 2 + 1, none⟩ = some (.int .i64 x.num)) (by kernel_rfl) (by decide) ?_
    rw [hwa]
    clear hwa a0 a1 a2 b0 b1 y0 y1 hc hcb hx
    refine wpAnyS_takeD 0 (some 18) (.agg #[.slice A1 g.obv.length c1, .slice A2 g.rev.length c2, .slice A3 g.links.length c3]) (by rfl) (by rfl) (by kernel_rfl) (by exact fun _ _ _ h => h) (by rfl) (fun w' hS => by (obtain ⟨⟨x0, x1, x2⟩, _⟩ := hS; go_simp)) hHeld ?_
    simp only [Act.put, List.setIfInBounds_toArray, List.set_cons_succ, List.set_cons_zero]
    refine wpAnyS_takeD 1 (some 19) (vlD da) (by rfl) (by rfl) (by kernel_rfl) (by exact fun _ _ _ h => h) (by rfl) (fun w' hS => by (obtain ⟨_, ⟨x0, x1⟩, _⟩ := hS; go_simp)) hHeld ?_
    simp only [Act.put, List.setIfInBounds_toArray, List.set_cons_succ, List.set_cons_zero]
    refine wpAnyS_takeD 2 (some 20) (.slice (some ⟨bo, o, none⟩) ds.length c) (by rfl) (by rfl) (by kernel_rfl) (by exact fun _ _ _ h => h) (by rfl) (fun w' hS => by go_simp) hHeld ?_
    simp only [Act.put, List.setIfInBounds_toArray, List.set_cons_succ, List.set_cons_zero]
    refine wpAnyS_takeD 3 (some 21) (.int .i64 (k : Int)) (by rfl) (by rfl) (by kernel_rfl) (by exact fun _ _ _ h => h) (by rfl) (fun w' hS => by go_simp) hHeld ?_
    simp only [Act.put, List.setIfInBounds_toArray, List.set_cons_succ, List.set_cons_zero]
    refine wpAnyS_takeD 4 (some 22) (.pointer (some ⟨bo, o + k * 2, none⟩)) (by rfl) (by rfl) (by kernel_rfl) (by exact fun _ _ _ h => h) (by rfl) (fun w' hS => by go_simp) hHeld ?_
    simp only [Act.put, List.setIfInBounds_toArray, List.set_cons_succ, List.set_cons_zero]
    refine wpAnyS_takeD 5 (some 23) (vlD x) (by rfl) (by rfl) (by kernel_rfl) (by exact fun _ _ _ h => h) (by rfl) (fun w' hS => by (obtain ⟨_, _, x0, x1⟩ := hS; go_simp)) hHeld ?_
    simp only [Act.put, List.setIfInBounds_toArray, List.set_cons_succ, List.set_cons_zero]
    clear hHeld
    refine wpAnyS_one 6 (by kernel_rfl) (by rfl) (by decide) (fun K hK => ?_)
    have HK := Lib.hid hK; clear hK
    rw [if_pos (by rfl)]
    go_simp
    refine (HD.out _ hbrA).mono ?_
    rintro e w3 ⟨rfl, hb3⟩
    have hHeld := HH.out _ hb3
    have hown3 := hown.below (below_trans hba hb3)
    refine HK.out _ _ hHeld ?_
    clear HK
    refine wpAnyS_takeD 7 (some 17) (.tuple #[.int .i64 n, .int .i64 E]) (by rfl) (by rfl) (by kernel_rfl) (by exact fun _ _ _ h => h) (by rfl) (fun w' hS => by go_simp) hHeld ?_
    simp only [Act.put, List.setIfInBounds_toArray]
    refine wpAnyS_takeD 8 (some 25) (.int .i64 n) (by rfl) (by rfl) (by kernel_rfl) (by exact fun _ _ _ h => h) (by rfl) (fun w' hS => by go_simp) hHeld ?_
    simp only [Act.put, List.setIfInBounds_toArray]
    refine wpAnyS_takeD 9 (some 26) (.int .i64 E) (by rfl) (by rfl) (by kernel_rfl) (by exact fun _ _ _ h => h) (by rfl) (fun w' hS => by go_simp) hHeld ?_
    simp only [Act.put, List.setIfInBounds_toArray]
    refine wpAnyS_takeD 10 (some 9) (.int .i64 n) (by rfl) (by rfl) (by kernel_rfl) (by exact fun _ _ _ h => h) (by rfl) (fun w' hS => by go_simp) hHeld ?_
    simp only [Act.put, List.setIfInBounds_toArray]
    clear hHeld
    refine (show tailOf _ _ _ _ _ _ _ _ from ⟨by kernel_rfl, ?_⟩)
    simp only [List.drop_succ_cons, List.drop_zero]
    have hbr3 := below_trans hbrA hb3
    have hz3 := hbr3.size
    rcases HC.out with ⟨rfl, hf⟩ | ⟨rfl, hf⟩
    · rw [hf] at Htk
      clear hf
      go_wp2_with (at_builtin; refine wpList_append1 (enc := encI) (size := 1) (B := W1.heap.size) rfl (.tmp 29) (.tmp 31) _ rfl 3 iI _ 8 Tryz.underlying26 hiI hzI hkI hbI rfl (by decide) rfl hown3 n _ rfl lenI oneI _ rfl rfl (by omega) (by omega) hz3 ?_; intro v' w7 hown' hgrow hat)
      have hb8 := hbr3.grown hgrow hz3 (fun j e => (hown3.lt j e).1)
      refine ⟨?rel, ?measure⟩
      case rel => exact ⟨k + 1, by omega, by go_num, by rw [Htk.out]; exact hown', hb8⟩
      case measure => first | (simp [intOf]; done) | (simp [intOf]; omega)
    · rw [hf] at Htk
      clear hf
      go_wp2_with (at_builtin; refine wpList_append1 (enc := encI) (size := 1) (B := W1.heap.size) rfl (.tmp 29) (.tmp 31) _ rfl 3 iI _ 8 Tryz.underlying26 hiI hzI hkI hbI rfl (by decide) rfl hown3 (100 : Int) _ rfl lenI oneI _ rfl rfl (by omega) (by omega) hz3 ?_; intro v' w7 hown' hgrow hat)
      have hb8 := hbr3.grown hgrow hz3 (fun j e => (hown3.lt j e).1)
      refine ⟨?rel, ?measure⟩
      case rel => exact ⟨k + 1, by omega, by go_num, by rw [Htk.out]; exact hown', hb8⟩
      case measure => first | (simp [intOf]; done) | (simp [intOf]; omega)
end Go.Proofs.YtlmjncncmgmehaaGreat
