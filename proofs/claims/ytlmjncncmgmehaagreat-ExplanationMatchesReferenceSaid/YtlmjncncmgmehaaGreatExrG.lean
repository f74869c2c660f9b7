/- Reference 9: Of; plain: its first Id, the reference's distances. Condition: the list is one without error, the die is valid. -/
import Derived.Test.YtlmjncncmgmehaaGreatExrF
import Derived.Test.YtlmjncncmgmehaaGreatExpP
namespace Go.Proofs.YtlmjncncmgmehaaGreat
open Go.RowKit Go.Maps Go.Shelf

def dieVB (d : Die) : Bool := inB d.side 0 1 && inB d.num 1 999
def inDB (d : Die) (s : Spec) : Bool := (decide (d.side = 0) && decide (s.obv = d.num)) || (decide (d.side = 1) && decide (s.rev = d.num))
def IdsOf (l : List Spec) (d : Die) (L : List Int) : Prop := AscL L ∧ ∀ n, n ∈ L ↔ ∃ s ∈ l, inDB d s = true ∧ s.id = n
section
variable {l : List Spec} {a b d : Die} {L : List Int} {f : Die → Int}
theorem in_acr {s : Spec} : inDB d s = true ↔ (acrO (linkOf s) d).isSome = true := by
  obtain ⟨sd, n⟩ := d
  unfold acrO inDB lA lB linkOf
  simp only [Bool.or_eq_true, Bool.and_eq_true, decide_eq_true_eq, Die.mk.injEq]
  split
  · rename_i h; simp [h.1, h.2]
  · rename_i h
    split
    · rename_i h2; simp [h2.1, h2.2]
    · rename_i h2
      simp only [Option.isSome_none, Bool.false_eq_true, iff_false]
      rintro (⟨h3, h4⟩ | ⟨h3, h4⟩)
      · exact h ⟨h3, h4.symm⟩
      · exact h2 ⟨h3, h4.symm⟩
theorem end_spec (h : EndE (edgesS l) d) : ∃ s ∈ l, inDB d s = true := by
  obtain ⟨e, he, hq⟩ := h
  obtain ⟨s, hs, rfl⟩ := List.mem_map.1 he
  refine ⟨s, hs, ?_⟩
  rcases hq with rfl | rfl <;> simp [inDB, dA, dB]
theorem end_valid (hE : ofE l = 0) (h : EndE (edgesS l) d) : dieVB d = true := by
  obtain ⟨e, he, hq⟩ := h
  obtain ⟨s, hs, rfl⟩ := List.mem_map.1 he
  obtain ⟨i, hi⟩ := List.getElem?_of_mem hs
  have := (ofE_spec hE hi).1
  simp only [specB, inB, Bool.and_eq_true, decide_eq_true_eq] at this
  rcases hq with rfl | rfl
  · show (inB 0 0 1 && inB s.obv 1 999) = true
    simp only [inB, Bool.and_eq_true, decide_eq_true_eq]; omega
  · show (inB 1 0 1 && inB s.rev 1 999) = true
    simp only [inB, Bool.and_eq_true, decide_eq_true_eq]; omega
theorem ids_first (h : ofE l = 0) (hL : IdsOf l a L) (ha : EndE (edgesS l) a) : ∃ x, (ofG l).links.find? (fun x => (acrO x a).isSome) = some x ∧ L.take 1 = [x.id] ∧ 0 < L.length := by
  have hM : L = ((ofG l).links.filter fun x => (acrO x a).isSome).map Link.id := by
    refine asc_unique id hL.1 (((ids_asc h)).sublist (List.filter_sublist.map _)) fun n => ?_
    rw [hL.2, List.mem_map]
    constructor
    · rintro ⟨s, hs, hi, rfl⟩
      exact ⟨linkOf s, List.mem_filter.2 ⟨(links_of h).2 ⟨s, hs, rfl⟩, in_acr.1 hi⟩, rfl⟩
    · rintro ⟨x, hx, rfl⟩
      obtain ⟨h1, h2⟩ := List.mem_filter.1 hx
      obtain ⟨s, hs, rfl⟩ := (links_of h).1 h1
      exact ⟨s, hs, in_acr.2 h2, rfl⟩
  obtain ⟨s, hs, hi⟩ := end_spec ha
  have hne : linkOf s ∈ (ofG l).links.filter fun x => (acrO x a).isSome := List.mem_filter.2 ⟨(links_of h).2 ⟨s, hs, rfl⟩, in_acr.1 hi⟩
  have hhead := List.head?_filter (p := fun x => (acrO x a).isSome) (l := (ofG l).links)
  cases hF : (ofG l).links.filter fun x => (acrO x a).isSome with
  | nil => rw [hF] at hne; cases hne
  | cons x r =>
    rw [hF] at hhead hM
    exact ⟨x, hhead.symm, by rw [hM]; rfl, by rw [hM]; simp⟩
theorem far_same {g : Graph} {a d : Die} {f f' : Die → Int} (hf : FarAt g a f) (hf' : FarAt g d f') (hc : Con (edgesG g) a d) : f' a = f d := by
  obtain ⟨p, hp, hl⟩ := way_of_con hf hc
  obtain ⟨q, hq, hl'⟩ := way_of_con hf' hc.symm
  have h1 := (Way.far hf' hp.rev).2
  have h2 := (Way.far hf hq.rev).2
  rw [List.length_reverse] at h1 h2
  omega
theorem dst_is (h : ofE l = 0) (ha : EndE (edgesG (ofG l)) a) (hf : FarAt (ofG l) a f) (d : Die) : (Con (edgesG (ofG l)) a d ∧ dstF (ofG l) a d = f d ∧ 0 ≤ f d) ∨ (¬ Con (edgesG (ofG l)) a d ∧ dstF (ofG l) a d = 100 ∧ f d < 0) := by
  have hg := of_valid h
  by_cases hc : Con (edgesG (ofG l)) a d
  · have hd : EndE (edgesG (ofG l)) d := by
      by_cases e : a = d
      · rw [← e]; exact ha
      · exact (con_end hc e).2
    have hj : joinB (edgesG (ofG l)) a d = true := joinB_iff.2 ⟨ha, hd, hc⟩
    refine .inl ⟨hc, ?_, (hf.con d).2 hc⟩
    rw [dstF, (dist_some hg hj).2, if_pos rfl, (dist_some hg hj).1]
    exact far_same hf (farG_at hg ((dies_end hg d).2 hd)) hc
  · have hj : joinB (edgesG (ofG l)) a d = false := joinB_no.2 fun h => hc h.2.2
    refine .inr ⟨hc, by rw [dstF, (dist_none hg hj).2]; rfl, ?_⟩
    have := mt (hf.con d).1 hc
    omega
theorem inD_zero {s : Spec} (h : d.side = 0) : inDB d s = decide (s.obv = d.num) := by simp [inDB, h]
theorem inD_one {s : Spec} (h : d.side = 1) : inDB d s = decide (s.rev = d.num) := by simp [inDB, h]
def idsK (d : Die) (S : List Spec) (k : Nat) : List Int := ((S.take k).filter (inDB d)).map Spec.id
theorem idsK_succ {S : List Spec} {k : Nat} {x : Spec} (h : S[k]? = some x) : idsK d S (k + 1) = idsK d S k ++ (if inDB d x = true then [x.id] else []) := by
  rw [idsK, filter_snocR h, List.map_append, idsK]
  cases inDB d x <;> rfl
theorem idsK_end {S : List Spec} (hS : SortedOf l S) {k : Nat} (hk : ¬ k < S.length) : IdsOf l d (idsK d S k) := by
  rw [idsK, List.take_of_length_le (by omega)]
  refine ⟨hS.2.1.sublist (List.filter_sublist.map _), fun n => ?_⟩
  rw [List.mem_map]
  constructor
  · rintro ⟨s, hs, rfl⟩
    obtain ⟨h1, h2⟩ := List.mem_filter.1 hs
    exact ⟨s, (hS.1 s).1 h1, h2, rfl⟩
  · rintro ⟨s, h1, h2, rfl⟩
    exact ⟨s, List.mem_filter.2 ⟨(hS.1 s).2 h1, h2⟩, rfl⟩
end
set_option maxHeartbeats 2000000 in
theorem baseDie_ok (d : Die) (w : World) : Calls Tryz.prog 71 #[vlD d] w fun e w' => e = .returned (.bool (dieVB d)) ∧ Below w.heap.size w w' := by
  obtain ⟨W, hW, Hz, hbW, hltW, hc⟩ := boxed w #[.int .i64 d.side, .int .i64 d.num] 24
  have a0 := hc 0 _ rfl; have a1 := hc 1 _ rfl
  have H1 := Lib.hid fun w => In_ok d.side 0 1 w
  have H2 := Lib.hid fun w => Number_ok d.num w
  unfold dieVB
  generalize inB d.side 0 1 = B1 at H1 ⊢
  generalize inB d.num 1 999 = B2 at H2 ⊢
  clear hc
  go_enter Tryz.func71, Tryz.ntmps71
  go_wp2_with fail
  refine (H1.out _).mono ?_
  rintro e w1 ⟨rfl, rfl⟩
  cases B1
  · go_wp2_with fail
    go_ret
    exact ⟨rfl, hbW⟩
  · go_wp2_with fail
    refine (H2.out _).mono ?_
    rintro e w1 ⟨rfl, rfl⟩
    go_wp2_with fail
    go_ret
    exact ⟨ret_bool (by simp), hbW⟩
set_option maxHeartbeats 8000000 in
set_option maxRecDepth 100000 in
theorem Of09_ok (v : Value) (l : List Spec) (d : Die) (w : World) (h : Specs w v l) (hE : checkE l = 0) (hd : dieVB d = true) :
    Calls Tryz.prog 45 #[v, vlD d] w fun e w' => ∃ u L, e = .returned (.tuple #[u, .int .i64 0]) ∧ Ints w' u L ∧ IdsOf l d L ∧ Below w.heap.size w w' := by
  obtain ⟨X, hX, HzX, hbX, hltX, hcX⟩ := boxed w #[.int .i64 d.side, .int .i64 d.num] 24
  have a0 := hcX 0 _ rfl; have a1 := hcX 1 _ rfl
  obtain ⟨A, c, rfl, _⟩ := id h
  obtain ⟨iI, hiI, hzI, hkI, hbI⟩ := info_parts infoI
  have hll : l.length ≤ 64 := (checkE_zero hE).1
  have HS := Lib.hid (Sort09_ok _ l X (h.below hbX) hE)
  have HD := Lib.hid fun w => baseDie_ok d w
  rw [hd] at HD
  have hside : d.side = 0 ∨ d.side = 1 := by
    simp only [dieVB, inB, Bool.and_eq_true, decide_eq_true_eq] at hd
    omega
  have Hside := Lib.hid hside
  clear hcX h hE hd hside
  go_enter Tryz.func45, Tryz.ntmps45
  go_wp2_with fail
  refine HS.out.mono ?_
  rintro e w1 ⟨us, S, rfl, hs1, hS, hb1⟩
  have a0 := cell_later hb1 a0; have a1 := cell_later hb1 a1
  have hw1 := below_trans hbX hb1
  have HSo := Lib.hid hS
  have hSl : S.length ≤ 64 := by rw [hS.2.2]; exact hll
  clear hX hS
  go_wp2_with fail
  refine (HD.out _).mono ?_
  rintro e w2 ⟨rfl, hb2⟩
  have a0 := cell_later hb2 a0; have a1 := cell_later hb2 a1
  have hw2 := below_trans hw1 hb2
  have Hs2 := Lib.hid (hs1.below hb2)
  obtain ⟨As, cs, rfl, _⟩ := id hs1
  clear hs1
  go_wp2_with fail
  go_loopw [8, 9] (fun q iv wr => ∃ k : Nat, k ≤ S.length ∧ iv = .int .i64 k ∧ OwnI w2.heap.size wr q (idsK d S k) ∧ Below w2.heap.size w2 wr) (fun _ iv _ => S.length - (intOf iv).toNat)
  case atStart => exact ⟨0, Nat.zero_le _, rfl, own_nil _ _ _ _ _, Below.refl _ _⟩
  case round =>
    obtain ⟨k, hk, rfl, hown, hbr⟩ := hrel
    have hwr := below_trans hw2 hbr
    by_cases hlt : k < S.length
    case neg =>
      have HI := Lib.hid (idsK_end (d := d) HSo.out hlt)
      have HO := Lib.hid hown.slOf
      clear hown
      go_wp2_with fail
      exact bodyPost_ret (by simp [results, Tryz.results45, go_sem]) rfl ⟨_, _, rfl, HO.out, HI.out, hwr⟩
    obtain ⟨x, hx⟩ := get_of_lt hlt
    obtain ⟨_, _, ex, _, _, hc⟩ := Hs2.out.cells
    cases ex
    obtain ⟨bo, o, rfl, _, hcb⟩ := hc k hlt
    obtain ⟨y0, y1, y2, y3, y4, y5, y6⟩ := hcb wr hbr k x hx
    have A0 := Later.cell_all (cell_later hbr a0); have A1 := Later.cell_all (cell_later hbr a1)
    have Y0 := y0
    have Y1 := Later.cell_all y1; have Y2 := Later.cell_all y2
    have hk1 : (k : Int) < (S.length : Int) := by omega
    have hk0 : (0 : Int) ≤ (k : Int) := by omega
    have hsn := idsK_succ (d := d) hx
    have hQl : (idsK d S k).length ≤ 64 := by
      rw [idsK, List.length_map]
      exact Nat.le_trans (List.length_filter_le _ _) (by rw [List.length_take]; omega)
    obtain ⟨Q, hQ⟩ : ∃ Q, idsK d S k = Q := ⟨_, rfl⟩
    rw [hQ] at hown hsn hQl
    have hBs := hbr.size
    have Hown := Lib.hid hown
    clear hQ hc hcb hx y0 y1 y2 y3 y4 y5 y6 hown
    rcases Hside.out with hs | hs
    · rw [inD_zero hs] at hsn
      obtain ⟨T, hT⟩ : ∃ T, (x.obv == d.num) = T := ⟨_, rfl⟩
      rw [show decide (x.obv = d.num) = T from hT] at hsn
      have Hsn := Lib.hid hsn
      clear hsn
      cases T
      · have Hs2 : Hid (idsK d S (k + 1) = Q) := Lib.hid (by rw [Hsn.out]; simp)
        go_wp2_with fail
        refine wp_region_later (by kernel_rfl) (by kernel_rfl) ?_
        repeat (go_big_quiet_step (first | fail))
        refine wpQuiet_nil ?_
        intro _ hw'
        obtain ⟨xq, hw''⟩ := hw'
        subst hw''
        have hbq := xq.h
        generalize xq.to = wq at hbq ⊢
        clear A0 A1 Y1 Y2
        have hbb := below_trans hbr hbq
        go_wp2_with fail
        refine ⟨?rel, ?measure⟩
        case rel => exact ⟨k + 1, by omega, by go_num, by rw [Hs2.out]; exact Hown.out.below hbq, hbb⟩
        case measure => first | (simp [intOf]; done) | (simp [intOf]; omega)
      · have Hs2 : Hid (idsK d S (k + 1) = Q ++ [x.id]) := Lib.hid (by rw [Hsn.out]; simp)
        go_wp2_with fail
        refine wp_region_later (by kernel_rfl) (by kernel_rfl) ?_
        repeat (go_big_quiet_step (first | fail))
        refine wpQuiet_nil ?_
        intro _ hw'
        obtain ⟨xq, hw''⟩ := hw'
        subst hw''
        have hbq := xq.h
        generalize xq.to = wq at hbq ⊢
        clear A0 A1 Y1 Y2
        have hbb := below_trans hbr hbq
        have hown := Hown.out.below hbq
        have y0 := cell_later hbq Y0
        have hzq := hbb.size
        go_wp2_with (at_builtin; refine wpList_append1 (enc := encI) (size := 1) (B := w2.heap.size) rfl (.tmp 55) (.tmp 61) _ rfl 3 iI _ 8 Tryz.underlying26 hiI hzI hkI hbI rfl (by decide) rfl hown x.id _ rfl lenI oneI _ rfl rfl (by omega) (by omega) hzq ?_; intro v' w7 hown' hgrow hat)
        go_simp
        have hb8 := hbb.grown hgrow hzq (fun j e => (hown.lt j e).1)
        refine ⟨?rel, ?measure⟩
        case rel => exact ⟨k + 1, by omega, by go_num, by rw [Hs2.out]; exact hown', hb8⟩
        case measure => first | (simp [intOf]; done) | (simp [intOf]; omega)
    · rw [inD_one hs] at hsn
      obtain ⟨T, hT⟩ : ∃ T, (x.rev == d.num) = T := ⟨_, rfl⟩
      rw [show decide (x.rev = d.num) = T from hT] at hsn
      have Hsn := Lib.hid hsn
      clear hsn
      cases T
      · have Hs2 : Hid (idsK d S (k + 1) = Q) := Lib.hid (by rw [Hsn.out]; simp)
        go_wp2_with fail
        refine wp_region_later (by kernel_rfl) (by kernel_rfl) ?_
        repeat (go_big_quiet_step (first | fail))
        refine wpQuiet_nil ?_
        intro _ hw'
        obtain ⟨xq, hw''⟩ := hw'
        subst hw''
        have hbq := xq.h
        generalize xq.to = wq at hbq ⊢
        clear A0 A1 Y1 Y2
        have hbb := below_trans hbr hbq
        go_wp2_with fail
        refine ⟨?rel, ?measure⟩
        case rel => exact ⟨k + 1, by omega, by go_num, by rw [Hs2.out]; exact Hown.out.below hbq, hbb⟩
        case measure => first | (simp [intOf]; done) | (simp [intOf]; omega)
      · have Hs2 : Hid (idsK d S (k + 1) = Q ++ [x.id]) := Lib.hid (by rw [Hsn.out]; simp)
        go_wp2_with fail
        refine wp_region_later (by kernel_rfl) (by kernel_rfl) ?_
        repeat (go_big_quiet_step (first | fail))
        refine wpQuiet_nil ?_
        intro _ hw'
        obtain ⟨xq, hw''⟩ := hw'
        subst hw''
        have hbq := xq.h
        generalize xq.to = wq at hbq ⊢
        clear A0 A1 Y1 Y2
        have hbb := below_trans hbr hbq
        have hown := Hown.out.below hbq
        have y0 := cell_later hbq Y0
        have hzq := hbb.size
        go_wp2_with (at_builtin; refine wpList_append1 (enc := encI) (size := 1) (B := w2.heap.size) rfl (.tmp 55) (.tmp 61) _ rfl 3 iI _ 8 Tryz.underlying26 hiI hzI hkI hbI rfl (by decide) rfl hown x.id _ rfl lenI oneI _ rfl rfl (by omega) (by omega) hzq ?_; intro v' w7 hown' hgrow hat)
        go_simp
        have hb8 := hbb.grown hgrow hzq (fun j e => (hown.lt j e).1)
        refine ⟨?rel, ?measure⟩
        case rel => exact ⟨k + 1, by omega, by go_num, by rw [Hs2.out]; exact hown', hb8⟩
        case measure => first | (simp [intOf]; done) | (simp [intOf]; omega)
end Go.Proofs.YtlmjncncmgmehaaGreat
