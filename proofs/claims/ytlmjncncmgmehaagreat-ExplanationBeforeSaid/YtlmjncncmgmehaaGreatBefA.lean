/- The Before of package explanation and of reference 51. Condition: the arguments read as such. -/
import Derived.Test.YtlmjncncmgmehaaGreatPreR
import Derived.Test.YtlmjncncmgmehaaGreatExrF
import Derived.Test.YtlmjncncmgmehaaGreatAwkX
namespace Go.Proofs.YtlmjncncmgmehaaGreat
open Go.RowKit Go.Maps Go.Shelf

theorem chain_len {f I : Int → Int} {P : List Link} {t : Int} : ∀ (n : Nat) (x : Int), (chainK f I P t n x).length ≤ n
  | 0, _ => by simp [chainK]
  | n + 1, x => by
    cases hb : bestF f I x P with
    | none => rw [chain_none hb]; simp
    | some p =>
      rw [chain_some hb, List.length_cons]
      split
      · simp
      · have := chain_len (f := f) (I := I) (P := P) (t := t) n p.rev; omega
theorem WhyR.len {l : List Spec} {C : List Pair} {a b E : Int} {L : List Link} (h : WhyR l C a b E L) : L.length ≤ 26 := by
  rcases h with ⟨_, _, h3⟩ | ⟨_, _, _, h4⟩ | ⟨_, _, f, _, h4⟩
  · subst h3; simp
  · subst h4; simp
  · rcases h4 with ⟨_, _, h7⟩ | ⟨_, _, h7⟩
    · subst h7; simp
    · subst h7; rw [List.length_map]; exact chain_len _ _
theorem whyIds_len (L : List Link) : (whyIds L).length = 2 * L.length := by
  unfold whyIds
  induction L with
  | nil => rfl
  | cons x xs ih => rw [List.flatMap_cons, List.length_append, ih, List.length_cons]; simp; omega
theorem whyIds_snoc (L : List Link) (x : Link) : whyIds (L ++ [x]) = whyIds L ++ [x.obv, x.rev] := by simp [whyIds]
def foundB (L : List Link) (n : Int) : Bool := L.any fun p => p.obv == n || p.rev == n
theorem found_iff {L : List Link} {n : Int} : foundB L n = true ↔ n ∈ whyIds L := by
  rw [foundB, List.any_eq_true, whyIds_mem]
  constructor
  · rintro ⟨p, h1, h2⟩; exact ⟨p, h1, by simpa using h2⟩
  · rintro ⟨p, h1, h2⟩; exact ⟨p, h1, by simpa using h2⟩
theorem found_snoc {L : List Link} {n : Int} {k : Nat} {x : Link} (h : L[k]? = some x) : foundB (L.take (k + 1)) n = ((foundB (L.take k) n || x.obv == n) || x.rev == n) := by
  rw [foundB, take_snoc' h, List.any_append]
  simp [foundB, Bool.or_assoc]
def foundL (L : List Link) (S : List Spec) : List Int := (S.filter fun s => foundB L s.id).map Spec.id
theorem foundL_snoc {L : List Link} {S : List Spec} {k : Nat} {s : Spec} (h : S[k]? = some s) : foundL L (S.take (k + 1)) = foundL L (S.take k) ++ (if foundB L s.id = true then [s.id] else []) := by
  unfold foundL
  rw [take_snoc' h, List.filter_append, List.map_append]
  congr 1
  by_cases e : foundB L s.id = true <;> simp [e]
theorem foundL_all {l S : List Spec} {C : List Pair} {a b E : Int} {L : List Link} (hR : WhyR l C a b E L) (hS : SortedOf l S) : foundL L S = withs (whyIds L) := by
  obtain ⟨h1, h2, _⟩ := hS
  refine withs_unique ?_ fun n => ?_
  · exact (h2.sublist (List.Sublist.map Spec.id List.filter_sublist))
  · unfold foundL
    rw [List.mem_map]
    constructor
    · rintro ⟨s, h3, rfl⟩
      exact found_iff.1 (List.mem_filter.1 h3).2
    · intro hn
      obtain ⟨s, h3, rfl⟩ := List.mem_map.1 (hR.ids.1 n hn)
      exact ⟨s, List.mem_filter.2 ⟨(h1 s).2 h3, found_iff.2 hn⟩, rfl⟩
set_option maxHeartbeats 8000000 in
set_option maxRecDepth 100000 in
theorem BeforeX_ok (A : Option Addr) (c : Nat) (l : List Spec) (cv : Value) (C : List Pair) (a b : Int) (w : World) (h : Specs w (.slice A l.length c) l) (hC : Pairs w cv C) :
    Calls Tryz.prog 24 #[.slice A l.length c, cv, .int .i64 a, .int .i64 b] w fun e w' => ∃ u E L, e = .returned (.tuple #[u, .int .i64 E]) ∧ Ints w' u (withs (whyIds L)) ∧ WhyR l C a b E L ∧ Below w.heap.size w w' := by
  have HW := Lib.hid (Why_ok A c l cv C a b w h hC)
  obtain ⟨Ac, cc, rfl, _⟩ := id hC
  clear h hC
  go_enter Tryz.func24, Tryz.ntmps24
  go_wp2_with fail
  refine HW.out.mono ?_
  rintro e w1 ⟨u, E, L, rfl, hu, hR, hb1⟩
  obtain ⟨Au, cu, rfl, _⟩ := id hu.slOf
  have HR := Lib.hid hR
  have HU := Lib.hid (show Links w1 _ L from hu.slOf)
  have hLl : L.length ≤ 26 := hR.len
  have hL0 := hR.ids.2.2
  clear HW hu hR
  by_cases hE0 : E = 0
  case neg =>
    have hL := hL0 hE0
    subst hL
    have t : (E != 0) = true := by simpa using hE0
    have HI : Hid (Ints w1 (.slice none 0 0) (withs (whyIds []))) := Lib.hid (own_nil encI 1 3 0 w1).slOf
    clear hE0 hL0
    go_wp2_with fail
    exact bodyPost_ret (v := .tuple #[.slice none 0 0, .int .i64 E]) (by simp [results, Tryz.results24, go_sem]) rfl ⟨_, _, [], rfl, HI.out, HR.out, hb1⟩
  subst hE0
  obtain ⟨iI, hiI, hzI, hkI, hbI⟩ := info_parts infoI
  clear hL0
  go_wp2_with fail
  go_loopw [12, 28] (fun ov iv wr => ∃ (j : Nat) (R : List Int), j ≤ L.length ∧ iv = .int .i64 j ∧ OwnI w1.heap.size wr ov R ∧ Below w1.heap.size w1 wr ∧ Hid (R = whyIds (L.take j))) (fun _ iv _ => L.length - (intOf iv).toNat)
  case atStart => exact ⟨0, [], Nat.zero_le _, rfl, own_nil _ _ _ _ _, Below.refl _ _, Lib.hid rfl⟩
  case round =>
    obtain ⟨j, R, hj, rfl, hown, hbr, HRe⟩ := hrel
    have hRl : R.length ≤ 52 := by rw [HRe.out, whyIds_len, List.length_take]; omega
    obtain ⟨Ao, co, rfl, _⟩ := id hown.slOf
    have hwr := below_trans hb1 hbr
    have hzr := hbr.size
    by_cases hlt : j < L.length
    case neg =>
      have HRa : Hid (R = whyIds L) := Lib.hid (by have := HRe.out; rwa [List.take_of_length_le (by omega)] at this)
      have HO := Lib.hid hown
      have HS := Lib.hid (sortI_ok _ _ _ wr hown (by omega))
      obtain ⟨R2, hR2⟩ : ∃ z, sortI R = z := ⟨_, rfl⟩
      rw [hR2] at HS
      have hR2l : R2.length ≤ 52 := by rw [← hR2, sortI]; simpa using hRl
      have HR2 := Lib.hid hR2
      clear hown hR2
      go_wp2_with fail
      refine HS.out.mono ?_
      rintro e w2 ⟨rfl, ho2, hg2⟩
      have hb2 := hbr.grown hg2 hzr (fun j e => (HO.out.lt j e).1)
      have hz2 := hb2.size
      have HO2 := Lib.hid ho2
      have hlen : R.length = R2.length := by rw [← HR2.out, sortI]; simp
      rw [hlen] at HO2 ho2 hg2 ⊢
      have HC2 := Lib.hid (compactI_ok _ _ _ w2 ho2 (by omega))
      have HE2 : Hid (Lib.compact R2 = withs (whyIds L)) := Lib.hid (by rw [← HR2.out, compact_sortI, HRa.out])
      obtain ⟨K, hK⟩ : ∃ K, Lib.compact R2 = K := ⟨_, rfl⟩
      rw [hK] at HC2 HE2
      have Hg2 := Lib.hid hg2
      clear ho2 hlen hK HS HO hg2
      go_wp2_with fail
      refine HC2.out.mono ?_
      rintro e w3 ⟨u3, rfl, ho3, hob, hg3⟩
      have hb3 := hb2.grown hg3 hz2 (fun j e => (HO2.out.lt j e).1)
      have HI : Hid (Ints w3 u3 (withs (whyIds L))) := Lib.hid (by rw [← HE2.out]; exact ho3.slOf)
      clear ho3 hob
      go_wp2_with fail
      exact bodyPost_ret (v := .tuple #[u3, .int .i64 0]) (by simp [results, Tryz.results24, go_sem]) rfl ⟨_, _, L, rfl, HI.out, HR.out, below_trans hb1 hb3⟩
    obtain ⟨x, hx⟩ := get_of_lt hlt
    obtain ⟨_, _, ex, _, _, hpc⟩ := HU.out.cells
    cases ex
    obtain ⟨bp, op, rfl, _, hpb⟩ := hpc j hlt
    obtain ⟨y0, y1, y2⟩ := hpb wr hbr j x hx
    obtain ⟨Z1, Z2, hZ1, hZ2, HzZ2, hkZ1, hkZ2, hbZ2, hltZ2⟩ := fresh wr [.int .i64 0, .int .i64 0, .int .i64 0] [.int .i64 x.id, .int .i64 x.obv, .int .i64 x.rev] 85 rfl
    have hsZ2 : ((Z1.setCell ⟨wr.heap.size, 0, none⟩ (.int .i64 x.id)).setCell ⟨wr.heap.size, 1, none⟩ (.int .i64 x.obv)).setCell ⟨wr.heap.size, 2, none⟩ (.int .i64 x.rev) = Z2 := hZ2
    clear hZ2
    obtain ⟨⟨z0, z1, z2⟩, f0, f1, f2⟩ := cells3 hkZ1
    obtain ⟨⟨q0, q1, q2⟩, _⟩ := cells3 hkZ2
    obtain ⟨W8, hW8, Hz8, hb8, hlt8, _⟩ := boxed Z2 #[.int .i64 x.obv, .int .i64 x.rev] 3
    have hk8 : W8.heap[Z2.heap.size]? = some (.cells (([x.obv, x.rev] : List Int).flatMap encI).toArray 3 (0, 0)) := by rw [← hW8]; exact heap_alloc_new _ _
    have hi8 : Ints W8 (.slice (some ⟨Z2.heap.size, 0, none⟩) 2 2) [x.obv, x.rev] := slOf_blk lenI hk8 rfl (by decide) (by decide)
    have hsl8 := hi8.sl'
    have hbr8 := below_trans hbr (below_trans hbZ2 hb8)
    have hown8 := hown.below (below_trans hbZ2 hb8)
    have HO8 := Lib.hid hown8
    have hz8 := hbr8.size
    have Hsn : Hid (whyIds (L.take (j + 1)) = R ++ [x.obv, x.rev]) := Lib.hid (by rw [take_snoc' hx, whyIds_snoc, ← HRe.out])
    have hj1 : (j : Int) < (L.length : Int) := by omega
    have hj0 : (0 : Int) ≤ (j : Int) := by omega
    clear hpc hpb hx hkZ1 hkZ2 hk8 hi8 hown
    go_wp2_with (at_builtin; refine wpList_append_sl (enc := encI) (size := 1) (B := w1.heap.size) rfl (.tmp 32) (.tmp 37) _ rfl iI _ 8 Tryz.underlying26 hiI hzI hkI hbI rfl (by decide) oneI rfl hown8 (some ⟨Z2.heap.size, 0, none⟩) 2 2 [x.obv, x.rev] rfl rfl hsl8 (by simp; omega) (by simp; omega) hz8 ?_; intro v' w9 hown' hgrow hat; obtain ⟨Av, cv9, rfl, _⟩ := id hown'.slOf; obtain ⟨Rn, hRn⟩ : ∃ z, R ++ [x.obv, x.rev] = z := ⟨_, rfl⟩; rw [hRn] at hown' hat ⊢; have HRn := Lib.hid hRn; have HO9 := Lib.hid hown'; have HG9 := Lib.hid hgrow; clear hRn hown' hgrow hat)
    have hb9 := hbr8.grown HG9.out hz8 (fun j e => (HO8.out.lt j e).1)
    refine ⟨?rel, ?measure⟩
    case rel => exact ⟨j + 1, Rn, by omega, by go_num, HO9.out, hb9, Lib.hid (by rw [Hsn.out]; exact HRn.out.symm)⟩
    case measure => first | (simp [intOf]; done) | (simp [intOf]; omega)
set_option maxHeartbeats 8000000 in
set_option maxRecDepth 100000 in
theorem Before51_ok (A : Option Addr) (c : Nat) (l : List Spec) (cv : Value) (C : List Pair) (a b : Int) (w : World) (h : Specs w (.slice A l.length c) l) (hC : Pairs w cv C) :
    Calls Tryz.prog 25 #[.slice A l.length c, cv, .int .i64 a, .int .i64 b] w fun e w' => ∃ u E L, e = .returned (.tuple #[u, .int .i64 E]) ∧ Ints w' u (withs (whyIds L)) ∧ WhyR l C a b E L ∧ Below w.heap.size w w' := by
  have HW := Lib.hid (Why22_ok A c l cv C a b w h hC)
  have Hh := Lib.hid h
  obtain ⟨Ac, cc, rfl, _⟩ := id hC
  clear h hC
  go_enter Tryz.func25, Tryz.ntmps25
  go_wp2_with fail
  refine HW.out.mono ?_
  rintro e w1 ⟨u, E, L, rfl, hu, hR, hb1⟩
  obtain ⟨Au, cu, rfl, _⟩ := id hu.slOf
  have HR := Lib.hid hR
  have HU := Lib.hid (show Links w1 _ L from hu.slOf)
  have hLl : L.length ≤ 26 := hR.len
  have hL0 := hR.ids.2.2
  have hL1 := hR.ids.2.1
  clear HW hu hR
  by_cases hE0 : E = 0
  case neg =>
    have hL := hL0 hE0
    subst hL
    have t : (E != 0) = true := by simpa using hE0
    have HI : Hid (Ints w1 (.slice none 0 0) (withs (whyIds []))) := Lib.hid (own_nil encI 1 3 0 w1).slOf
    clear hE0 hL0 hL1
    go_wp2_with fail
    exact bodyPost_ret (v := .tuple #[.slice none 0 0, .int .i64 E]) (by simp [results, Tryz.results25, go_sem]) rfl ⟨_, _, [], rfl, HI.out, HR.out, hb1⟩
  have hc := (hL1 hE0).1
  have hl64 := (checkE_zero hc).1
  subst hE0
  obtain ⟨iI, hiI, hzI, hkI, hbI⟩ := info_parts infoI
  have HS := Lib.hid (Sort09_ok _ l w1 (Hh.out.below hb1) hc)
  clear hL0 hL1 hc
  go_wp2_with fail
  refine HS.out.mono ?_
  rintro e w2 ⟨us, S, rfl, hs, hSo, hb2⟩
  obtain ⟨As, cs, rfl, _⟩ := id hs
  have HSp := Lib.hid hs
  have HSa : Hid (foundL L S = withs (whyIds L)) := Lib.hid (foundL_all HR.out hSo)
  have hSl : S.length ≤ 64 := by rw [hSo.2.2]; exact hl64
  have hw2 := below_trans hb1 hb2
  have HU2 := Lib.hid (show Links w2 _ L from HU.out.below hb2)
  clear hs hSo HS
  go_wp2_with fail
  go_loopw [14, 15] (fun ov iv wr => ∃ (i : Nat) (R : List Int), i ≤ S.length ∧ iv = .int .i64 i ∧ OwnI w2.heap.size wr ov R ∧ Below w2.heap.size w2 wr ∧ Hid (R = foundL L (S.take i))) (fun _ iv _ => S.length - (intOf iv).toNat)
  case atStart => exact ⟨0, [], Nat.zero_le _, rfl, own_nil _ _ _ _ _, Below.refl _ _, Lib.hid rfl⟩
  case round =>
    obtain ⟨i, R, hi, rfl, hown, hbr, HRe⟩ := hrel
    have hRl : R.length ≤ 64 := by
      rw [HRe.out, foundL, List.length_map]
      exact Nat.le_trans (List.length_filter_le _ _) (by rw [List.length_take]; omega)
    obtain ⟨Ao, co, rfl, _⟩ := id hown.slOf
    have hwr := below_trans hw2 hbr
    have hzr := hbr.size
    have HO := Lib.hid hown
    clear hown
    by_cases hlt : i < S.length
    case neg =>
      have HI : Hid (Ints wr (.slice Ao R.length co) (withs (whyIds L))) := Lib.hid (by
        have h1 := HRe.out
        rw [List.take_of_length_le (by omega), HSa.out] at h1
        rw [← h1]; exact HO.out.slOf)
      go_wp2_with fail
      exact bodyPost_ret (v := .tuple #[.slice Ao R.length co, .int .i64 0]) (by simp [results, Tryz.results25, go_sem]) rfl ⟨_, _, L, rfl, HI.out, HR.out, hwr⟩
    obtain ⟨s, hs⟩ := get_of_lt hlt
    obtain ⟨_, _, ex, _, _, hsc⟩ := HSp.out.cells
    cases ex
    obtain ⟨bs, os, rfl, _, hsb⟩ := hsc i hlt
    have HY : Hid (∀ w7, Below w2.heap.size w2 w7 → w7.cell? ⟨bs, os + i * 7, none⟩ = some (.int .i64 s.id)) := Lib.hid fun w7 h7 => (hsb w7 h7 i s hs).1
    have Hsn := Lib.hid (foundL_snoc (L := L) hs)
    have hi1 : (i : Int) < (S.length : Int) := by omega
    have hi0 : (0 : Int) ≤ (i : Int) := by omega
    obtain ⟨wo, hwo0⟩ : ∃ z, z = wr := ⟨_, rfl⟩
    subst hwo0
    clear hsc hsb hs
    go_wp2_with fail
    go_loopw [16, 17] (fun bv kv wr => ∃ (k : Nat), k ≤ L.length ∧ kv = .int .i64 k ∧ bv = .bool (foundB (L.take k) s.id) ∧ Below wo.heap.size wo wr) (fun _ kv _ => L.length - (intOf kv).toNat)
    case atStart => exact ⟨0, Nat.zero_le _, rfl, rfl, Below.refl _ _⟩
    case round =>
      obtain ⟨wt, hwt0⟩ : ∃ z, z = wr := ⟨_, rfl⟩
      subst hwt0
      obtain ⟨k, hk, rfl, rfl, hbt⟩ := hrel
      have hbw := below_trans hbr hbt
      have ys := HY.out wt hbw
      obtain ⟨T, hT⟩ : ∃ T, foundB (L.take k) s.id = T := ⟨_, rfl⟩
      rw [hT]
      have HT := Lib.hid hT
      clear hT
      by_cases hltk : k < L.length
      case neg =>
        have hTa : foundB L s.id = T := by have := HT.out; rwa [List.take_of_length_le (by omega)] at this
        have HTa := Lib.hid hTa
        have hownT := HO.out.below hbt
        have hzT : w2.heap.size ≤ wt.heap.size := hbw.size
        have HOT := Lib.hid hownT
        clear hTa
        cases T
        · have HN : Hid (foundL L (S.take (i + 1)) = R) := Lib.hid (by rw [Hsn.out, HTa.out, ← HRe.out]; simp)
          clear hownT
          go_wp2_with fail
          refine ⟨?rel, ?measure⟩
          case rel => exact ⟨i + 1, R, by omega, by go_num, HOT.out, hbw, Lib.hid HN.out.symm⟩
          case measure => first | (simp [intOf]; done) | (simp [intOf]; omega)
        · have HN : Hid (foundL L (S.take (i + 1)) = R ++ [s.id]) := Lib.hid (by rw [Hsn.out, HTa.out, ← HRe.out]; simp)
          go_wp2_with (at_builtin; refine wpList_append1 (enc := encI) (size := 1) (B := w2.heap.size) rfl (.tmp 74) (.tmp 80) _ rfl 3 iI _ 8 Tryz.underlying26 hiI hzI hkI hbI rfl (by decide) rfl hownT (s.id : Int) _ rfl lenI oneI _ rfl rfl (by omega) (by omega) hzT ?_; intro v' w7 hown' hgrow hat; obtain ⟨Av, cv9, rfl, _⟩ := id hown'.slOf; obtain ⟨Rn, hRn⟩ : ∃ z, R ++ [(s.id : Int)] = z := ⟨_, rfl⟩; rw [hRn] at hown' hat ⊢; have HRn := Lib.hid hRn; have HO7 := Lib.hid hown'; have Hb7 := Lib.hid (hbw.grown hgrow hzT (fun j e => (HOT.out.lt j e).1)); clear hRn hown' hgrow hat)
          refine ⟨?rel, ?measure⟩
          case rel => exact ⟨i + 1, Rn, by omega, by go_num, HO7.out, Hb7.out, Lib.hid (by rw [HN.out]; exact HRn.out.symm)⟩
          case measure => first | (simp [intOf]; done) | (simp [intOf]; omega)
      obtain ⟨x, hx⟩ := get_of_lt hltk
      obtain ⟨_, _, ex, _, _, hpc⟩ := HU2.out.cells
      cases ex
      obtain ⟨bp, op, rfl, _, hpb⟩ := hpc k hltk
      obtain ⟨_, y1, y2⟩ := hpb wt hbw k x hx
      have hsn := found_snoc (n := s.id) hx
      rw [HT.out] at hsn
      have Hfn := Lib.hid hsn
      have hk1 : (k : Int) < (L.length : Int) := by omega
      have hk0 : (0 : Int) ≤ (k : Int) := by omega
      have Y1 := Later.cell_all y1; have Y2 := Later.cell_all y2; have YS := Later.cell_all ys
      clear hpc hpb hx hsn
      cases T
      · cases t1 : (x.obv == s.id)
        · cases t2 : (x.rev == s.id)
          · have HN : Hid (foundB (L.take (k + 1)) s.id = false) := Lib.hid (by rw [Hfn.out, t1, t2]; rfl)
            go_wp2_with fail
            refine wp_region_later (by kernel_rfl) (by kernel_rfl) ?_
            repeat (go_big_quiet_step (first | fail))
            refine wpQuiet_nil ?_
            intro _ hw'
            obtain ⟨xq, hw''⟩ := hw'
            subst hw''
            have hbq := xq.h
            generalize xq.to = wq at hbq ⊢
            clear Y1 Y2 YS y1 y2 ys
            have hbq2 := below_trans hbt hbq
            go_wp2_with fail
            refine ⟨?rel, ?measure⟩
            case rel => exact ⟨k + 1, by omega, by go_num, by rw [HN.out], hbq2⟩
            case measure => first | (simp [intOf]; done) | (simp [intOf]; omega)
          · have HN : Hid (foundB (L.take (k + 1)) s.id = true) := Lib.hid (by rw [Hfn.out, t1, t2]; rfl)
            go_wp2_with fail
            refine wp_region_later (by kernel_rfl) (by kernel_rfl) ?_
            repeat (go_big_quiet_step (first | fail))
            refine wpQuiet_nil ?_
            intro _ hw'
            obtain ⟨xq, hw''⟩ := hw'
            subst hw''
            have hbq := xq.h
            generalize xq.to = wq at hbq ⊢
            clear Y1 Y2 YS y1 y2 ys
            have hbq2 := below_trans hbt hbq
            go_wp2_with fail
            refine ⟨?rel, ?measure⟩
            case rel => exact ⟨k + 1, by omega, by go_num, by rw [HN.out], hbq2⟩
            case measure => first | (simp [intOf]; done) | (simp [intOf]; omega)
        · have HN : Hid (foundB (L.take (k + 1)) s.id = true) := Lib.hid (by rw [Hfn.out, t1]; rfl)
          go_wp2_with fail
          refine wp_region_later (by kernel_rfl) (by kernel_rfl) ?_
          repeat (go_big_quiet_step (first | fail))
          refine wpQuiet_nil ?_
          intro _ hw'
          obtain ⟨xq, hw''⟩ := hw'
          subst hw''
          have hbq := xq.h
          generalize xq.to = wq at hbq ⊢
          clear Y1 Y2 YS y1 y2 ys
          have hbq2 := below_trans hbt hbq
          go_wp2_with fail
          refine ⟨?rel, ?measure⟩
          case rel => exact ⟨k + 1, by omega, by go_num, by rw [HN.out], hbq2⟩
          case measure => first | (simp [intOf]; done) | (simp [intOf]; omega)
      · have HN : Hid (foundB (L.take (k + 1)) s.id = true) := Lib.hid (by rw [Hfn.out]; rfl)
        go_wp2_with fail
        refine wp_region_later (by kernel_rfl) (by kernel_rfl) ?_
        repeat (go_big_quiet_step (first | fail))
        refine wpQuiet_nil ?_
        intro _ hw'
        obtain ⟨xq, hw''⟩ := hw'
        subst hw''
        have hbq := xq.h
        generalize xq.to = wq at hbq ⊢
        clear Y1 Y2 YS y1 y2 ys
        have hbq2 := below_trans hbt hbq
        go_wp2_with fail
        refine ⟨?rel, ?measure⟩
        case rel => exact ⟨k + 1, by omega, by go_num, by rw [HN.out], hbq2⟩
        case measure => first | (simp [intOf]; done) | (simp [intOf]; omega)
end Go.Proofs.YtlmjncncmgmehaaGreat
