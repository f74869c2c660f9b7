/- The Before of package explanation. Condition: the arguments read as such. -/
import Derived.Test.YtikfffojeakjoaaGreatDoorPreM
import Derived.Test.YtikfffojeakjoaaGreatDoorAwkX
namespace Go.Proofs.YtikfffojeakjoaaGreatDoor
open Go.RowKit Go.Maps Go.Shelf

theorem chain_len {f I : Int → Int} {P : List Link} {t : Int} : ∀ (n : Nat) (x : Int), (chainK f I P t n x).length ≤ n
  | 0, _ => by simp [chainK]
  | n + 1, x => by
    cases hb : bestF f I x P with
    | none => rw [chain_none hb]; simp
    | some p =>
      rw [chain_some hb, List.length_cons]
      split
      · simp
      · have := chain_len (f := f) (I := I) (P := P) (t := t) n p.rev; omega
theorem WhyR.len {l : List Spec} {C : List Pair} {a b E : Int} {L : List Link} (h : WhyR l C a b E L) : L.length ≤ 26 := by
  rcases h with ⟨_, _, h3⟩ | ⟨_, _, _, h4⟩ | ⟨_, _, f, _, h4⟩
  · subst h3; simp
  · subst h4; simp
  · rcases h4 with ⟨_, _, h7⟩ | ⟨_, _, h7⟩
    · subst h7; simp
    · subst h7; rw [List.length_map]; exact chain_len _ _
theorem whyIds_len (L : List Link) : (whyIds L).length = 2 * L.length := by
  unfold whyIds
  induction L with
  | nil => rfl
  | cons x xs ih => rw [List.flatMap_cons, List.length_append, ih, List.length_cons]; simp; omega
theorem whyIds_snoc (L : List Link) (x : Link) : whyIds (L ++ [x]) = whyIds L ++ [x.obv, x.rev] := by simp [whyIds]
set_option maxHeartbeats 8000000 in
set_option maxRecDepth 100000 in
theorem BeforeX_ok (A : Option Addr) (c : Nat) (l : List Spec) (cv : Value) (C : List Pair) (a b : Int) (w : World) (h : Specs w (.slice A l.length c) l) (hC : Pairs w cv C) :
    Calls Tryz.prog 5 #[.slice A l.length c, cv, .int .i64 a, .int .i64 b] w fun e w' => ∃ u E L, e = .returned (.tuple #[u, .int .i64 E]) ∧ Ints w' u (withs (whyIds L)) ∧ WhyR l C a b E L ∧ Below w.heap.size w w' := by
  have HW := Lib.hid (Why_ok A c l cv C a b w h hC)
  obtain ⟨Ac, cc, rfl, _⟩ := id hC
  clear h hC
  go_enter Tryz.func5, Tryz.ntmps5
  go_wp2_with fail
  refine HW.out.mono ?_
  rintro e w1 ⟨u, E, L, rfl, hu, hR, hb1⟩
  obtain ⟨Au, cu, rfl, _⟩ := id hu.slOf
  have HR := Lib.hid hR
  have HU := Lib.hid (show Links w1 _ L from hu.slOf)
  have hLl : L.length ≤ 26 := hR.len
  have hL0 := hR.ids.2.2
  clear HW hu hR
  by_cases hE0 : E = 0
  case neg =>
    have hL := hL0 hE0
    subst hL
    have t : (E != 0) = true := by simpa using hE0
    have HI : Hid (Ints w1 (.slice none 0 0) (withs (whyIds []))) := Lib.hid (own_nil encI 1 3 0 w1).slOf
    clear hE0 hL0
    go_wp2_with fail
    exact bodyPost_ret (v := .tuple #[.slice none 0 0, .int .i64 E]) (by simp [results, Tryz.results5, go_sem]) rfl ⟨_, _, [], rfl, HI.out, HR.out, hb1⟩
  subst hE0
  obtain ⟨iI, hiI, hzI, hkI, hbI⟩ := info_parts infoI
  clear hL0
  go_wp2_with fail
  go_loopw [12, 28] (fun ov iv wr => ∃ (j : Nat) (R : List Int), j ≤ L.length ∧ iv = .int .i64 j ∧ OwnI w1.heap.size wr ov R ∧ Below w1.heap.size w1 wr ∧ Hid (R = whyIds (L.take j))) (fun _ iv _ => L.length - (intOf iv).toNat)
  case atStart => exact ⟨0, [], Nat.zero_le _, rfl, own_nil _ _ _ _ _, Below.refl _ _, Lib.hid rfl⟩
  case round =>
    obtain ⟨j, R, hj, rfl, hown, hbr, HRe⟩ := hrel
    have hRl : R.length ≤ 52 := by rw [HRe.out, whyIds_len, List.length_take]; omega
    obtain ⟨Ao, co, rfl, _⟩ := id hown.slOf
    have hwr := below_trans hb1 hbr
    have hzr := hbr.size
    by_cases hlt : j < L.length
    case neg =>
      have HRa : Hid (R = whyIds L) := Lib.hid (by have := HRe.out; rwa [List.take_of_length_le (by omega)] at this)
      have HO := Lib.hid hown
      have HS := Lib.hid (sortI_ok _ _ _ wr hown (by omega))
      obtain ⟨R2, hR2⟩ : ∃ z, sortI R = z := ⟨_, rfl⟩
      rw [hR2] at HS
      have hR2l : R2.length ≤ 52 := by rw [← hR2, sortI]; simpa using hRl
      have HR2 := Lib.hid hR2
      clear hown hR2
      go_wp2_with fail
      refine HS.out.mono ?_
      rintro e w2 ⟨rfl, ho2, hg2⟩
      have hb2 := hbr.grown hg2 hzr (fun j e => (HO.out.lt j e).1)
      have hz2 := hb2.size
      have HO2 := Lib.hid ho2
      have hlen : R.length = R2.length := by rw [← HR2.out, sortI]; simp
      rw [hlen] at HO2 ho2 hg2 ⊢
      have HC2 := Lib.hid (compactI_ok _ _ _ w2 ho2 (by omega))
      have HE2 : Hid (Lib.compact R2 = withs (whyIds L)) := Lib.hid (by rw [← HR2.out, compact_sortI, HRa.out])
      obtain ⟨K, hK⟩ : ∃ K, Lib.compact R2 = K := ⟨_, rfl⟩
      rw [hK] at HC2 HE2
      have Hg2 := Lib.hid hg2
      clear ho2 hlen hK HS HO hg2
      go_wp2_with fail
      refine HC2.out.mono ?_
      rintro e w3 ⟨u3, rfl, ho3, hob, hg3⟩
      have hb3 := hb2.grown hg3 hz2 (fun j e => (HO2.out.lt j e).1)
      have HI : Hid (Ints w3 u3 (withs (whyIds L))) := Lib.hid (by rw [← HE2.out]; exact ho3.slOf)
      clear ho3 hob
      go_wp2_with fail
      exact bodyPost_ret (v := .tuple #[u3, .int .i64 0]) (by simp [results, Tryz.results5, go_sem]) rfl ⟨_, _, L, rfl, HI.out, HR.out, below_trans hb1 hb3⟩
    obtain ⟨x, hx⟩ := get_of_lt hlt
    obtain ⟨_, _, ex, _, _, hpc⟩ := HU.out.cells
    cases ex
    obtain ⟨bp, op, rfl, _, hpb⟩ := hpc j hlt
    obtain ⟨y0, y1, y2⟩ := hpb wr hbr j x hx
    obtain ⟨Z1, Z2, hZ1, hZ2, HzZ2, hkZ1, hkZ2, hbZ2, hltZ2⟩ := fresh wr [.int .i64 0, .int .i64 0, .int .i64 0] [.int .i64 x.id, .int .i64 x.obv, .int .i64 x.rev] 52 rfl
    have hsZ2 : ((Z1.setCell ⟨wr.heap.size, 0, none⟩ (.int .i64 x.id)).setCell ⟨wr.heap.size, 1, none⟩ (.int .i64 x.obv)).setCell ⟨wr.heap.size, 2, none⟩ (.int .i64 x.rev) = Z2 := hZ2
    clear hZ2
    obtain ⟨⟨z0, z1, z2⟩, f0, f1, f2⟩ := cells3 hkZ1
    obtain ⟨⟨q0, q1, q2⟩, _⟩ := cells3 hkZ2
    obtain ⟨W8, hW8, Hz8, hb8, hlt8, _⟩ := boxed Z2 #[.int .i64 x.obv, .int .i64 x.rev] 3
    have hk8 : W8.heap[Z2.heap.size]? = some (.cells (([x.obv, x.rev] : List Int).flatMap encI).toArray 3 (0, 0)) := by rw [← hW8]; exact heap_alloc_new _ _
    have hi8 : Ints W8 (.slice (some ⟨Z2.heap.size, 0, none⟩) 2 2) [x.obv, x.rev] := slOf_blk lenI hk8 rfl (by decide) (by decide)
    have hsl8 := hi8.sl'
    have hbr8 := below_trans hbr (below_trans hbZ2 hb8)
    have hown8 := hown.below (below_trans hbZ2 hb8)
    have HO8 := Lib.hid hown8
    have hz8 := hbr8.size
    have Hsn : Hid (whyIds (L.take (j + 1)) = R ++ [x.obv, x.rev]) := Lib.hid (by rw [take_snoc' hx, whyIds_snoc, ← HRe.out])
    have hj1 : (j : Int) < (L.length : Int) := by omega
    have hj0 : (0 : Int) ≤ (j : Int) := by omega
    clear hpc hpb hx hkZ1 hkZ2 hk8 hi8 hown
    go_wp2_with (at_builtin; refine wpList_append_sl (enc := encI) (size := 1) (B := w1.heap.size) rfl (.tmp 32) (.tmp 37) _ rfl iI _ 8 Tryz.underlying28 hiI hzI hkI hbI rfl (by decide) oneI rfl hown8 (some ⟨Z2.heap.size, 0, none⟩) 2 2 [x.obv, x.rev] rfl rfl hsl8 (by simp; omega) (by simp; omega) hz8 ?_; intro v' w9 hown' hgrow hat; obtain ⟨Av, cv9, rfl, _⟩ := id hown'.slOf; obtain ⟨Rn, hRn⟩ : ∃ z, R ++ [x.obv, x.rev] = z := ⟨_, rfl⟩; rw [hRn] at hown' hat ⊢; have HRn := Lib.hid hRn; have HO9 := Lib.hid hown'; have HG9 := Lib.hid hgrow; clear hRn hown' hgrow hat)
    have hb9 := hbr8.grown HG9.out hz8 (fun j e => (HO8.out.lt j e).1)
    refine ⟨?rel, ?measure⟩
    case rel => exact ⟨j + 1, Rn, by omega, by go_num, HO9.out, hb9, Lib.hid (by rw [Hsn.out]; exact HRn.out.symm)⟩
    case measure => first | (simp [intOf]; done) | (simp [intOf]; omega)
end Go.Proofs.YtikfffojeakjoaaGreatDoor
