/- Package precedence: evidence.arcs, Build. Condition: the arguments read as lists. -/
import Derived.Test.YthnckicnnhkkaaaGreatArcC
import Derived.Test.YthnckicnnhkkaaaGreatConP
namespace Go.Proofs.YthnckicnnhkkaaaGreat
open Go.RowKit Go.Maps Go.Shelf

set_option maxHeartbeats 8000000 in
set_option maxRecDepth 100000 in
theorem earcs_ok (A : Option Addr) (n c : Nat) (pv : Value) (P : List Link) (w : World) (h : Links w pv P) (hP : P.length ≤ 100000) :
    Calls Tryz.prog 176 #[.agg #[.slice A n c, pv]] w fun e w' => ∃ u out, e = .returned u ∧ OwnAr w.heap.size w' u out ∧ ClaL (P.map arcOf) out ∧ out.length ≤ P.length ∧ Below w.heap.size w w' := by
  obtain ⟨Ap, cp, rfl, hlc, hcm, hcl⟩ := h.cells
  obtain ⟨iA, hiA, hzA, hkA, hbA⟩ := info_parts infoAr
  obtain ⟨W, hW, Hz, hbW, hltW, hc0⟩ := boxed w #[.slice A n c, .slice Ap P.length cp] 213
  have a1 := hc0 1 _ rfl
  have HCl := Lib.hid hcl
  clear hc0 hcl h
  go_enter Tryz.func176, Tryz.ntmps176
  go_wp2_with fail
  go_loopw [3, 9] (fun t3 t9 wr => ∃ (k : Nat) (v : Value), k ≤ P.length ∧ t3 = v ∧ t9 = .int .i64 k ∧ OwnAr w.heap.size wr v ((P.take k).map arcOf) ∧ Below w.heap.size w wr) (fun _ t _ => P.length - (intOf t).toNat)
  case atStart => exact ⟨0, _, Nat.zero_le _, rfl, rfl, own_nil _ _ _ _ _, hbW⟩
  case round =>
    obtain ⟨k, v, hk, rfl, rfl, hown, hb⟩ := hrel
    obtain ⟨A8, c8, e8, _⟩ := id hown.slOf
    subst e8
    by_cases hlt : k < P.length
    · obtain ⟨x, hx⟩ := get_of_lt hlt
      obtain ⟨b, o, rfl, _, hcc⟩ := HCl.out _ (lt_of_get hx)
      obtain ⟨c0, c1, c2⟩ := hcc wr hb k x hx
      obtain ⟨V1, V2, hV1, hV2, HzV2, hkV1, hkV2, hbV2, hltV2⟩ := fresh wr [.int .i64 0, .int .i64 0, .int .i64 0] [.int .i64 (x).id, .int .i64 (x).obv, .int .i64 (x).rev] 254 rfl
      have hsV2 : ((V1.setCell ⟨wr.heap.size, 0, none⟩ (.int .i64 (x).id)).setCell ⟨wr.heap.size, 1, none⟩ (.int .i64 (x).obv)).setCell ⟨wr.heap.size, 2, none⟩ (.int .i64 (x).rev) = V2 := hV2
      clear hV2
      obtain ⟨⟨z0, z1, z2⟩, f0, f1, f2⟩ := cells3 hkV1
      obtain ⟨⟨s0, s1, s2⟩, _⟩ := cells3 hkV2
      clear hkV1
      have hl1 : (k : Int) < (P.length : Int) := by omega
      have HO := Lib.hid (hown.below hbV2)
      have HbV := Lib.hid (below_trans hb hbV2)
      have HT := Lib.hid (arcOf_snoc hx)
      have hrl : ((P.take k).map arcOf).length ≤ k := by rw [List.length_map, List.length_take]; omega
      have hzz : w.heap.size ≤ V2.heap.size := (below_trans hb hbV2).size
      clear hcc hown hx
      go_wp2_with (at_builtin; refine wpList_append1 (enc := encP) (size := 2) (B := w.heap.size) rfl (.tmp 13) (.tmp 19) _ rfl 177 iA _ 16 Tryz.underlying129 hiA hzA hkA hbA rfl (by decide) rfl HO.out (⟨x.obv, x.rev⟩ : Pair) _ rfl lenP oneP _ rfl rfl (by omega) (by omega) (by omega) ?_; intro v' wq hown' hgrow hat)
      obtain ⟨Av, cv9, rfl, _⟩ := id hown'.slOf
      rw [← HT.out] at hown'
      have HOq := Lib.hid hown'; have HGq := Lib.hid hgrow
      have e9 := congrArg List.length HT.out
      rw [← e9]
      clear hown' hgrow hat e9
      go_wp2_with fail
      refine ⟨?rel, ?measure⟩
      case rel => exact ⟨k + 1, _, by omega, rfl, by go_num, HOq.out, HbV.out.grown HGq.out hzz (fun j e => (HO.out.lt j e).1)⟩
      case measure => simp [intOf]; omega
    · have he : P.take k = P := List.take_of_length_le (by omega)
      rw [he] at hown ⊢
      obtain ⟨Z, hZ⟩ : ∃ z, P.map arcOf = z := ⟨_, rfl⟩
      rw [hZ] at hown ⊢
      have HZl : Hid (Z.length = P.length) := Lib.hid (by rw [← hZ, List.length_map])
      have HZ := Lib.hid hZ
      have hzz : w.heap.size ≤ wr.heap.size := hb.size
      clear he hZ
      go_wp2_with fail
      refine (sortFuncAr_ok _ _ _ wr hown (by have := HZl.out; omega)).mono ?_
      rintro e w7 ⟨rfl, ys, ho7, hby, hyl, hg7⟩
      have hb7 := hb.grown hg7 hzz (fun j e => (hown.lt j e).1)
      have Hby := Lib.hid hby; have Hown := Lib.hid hown
      clear hby hown
      go_wp2_with fail
      refine (compactAr_ok _ _ ys w7 ho7 (by have := HZl.out; omega)).mono ?_
      rintro e w8 ⟨u', rfl, ho8, _, hg8⟩
      have hb8 := hb7.grown hg8 hb7.size (fun j e => (ho7.lt j e).1)
      have Ho8 := Lib.hid ho8
      clear ho8
      go_wp2_with fail
      go_ret
      exact ⟨u', Lib.compact ys, rfl, Ho8.out, by rw [HZ.out]; exact claL_compact Hby.out, Nat.le_trans (compact_len ys) (by have := HZl.out; omega), hb8⟩
set_option maxHeartbeats 4000000 in
set_option maxRecDepth 100000 in
theorem Build_ok (A : Option Addr) (c : Nat) (l : List Spec) (cv : Value) (C : List Pair) (w : World) (h : Specs w (.slice A l.length c) l) (hC : Pairs w cv C) :
    Calls Tryz.prog 133 #[.slice A l.length c, cv] w fun e w' => ∃ u out, e = .returned (.tuple #[u, .int .i64 (gatherE l C)]) ∧ Pairs w' u out ∧ (gatherE l C = 0 → ClaL ((piecesS l C).map arcOf) out) ∧ Below w.heap.size w w' := by
  have HG := Lib.hid (gather_ok A c l cv C w h hC)
  obtain ⟨E, hE⟩ : ∃ z, gatherE l C = z := ⟨_, rfl⟩
  rw [hE] at HG ⊢
  have HE := Lib.hid hE
  clear h hC hE
  go_enter Tryz.func133, Tryz.ntmps133
  go_wp2_with fail
  refine HG.out.mono ?_
  rintro e w1 (⟨pv, rfl, rfl, hp, hb1⟩ | ⟨E', rfl, ⟨rfl, hne⟩, hb1⟩)
  · obtain ⟨V1, V2, hV1, hV2, HzV2, hkV1, hkV2, hbV2, hltV2⟩ := fresh w1 [.slice none 0 0, .slice none 0 0] [.slice A l.length c, pv] 213 rfl
    have hsV2 : (V1.setCell ⟨w1.heap.size, 0, none⟩ (.slice A l.length c)).setCell ⟨w1.heap.size, 1, none⟩ pv = V2 := hV2
    clear hV2
    obtain ⟨⟨z0, z1⟩, f0, f1⟩ := cells2 hkV1
    obtain ⟨⟨s0, s1⟩, _⟩ := cells2 hkV2
    have HA := Lib.hid (earcs_ok A l.length c pv (piecesS l C) V2 ((show Links w1 pv _ from hp).below hbV2) (Nat.le_trans (pieces_len HE.out) (by omega)))
    obtain ⟨Ap, cp, rfl, _⟩ := id hp
    clear hkV1 hkV2 hp
    go_wp2_with fail
    refine HA.out.mono ?_
    rintro e w2 ⟨u, out, rfl, ho, hcl, _, hb2⟩
    have Ho := Lib.hid ho; have Hcl := Lib.hid hcl
    clear ho hcl
    go_wp2_with fail
    exact bodyPost_ret (v := .tuple #[u, .int .i64 0]) (by simp [results, Tryz.results133, go_sem]) rfl ⟨u, rfl, out, Ho.out.slOf, Hcl.out, below_trans hb1 (below_trans hbV2 hb2)⟩
  · have t1 : (E' != 0) = true := by simpa using hne
    have t1' : decide (E' = 0) = false := by simpa using hne
    obtain ⟨V1, V2, hV1, hV2, HzV2, hkV1, hkV2, hbV2, hltV2⟩ := fresh w1 [.slice none 0 0, .slice none 0 0] [.slice none 0 0, .slice none 0 0] 213 rfl
    have hsV2 : (V1.setCell ⟨w1.heap.size, 0, none⟩ (.slice none 0 0)).setCell ⟨w1.heap.size, 1, none⟩ (.slice none 0 0) = V2 := hV2
    clear hV2
    obtain ⟨⟨z0, z1⟩, f0, f1⟩ := cells2 hkV1
    have Hne := Lib.hid hne
    clear hkV1 hkV2 hne
    go_wp2_with fail
    exact bodyPost_ret (v := .tuple #[.slice none 0 0, .int .i64 E']) (by simp [results, Tryz.results133, go_sem]) rfl ⟨_, [], rfl, ⟨none, 0, rfl, Nat.le_refl _, by simp [maxLen], Sl.nil _ _ _⟩, fun h => absurd h Hne.out, below_trans hb1 hbV2⟩
end Go.Proofs.YthnckicnnhkkaaaGreat
