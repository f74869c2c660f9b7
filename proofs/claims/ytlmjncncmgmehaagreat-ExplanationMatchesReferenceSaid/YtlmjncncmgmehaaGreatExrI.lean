/- Reference 51: Some, Needed. Condition: the arguments read as such. -/
import Derived.Test.YtlmjncncmgmehaaGreatExrH
namespace Go.Proofs.YtlmjncncmgmehaaGreat
open Go.RowKit Go.Maps Go.Shelf

set_option maxHeartbeats 8000000 in
set_option maxRecDepth 100000 in
theorem SomeR_ok (v iv : Value) (l : List Spec) (set : List Int) (da db : Die) (w : World) (h : Specs w v l) (hi : Ints w iv set) (hl : l.length ≤ 1048576) :
    Calls Tryz.prog 23 #[v, vlD da, vlD db, iv] w fun e w' => ∃ u L, e = .returned (.tuple #[u, .int .i64 (someE l da db set)]) ∧ Ints w' u L ∧ SomeS l da db set L ∧ Below w.heap.size w w' := by
  obtain ⟨X0, hX0, HzX0, hbX0, hltX0, hcX0⟩ := boxed w #[.int .i64 da.side, .int .i64 da.num] 24
  obtain ⟨X1, hX1, HzX1, hbX1, hltX1, hcX1⟩ := boxed X0 #[.int .i64 db.side, .int .i64 db.num] 24
  have hX := below_trans hbX0 hbX1
  have h0 := h.below hX
  have hi0 := hi.below hX
  have a0 := cell_later hbX1 (hcX0 0 _ rfl); have a1 := cell_later hbX1 (hcX0 1 _ rfl)
  have b0 := hcX1 0 _ rfl; have b1 := hcX1 1 _ rfl
  clear hcX0 hcX1
  obtain ⟨A, c, rfl, _⟩ := id h
  obtain ⟨Ai, ci, rfl, _⟩ := id hi
  obtain ⟨E, hE0⟩ : ∃ E, someE l da db set = E := ⟨_, rfl⟩
  rw [hE0]
  have HE0 := Lib.hid hE0
  have Hh := Lib.hid h; have Hi := Lib.hid hi
  clear h hi hi0 hE0
  go_enter Tryz.func23, Tryz.ntmps23
  go_wp2_with fail
  refine (Of_ok13 _ l _ h0 hl).mono ?_
  rintro e w1 ⟨ug, rfl, hg, hb1⟩
  have a0 := cell_later hb1 a0; have a1 := cell_later hb1 a1; have b0 := cell_later hb1 b0; have b1 := cell_later hb1 b1
  generalize ofG l = g at hg
  obtain ⟨v1, v2, v3, rfl, ⟨A1k, c1k, rfl, _⟩, ⟨A2k, c2k, rfl, _⟩, ⟨A3k, c3k, rfl, _⟩⟩ := hg
  obtain ⟨W1, W2, hW1, hW2, HzW2, hkW1, hkW2, hbW2, hltW2⟩ := fresh w1 [.slice none 0 0, .slice none 0 0, .slice none 0 0] [.slice A1k (g).obv.length c1k, .slice A2k (g).rev.length c2k, .slice A3k (g).links.length c3k] 54 rfl
  have hsW2 : ((W1.setCell ⟨w1.heap.size, 0, none⟩ (.slice A1k (g).obv.length c1k)).setCell ⟨w1.heap.size, 1, none⟩ (.slice A2k (g).rev.length c2k)).setCell ⟨w1.heap.size, 2, none⟩ (.slice A3k (g).links.length c3k) = W2 := hW2
  clear hW2
  obtain ⟨⟨z0k, z1k, z2k⟩, f0k, f1k, f2k⟩ := cells3 hkW1
  obtain ⟨⟨s0k, s1k, s2k⟩, _⟩ := cells3 hkW2
  clear hkW1 hkW2
  have a0 := cell_later hbW2 a0; have a1 := cell_later hbW2 a1; have b0 := cell_later hbW2 b0; have b1 := cell_later hbW2 b1
  have hw2 := below_trans hX (below_trans hb1 hbW2)
  by_cases hE : ofE l = 0
  case neg =>
    have hd : (ofE l != 0) = true := by simpa using hE
    have Hr : Hid (E = ofE l ∧ SomeS l da db set []) := Lib.hid ⟨by rw [← HE0.out, someE, if_neg hE], by rw [SomeS, if_neg hE]⟩
    generalize ofE l = F at hd Hr
    clear a0 a1 b0 b1 hE
    go_wp2_with fail
    exact bodyPost_ret (v := .tuple #[.slice none 0 0, .int .i64 F]) (by simp [results, Tryz.results23, go_sem]) rfl ⟨_, [], by rw [Hr.out.1], (own_nil _ _ _ 0 _ : OwnI 0 _ _ _).slOf, Hr.out.2, hw2⟩
  have hd : (ofE l != 0) = false := by simp [hE]
  have hll : l.length ≤ 64 := (checkE_zero (ofE_zero hE).1).1
  have Hr : Hid (E = leastE (onlyL l set false) da db ∧ ∀ L, LeastS (onlyL l set false) da db L → SomeS l da db set L) := Lib.hid ⟨by rw [← HE0.out, someE, if_pos hE], fun L hL => by rw [SomeS, if_pos hE]; exact hL⟩
  clear hE h0
  go_wp2_with fail
  clear z0k z1k z2k f0k f1k f2k s0k s1k s2k hsW2 hW1 hd
  have hba : Below W2.heap.size W2 W2.drew := (Below.refl _ _).drew
  obtain ⟨wa, hwa⟩ : ∃ W, W2.drew = W := ⟨_, rfl⟩
  rw [hwa] at hba
  have hwA := below_trans hw2 hba
  have HO := Lib.hid (onlyRfalse_ok _ _ l set _ (Hh.out.below hwA) (Hi.out.below hwA) (by omega))
  have hHeld : (fun w' : World => w'.cell? ⟨w.heap.size, 0, none⟩ = some (.int .i64 da.side) ∧ w'.cell? ⟨w.heap.size, 1, none⟩ = some (.int .i64 da.num) ∧ w'.cell? ⟨X0.heap.size, 0, none⟩ = some (.int .i64 db.side) ∧ w'.cell? ⟨X0.heap.size, 1, none⟩ = some (.int .i64 db.num)) wa := ⟨cell_later hba a0, cell_later hba a1, cell_later hba b0, cell_later hba b1⟩
  have HH := Lib.hid fun (w9 : World) (hb : Below wa.heap.size wa w9) => (show (fun w' : World => w'.cell? ⟨w.heap.size, 0, none⟩ = some (.int .i64 da.side) ∧ w'.cell? ⟨w.heap.size, 1, none⟩ = some (.int .i64 da.num) ∧ w'.cell? ⟨X0.heap.size, 0, none⟩ = some (.int .i64 db.side) ∧ w'.cell? ⟨X0.heap.size, 1, none⟩ = some (.int .i64 db.num)) w9 from ⟨cell_later hb hHeld.1, cell_later hb hHeld.2.1, cell_later hb hHeld.2.2.1, cell_later hb hHeld.2.2.2⟩)
  refine wp_region_S 9 (fun w' : World => w'.cell? ⟨w.heap.size, 0, none⟩ = some (.int .i64 da.side) ∧ w'.cell? ⟨w.heap.size, 1, none⟩ = some (.int .i64 da.num) ∧ w'.cell? ⟨X0.heap.size, 0, none⟩ = some (.int .i64 db.side) ∧ w'.cell? ⟨X0.heap.size, 1, none⟩ = some (.int .i64 db.num)) (by kernel_rfl) (by decide) ?_
  rw [hwa]
  clear hwa a0 a1 b0 b1
  refine wpAnyS_takeD 0 (some 20) (.slice A l.length c) (by rfl) (by rfl) (by kernel_rfl) (by exact fun _ _ _ h => h) (by rfl) (fun w' hS => by go_simp) hHeld ?_
  simp only [Act.put, List.setIfInBounds_toArray, List.set_cons_succ, List.set_cons_zero]
  refine wpAnyS_takeD 1 (some 21) (.slice Ai set.length ci) (by rfl) (by rfl) (by kernel_rfl) (by exact fun _ _ _ h => h) (by rfl) (fun w' hS => by go_simp) hHeld ?_
  simp only [Act.put, List.setIfInBounds_toArray, List.set_cons_succ, List.set_cons_zero]
  refine wpAnyS_takeD 3 (some 23) (vlD da) (by rfl) (by rfl) (by kernel_rfl) (by exact fun _ _ _ h => h) (by rfl) (fun w' hS => by (obtain ⟨x0, x1, x2, x3⟩ := hS; go_simp)) hHeld ?_
  simp only [Act.put, List.setIfInBounds_toArray, List.set_cons_succ, List.set_cons_zero]
  refine wpAnyS_takeD 4 (some 24) (vlD db) (by rfl) (by rfl) (by kernel_rfl) (by exact fun _ _ _ h => h) (by rfl) (fun w' hS => by (obtain ⟨x0, x1, x2, x3⟩ := hS; go_simp)) hHeld ?_
  simp only [Act.put, List.setIfInBounds_toArray, List.set_cons_succ, List.set_cons_zero]
  clear hHeld
  refine wpAnyS_one 2 (by kernel_rfl) (by rfl) (by decide) (fun K hK => ?_)
  have HK := Lib.hid hK; clear hK
  rw [if_pos (by rfl)]
  go_simp
  refine HO.out.mono ?_
  rintro e w3 ⟨u3, rfl, ho3, hb3⟩
  refine HK.out _ _ (HH.out _ hb3) ?_
  clear HK
  have hlo : (onlyL l set false).length ≤ 1048576 := Nat.le_trans (List.length_filter_le _ _) (by omega)
  have HL := Lib.hid (LeastR_ok _ (onlyL l set false) da db _ ho3.slOf hlo)
  obtain ⟨EL, hEL⟩ : ∃ EL, leastE (onlyL l set false) da db = EL := ⟨_, rfl⟩
  rw [hEL] at HL Hr
  clear ho3 hEL hlo
  refine wpAnyS_one 5 (by kernel_rfl) (by rfl) (by decide) (fun K hK => ?_)
  have HK := Lib.hid hK; clear hK
  rw [if_pos (by rfl)]
  go_simp
  refine HL.out.mono ?_
  rintro e w4 ⟨u4, L, rfl, hi4, hL4, hb4⟩
  have hb5 := below_trans hb3 hb4
  have Hi4 := Lib.hid hi4; have HL4 := Lib.hid hL4
  have hHeld := HH.out _ hb5
  refine HK.out _ _ hHeld ?_
  clear HK hi4 hL4
  refine wpAnyS_takeD 6 (some 26) u4 (by rfl) (by rfl) (by kernel_rfl) (by exact fun _ _ _ h => h) (by rfl) (fun w' hS => by go_simp) hHeld ?_
  simp only [Act.put, List.setIfInBounds_toArray]
  refine wpAnyS_takeD 7 (some 27) (.int .i64 EL) (by rfl) (by rfl) (by kernel_rfl) (by exact fun _ _ _ h => h) (by rfl) (fun w' hS => by go_simp) hHeld ?_
  simp only [Act.put, List.setIfInBounds_toArray]
  refine wpAnyS_takeD 8 (some 8) u4 (by rfl) (by rfl) (by kernel_rfl) (by exact fun _ _ _ h => h) (by rfl) (fun w' hS => by go_simp) hHeld ?_
  simp only [Act.put, List.setIfInBounds_toArray]
  clear hHeld
  refine (show tailOf _ _ _ _ _ _ _ _ from ⟨by kernel_rfl, ?_⟩)
  simp only [List.drop_succ_cons, List.drop_zero]
  go_wp2_with fail
  exact bodyPost_ret (v := .tuple #[u4, .int .i64 EL]) (by simp [results, Tryz.results23, go_sem]) rfl ⟨_, by rw [Hr.out.1], L, Hi4.out, Hr.out.2 _ HL4.out, below_trans hwA hb5⟩
set_option maxHeartbeats 8000000 in
set_option maxRecDepth 100000 in
theorem NeedR_ok (v : Value) (l : List Spec) (da db : Die) (w : World) (h : Specs w v l) (hl : l.length ≤ 1048576) :
    Calls Tryz.prog 19 #[v, vlD da, vlD db] w fun e w' => ∃ u, e = .returned (.tuple #[u, .int .i64 (leastE l da db)]) ∧ Ints w' u (needL l da db) ∧ Below w.heap.size w w' := by
  obtain ⟨X0, hX0, HzX0, hbX0, hltX0, hcX0⟩ := boxed w #[.int .i64 da.side, .int .i64 da.num] 24
  obtain ⟨X1, hX1, HzX1, hbX1, hltX1, hcX1⟩ := boxed X0 #[.int .i64 db.side, .int .i64 db.num] 24
  have hX := below_trans hbX0 hbX1
  have h0 := h.below hX
  have a0 := cell_later hbX1 (hcX0 0 _ rfl); have a1 := cell_later hbX1 (hcX0 1 _ rfl)
  have b0 := hcX1 0 _ rfl; have b1 := hcX1 1 _ rfl
  clear hcX0 hcX1
  obtain ⟨A, c, rfl, _⟩ := id h
  obtain ⟨E, hE0⟩ : ∃ E, leastE l da db = E := ⟨_, rfl⟩
  rw [hE0]
  have HE0 := Lib.hid hE0; have Hh := Lib.hid h
  have HO := Lib.hid (Of_ok13 _ l X1 h0 hl)
  clear h h0 hE0
  go_enter Tryz.func19, Tryz.ntmps19
  go_wp2_with fail
  refine HO.out.mono ?_
  rintro e w1 ⟨ug, rfl, hg, hb1⟩
  have a0 := cell_later hb1 a0; have a1 := cell_later hb1 a1; have b0 := cell_later hb1 b0; have b1 := cell_later hb1 b1
  have hw1 := below_trans hX hb1
  obtain ⟨g, hgg⟩ : ∃ g, ofG l = g := ⟨_, rfl⟩
  rw [hgg] at hg
  have hg' := hg
  obtain ⟨v1, v2, v3, rfl, ⟨A1k, c1k, rfl, _⟩, ⟨A2k, c2k, rfl, _⟩, ⟨A3k, c3k, rfl, _⟩⟩ := hg
  obtain ⟨W1, W2, hW1, hW2, HzW2, hkW1, hkW2, hbW2, hltW2⟩ := fresh w1 [.slice none 0 0, .slice none 0 0, .slice none 0 0] [.slice A1k (g).obv.length c1k, .slice A2k (g).rev.length c2k, .slice A3k (g).links.length c3k] 54 rfl
  have hsW2 : ((W1.setCell ⟨w1.heap.size, 0, none⟩ (.slice A1k (g).obv.length c1k)).setCell ⟨w1.heap.size, 1, none⟩ (.slice A2k (g).rev.length c2k)).setCell ⟨w1.heap.size, 2, none⟩ (.slice A3k (g).links.length c3k) = W2 := hW2
  clear hW2
  obtain ⟨⟨z0k, z1k, z2k⟩, f0k, f1k, f2k⟩ := cells3 hkW1
  obtain ⟨⟨s0k, s1k, s2k⟩, _⟩ := cells3 hkW2
  clear hkW1 hkW2
  have a0 := cell_later hbW2 a0; have a1 := cell_later hbW2 a1; have b0 := cell_later hbW2 b0; have b1 := cell_later hbW2 b1
  have hw2 := below_trans hw1 hbW2
  have HgA := Lib.hid (hg'.below hbW2)
  have Hgg := Lib.hid hgg
  clear hX0 hX1 HO hg' hgg
  by_cases hE : ofE l = 0
  case neg =>
    have hd : (ofE l != 0) = true := by simpa using hE
    have Hr : Hid (E = ofE l ∧ needL l da db = []) := Lib.hid ⟨by rw [← HE0.out, leastE, if_neg hE], by rw [needL, leastE, if_neg hE, if_neg hE]⟩
    generalize ofE l = Z at hd Hr
    clear a0 a1 b0 b1 hE
    go_wp2_with fail
    exact bodyPost_ret (v := .tuple #[.slice none 0 0, .int .i64 Z]) (by simp [results, Tryz.results19, go_sem]) rfl ⟨_, by rw [Hr.out.1], by rw [Hr.out.2]; exact (own_nil _ _ _ 0 _ : OwnI 0 _ _ _).slOf, hw2⟩
  have hd : (ofE l != 0) = false := by simp [hE]
  have hv : graphB g = true := by rw [← Hgg.out]; exact of_valid hE
  have HJ := Joined14_ok _ g hv da db _ HgA.out
  have hjg : jnL l da db = joinB (edgesG g) da db := by rw [jnL, joinG, Hgg.out, hv, Bool.true_and]
  rw [← hjg] at HJ
  have HE := Lib.hid hE; have Hv := Lib.hid hv
  have hll : l.length ≤ 64 := (checkE_zero (ofE_zero hE).1).1
  obtain ⟨J, hJ⟩ : ∃ J, jnL l da db = J := ⟨_, rfl⟩
  rw [hJ] at HJ
  have HJ' := Lib.hid HJ; have HJJ := Lib.hid hJ
  clear hE hv HJ hjg hJ
  cases J
  case false =>
    have Hr : Hid (E = 7 ∧ needL l da db = []) := Lib.hid (by
      have h7 : leastE l da db = 7 := by rw [leastE, if_pos HE.out, HJJ.out]; rfl
      exact ⟨by rw [← HE0.out, h7], by rw [needL, h7]; rfl⟩)
    go_wp2_with fail
    refine HJ'.out.mono ?_
    rintro e w3 ⟨rfl, hb3⟩
    go_wp2_with fail
    exact bodyPost_ret (v := .tuple #[.slice none 0 0, .int .i64 7]) (by simp [results, Tryz.results19, go_sem]) rfl ⟨_, by rw [Hr.out.1], by rw [Hr.out.2]; exact (own_nil _ _ _ 0 _ : OwnI 0 _ _ _).slOf, below_trans hw2 hb3⟩
  have h00 : leastE l da db = 0 := by rw [leastE, if_pos HE.out, HJJ.out]; rfl
  have HEE : Hid (E = 0) := Lib.hid (by rw [← HE0.out, h00])
  have Hneed : Hid (needL l da db = (g.links.map Link.id).filter (needP l da db)) := Lib.hid (by rw [needL, if_pos h00, Hgg.out]; rfl)
  clear h00
  go_wp2_with fail
  refine HJ'.out.mono ?_
  rintro e w3 ⟨rfl, hb3⟩
  have a0 := cell_later hb3 a0; have a1 := cell_later hb3 a1; have b0 := cell_later hb3 b0; have b1 := cell_later hb3 b1
  have s0k := cell_later hb3 s0k; have s1k := cell_later hb3 s1k; have s2k := cell_later hb3 s2k
  have hw3 := below_trans hw2 hb3
  obtain ⟨_, _, _, e8, _, _, hLk⟩ := HgA.out.below hb3
  cases e8
  obtain ⟨_, _, e9, _, _, hkc⟩ := hLk.cells
  cases e9
  have Hkc := Lib.hid hkc
  obtain ⟨iI, hiI, hzI, hkI, hbI⟩ := info_parts infoI
  have hgl : g.links.length ≤ 64 := ((graphB_iff _).1 Hv.out).ll
  have Hc3 := Lib.hid (And.intro (And.intro (And.intro a0 a1) (And.intro b0 b1)) s2k)
  clear hLk hkc hsW2 hW1 z0k z1k z2k f0k f1k f2k hd
  go_wp2_with fail
  clear a0 a1 b0 b1 s0k s1k s2k
  go_loopw [10, 11] (fun u iv wr => ∃ i : Nat, i ≤ g.links.length ∧ iv = .int .i64 i ∧ OwnI w3.heap.size wr u (((g.links.map Link.id).take i).filter (needP l da db)) ∧ Below w3.heap.size w3 wr) (fun _ iv _ => g.links.length - (intOf iv).toNat)
  case atStart => exact ⟨0, Nat.zero_le _, rfl, own_nil _ _ _ _ _, Below.refl _ _⟩
  case round =>
    obtain ⟨i, hi, rfl, hown, hbr⟩ := hrel
    have hwr := below_trans hw3 hbr
    have s2k := cell_later hbr Hc3.out.2
    by_cases hlt : i < g.links.length
    case neg =>
      rw [List.take_of_length_le (by rw [List.length_map]; omega), ← Hneed.out] at hown
      have HO := hown.slOf
      obtain ⟨Au, cu, rfl, _⟩ := id HO
      have HO' := Lib.hid HO
      clear hown HO
      go_wp2_with fail
      exact bodyPost_ret (v := .tuple #[.slice Au (needL l da db).length cu, .int .i64 0]) (by simp [results, Tryz.results19, go_sem]) rfl ⟨_, by rw [HEE.out], HO'.out, hwr⟩
    obtain ⟨x, hx⟩ := get_of_lt hlt
    obtain ⟨bl, ol, rfl, _, hcb⟩ := Hkc.out i hlt
    obtain ⟨y0, y1, y2⟩ := hcb wr hbr i x hx
    obtain ⟨P, hP⟩ : ∃ P, needP l da db = P := ⟨_, rfl⟩
    have hsn : ((g.links.map Link.id).take (i + 1)).filter P = ((g.links.map Link.id).take i).filter P ++ (if P x.id = true then [x.id] else []) := by
      rw [take_snoc' (x := x.id) (by rw [List.getElem?_map, hx]; rfl), List.filter_append, List.filter_cons]
      cases P x.id <;> rfl
    rw [hP] at hown ⊢
    have hPx : (!jnL (onlyL l [x.id] false) da db) = P x.id := by rw [← hP]; rfl
    have hQl : (((g.links.map Link.id).take i).filter P).length ≤ 64 := Nat.le_trans (List.length_filter_le _ _) (by rw [List.length_take, List.length_map]; omega)
    obtain ⟨Q, hQ⟩ : ∃ Q, ((g.links.map Link.id).take i).filter P = Q := ⟨_, rfl⟩
    rw [hQ] at hown hsn hQl
    obtain ⟨D, hD⟩ : ∃ D, jnL (onlyL l [x.id] false) da db = D := ⟨_, rfl⟩
    rw [hD] at hPx
    rw [← hPx] at hsn
    have Hsn := Lib.hid hsn; have HD := Lib.hid hD; have Hown := Lib.hid hown
    have hi1 : (i : Int) < (g.links.length : Int) := by omega
    have hi0 : (0 : Int) ≤ (i : Int) := by omega
    clear hown hsn hP hPx hQ hD hcb hx
    go_wp2_with fail
    have hba : Below wr.heap.size wr wr.drew := (Below.refl _ _).drew
    obtain ⟨wa, hwa⟩ : ∃ W, wr.drew = W := ⟨_, rfl⟩
    rw [hwa] at hba
    have hwA := below_trans hwr hba
    have HSt := Lib.hid fun (w9 : World) (hb : Below wa.heap.size wa w9) => (show (fun w' : World => Below wa.heap.size wa w' ∧ w'.cell? ⟨w1.heap.size, 2, none⟩ = some (.slice (some ⟨bl, ol, none⟩) g.links.length c3k) ∧ w'.cell? ⟨bl, ol + i * 3, none⟩ = some (.int .i64 x.id) ∧ w'.cell? ⟨w.heap.size, 0, none⟩ = some (.int .i64 da.side) ∧ w'.cell? ⟨w.heap.size, 1, none⟩ = some (.int .i64 da.num) ∧ w'.cell? ⟨X0.heap.size, 0, none⟩ = some (.int .i64 db.side) ∧ w'.cell? ⟨X0.heap.size, 1, none⟩ = some (.int .i64 db.num)) w9 from ⟨hb, cell_later hb (cell_later hba s2k), cell_later hb (cell_later hba y0), cell_later hb (cell_later hba (cell_later hbr Hc3.out.1.1.1)), cell_later hb (cell_later hba (cell_later hbr Hc3.out.1.1.2)), cell_later hb (cell_later hba (cell_later hbr Hc3.out.1.2.1)), cell_later hb (cell_later hba (cell_later hbr Hc3.out.1.2.2))⟩)
    have hHeld := HSt.out wa (Below.refl _ _)
    have Hy0 := Lib.hid y0; have Hs2 := Lib.hid s2k
    refine wp_region_S 12 (fun w' : World => Below wa.heap.size wa w' ∧ w'.cell? ⟨w1.heap.size, 2, none⟩ = some (.slice (some ⟨bl, ol, none⟩) g.links.length c3k) ∧ w'.cell? ⟨bl, ol + i * 3, none⟩ = some (.int .i64 x.id) ∧ w'.cell? ⟨w.heap.size, 0, none⟩ = some (.int .i64 da.side) ∧ w'.cell? ⟨w.heap.size, 1, none⟩ = some (.int .i64 da.num) ∧ w'.cell? ⟨X0.heap.size, 0, none⟩ = some (.int .i64 db.side) ∧ w'.cell? ⟨X0.heap.size, 1, none⟩ = some (.int .i64 db.num)) (by kernel_rfl) (by decide) ?_
    rw [hwa]
    clear hwa s2k y0 y1 y2
    refine wpAnyS_takeD 0 (some 32) (.slice A l.length c) (by rfl) (by rfl) (by kernel_rfl) (by exact fun _ _ _ h => h) (by rfl) (fun w' hS => by go_simp) hHeld ?_
    simp only [Act.put, List.setIfInBounds_toArray, List.set_cons_succ, List.set_cons_zero]
    refine wpAnyS_takeD 1 (some 33) (.pointer (some ⟨w1.heap.size, 2, none⟩)) (by rfl) (by rfl) (by kernel_rfl) (by exact fun _ _ _ h => h) (by rfl) (fun w' hS => by go_simp) hHeld ?_
    simp only [Act.put, List.setIfInBounds_toArray, List.set_cons_succ, List.set_cons_zero]
    refine wpAnyS_takeD 2 (some 34) (.slice (some ⟨bl, ol, none⟩) g.links.length c3k) (by rfl) (by rfl) (by kernel_rfl) (by exact fun _ _ _ h => h) (by rfl) (fun w' hS => by (obtain ⟨_, x0, x1, _⟩ := hS; go_simp)) hHeld ?_
    simp only [Act.put, List.setIfInBounds_toArray, List.set_cons_succ, List.set_cons_zero]
    refine wpAnyS_takeD 3 (some 35) (.int .i64 (i : Int)) (by rfl) (by rfl) (by kernel_rfl) (by exact fun _ _ _ h => h) (by rfl) (fun w' hS => by go_simp) hHeld ?_
    simp only [Act.put, List.setIfInBounds_toArray, List.set_cons_succ, List.set_cons_zero]
    refine wpAnyS_takeD 4 (some 36) (.pointer (some ⟨bl, ol + i * 3, none⟩)) (by rfl) (by rfl) (by kernel_rfl) (by exact fun _ _ _ h => h) (by rfl) (fun w' hS => by go_simp) hHeld ?_
    simp only [Act.put, List.setIfInBounds_toArray, List.set_cons_succ, List.set_cons_zero]
    refine wpAnyS_takeD 5 (some 37) (.pointer (some ⟨bl, ol + i * 3, none⟩)) (by rfl) (by rfl) (by kernel_rfl) (by exact fun _ _ _ h => h) (by rfl) (fun w' hS => by go_simp) hHeld ?_
    simp only [Act.put, List.setIfInBounds_toArray, List.set_cons_succ, List.set_cons_zero]
    refine wpAnyS_takeD 6 (some 38) (.int .i64 x.id) (by rfl) (by rfl) (by kernel_rfl) (by exact fun _ _ _ h => h) (by rfl) (fun w' hS => by (obtain ⟨_, x0, x1, _⟩ := hS; go_simp)) hHeld ?_
    simp only [Act.put, List.setIfInBounds_toArray, List.set_cons_succ, List.set_cons_zero]
    refine wpAnyS_takeD 9 (some 41) (vlD da) (by rfl) (by rfl) (by kernel_rfl) (by exact fun _ _ _ h => h) (by rfl) (fun w' hS => by (obtain ⟨_, _, _, x0, x1, x2, x3⟩ := hS; go_simp)) hHeld ?_
    simp only [Act.put, List.setIfInBounds_toArray, List.set_cons_succ, List.set_cons_zero]
    refine wpAnyS_takeD 10 (some 42) (vlD db) (by rfl) (by rfl) (by kernel_rfl) (by exact fun _ _ _ h => h) (by rfl) (fun w' hS => by (obtain ⟨_, _, _, x0, x1, x2, x3⟩ := hS; go_simp)) hHeld ?_
    simp only [Act.put, List.setIfInBounds_toArray, List.set_cons_succ, List.set_cons_zero]
    clear hHeld
    refine wpAnyS_one 7 (by kernel_rfl) (by rfl) (by decide) (fun K hK => ?_)
    have HK := Lib.hid hK; clear hK
    rw [if_pos (by rfl)]
    go_simp
    obtain ⟨p1, hp1⟩ : ∃ z, World.alloc wa (.cells #[.int .i64 x.id] 3) = z := ⟨_, rfl⟩
    have bp1 : Below wa.heap.size wa p1 := by rw [← hp1]; exact (Below.refl _ _).alloc (Nat.le_refl _) _
    have ip1 : Ints p1 (.slice (some ⟨wa.heap.size, 0, none⟩) 1 1) [x.id] := (own_one (B := 0) (lenI x.id) (by rw [← hp1]; exact heap_alloc_new _ _) (Nat.zero_le _)).slOf
    rw [hp1]
    refine HK.out _ _ (HSt.out _ bp1) ?_
    clear HK hp1
    have HO2 := Lib.hid (onlyRfalse_ok _ _ l [x.id] p1 (Hh.out.below (below_trans hwA bp1)) ip1 (by omega))
    clear ip1
    refine wpAnyS_one 8 (by kernel_rfl) (by rfl) (by decide) (fun K hK => ?_)
    have HK := Lib.hid hK; clear hK
    rw [if_pos (by rfl)]
    go_simp
    refine HO2.out.mono ?_
    rintro e p2 ⟨u2, rfl, ho2, hbp2⟩
    have bp2 := below_trans bp1 hbp2
    refine HK.out _ _ (HSt.out _ bp2) ?_
    clear HK
    have HJ2 := joinsR_ok _ (onlyL l [x.id] false) da db p2 ho2.slOf (Nat.le_trans (List.length_filter_le _ _) hll) (only_of HE.out _ _)
    rw [HD.out] at HJ2
    have HJ2' := Lib.hid HJ2
    clear HJ2 ho2
    refine wpAnyS_one 11 (by kernel_rfl) (by rfl) (by decide) (fun K hK => ?_)
    have HK := Lib.hid hK; clear hK
    rw [if_pos (by rfl)]
    go_simp
    refine HJ2'.out.mono ?_
    rintro e p3 ⟨rfl, hbp3⟩
    have bp3 := below_trans bp2 hbp3
    refine HK.out _ _ (HSt.out _ bp3) ?_
    clear HK
    refine (show tailOf _ _ _ _ _ _ _ _ from ⟨by kernel_rfl, ?_⟩)
    simp only [List.drop_succ_cons, List.drop_zero]
    have hbr3 := below_trans hbr (below_trans hba bp3)
    have hown3 := Hown.out.below (below_trans hba bp3)
    have y0 := cell_later (below_trans hba bp3) Hy0.out
    have s2k := cell_later (below_trans hba bp3) Hs2.out
    have hz3 := hbr3.size
    cases D
    · have HT : Hid (((g.links.map Link.id).take (i + 1)).filter P = Q ++ [x.id]) := Lib.hid (by rw [Hsn.out]; rfl)
      go_wp2_with (at_builtin; refine wpList_append1 (enc := encI) (size := 1) (B := w3.heap.size) rfl (.tmp 45) (.tmp 52) _ rfl 3 iI _ 8 Tryz.underlying26 hiI hzI hkI hbI rfl (by decide) rfl hown3 x.id _ rfl lenI oneI _ rfl rfl (by omega) (by omega) hz3 ?_; intro v' w7 hown' hgrow hat)
      have hb8 := hbr3.grown hgrow hz3 (fun j e => (hown3.lt j e).1)
      refine ⟨?rel, ?measure⟩
      case rel => exact ⟨i + 1, by omega, by go_num, by rw [HT.out]; exact hown', hb8⟩
      case measure => first | (simp [intOf]; done) | (simp [intOf]; omega)
    · have HT : Hid (((g.links.map Link.id).take (i + 1)).filter P = Q) := Lib.hid (by rw [Hsn.out]; simp)
      go_wp2_with fail
      refine ⟨?rel, ?measure⟩
      case rel => exact ⟨i + 1, by omega, by go_num, by rw [HT.out]; exact hown3, hbr3⟩
      case measure => first | (simp [intOf]; done) | (simp [intOf]; omega)
end Go.Proofs.YtlmjncncmgmehaaGreat
