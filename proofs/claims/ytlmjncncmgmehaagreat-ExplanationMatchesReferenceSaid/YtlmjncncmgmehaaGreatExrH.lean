/- Reference 51: Least, Needed, Some. Condition: the arguments read as such. -/
import Derived.Test.YtlmjncncmgmehaaGreatExrE
import Derived.Test.YtlmjncncmgmehaaGreatExrG
import Derived.Test.YtlmjncncmgmehaaGreatExpM
import Derived.Deep.DeepCutAuto
namespace Go.Proofs.YtlmjncncmgmehaaGreat
open Go.RowKit Go.Maps Go.Shelf

theorem dies_eq (a b : Die) : (a = b) ↔ a.side = b.side ∧ a.num = b.num := by
  cases a; cases b; simp
theorem greedy_succ (K : Nat) (T : List Int → Bool) (ids : List Int) {i : Nat} {n : Int} (h : ids[i]? = some n) : greedyL K T (ids.take (i + 1)) = greedyS K T (greedyL K T (ids.take i)) n := by
  rw [greedyL, take_snoc' h, List.foldl_append]; rfl
theorem greedy_len (K : Nat) (T : List Int → Bool) : ∀ (ids : List Int), (greedyL K T ids).length ≤ ids.length := fun ids => by
  have : ∀ (ids O : List Int), (ids.foldl (greedyS K T) O).length ≤ O.length + ids.length := fun ids => by
    induction ids with
    | nil => intro O; simp
    | cons x xs ih =>
      intro O
      have h1 := ih (greedyS K T O x)
      have h2 : (greedyS K T O x).length ≤ O.length + 1 := by
        unfold greedyS; split <;> simp
      simp only [List.foldl_cons, List.length_cons]
      omega
  have := this ids []
  simpa [greedyL] using this
/-- What the loop of Least ends with. -/
theorem least_end {l : List Spec} {a b : Die} {K : Nat} (h : ofE l = 0) (hj : jnL l a b = true) (hne : a ≠ b) (hK : dstF (ofG l) a b = K) :
    LeastS l a b (greedyL K (feasF (ofG l).links (dstF (ofG l) a) b K) ((ofG l).links.map Link.id)) := by
  obtain ⟨ha, hb, hc⟩ := (jn_iff h).1 hj
  have toG : ∀ {d}, EndE (edgesS l) d → EndE (edgesG (ofG l)) d := fun ⟨e, he, hq⟩ => ⟨e, (edges_of h e).2 he, hq⟩
  have hcG : Con (edgesG (ofG l)) a b := hc.mono fun e he => (edges_of h e).2 he
  obtain ⟨f, hf, hf65⟩ := far_ex h (toG ha)
  obtain ⟨f', hf', _⟩ := far_ex h (toG hb)
  have hfb : dstF (ofG l) a b = f b ∧ 0 ≤ f b := by
    rcases dst_is h (toG ha) hf b with ⟨_, h1, h2⟩ | ⟨h1, _⟩
    · exact ⟨h1, h2⟩
    · exact absurd hcG h1
  have hKn : K = (f b).toNat := by rw [hfb.1] at hK; omega
  have h0 : 0 ≤ f' a := (hf'.con a).2 hcG.symm
  obtain ⟨m, _, hm⟩ := dfs_least hf' (links_asc h) h0
  have hgr := greedy_short (F := dstF (ofG l) a) h hf (fun d i hi => by
    have := hf65 b
    rcases dst_is h (toG ha) hf d with ⟨_, h1, h2⟩ | ⟨_, h1, h2⟩
    · rw [h1]
    · rw [h1]; omega) hfb.2 hm
  rw [← hKn] at hgr
  unfold LeastS
  rw [leastE, if_pos h, if_pos hj, if_pos rfl, if_neg hne, hgr]
  exact hm
set_option maxHeartbeats 16000000 in
set_option maxRecDepth 100000 in
theorem LeastR_ok (v : Value) (l : List Spec) (da db : Die) (w : World) (h : Specs w v l) (hl : l.length ≤ 1048576) :
    Calls Tryz.prog 17 #[v, vlD da, vlD db] w fun e w' => ∃ u L, e = .returned (.tuple #[u, .int .i64 (leastE l da db)]) ∧ Ints w' u L ∧ LeastS l da db L ∧ Below w.heap.size w w' := by
  obtain ⟨X0, hX0, HzX0, hbX0, hltX0, hcX0⟩ := boxed w #[.int .i64 da.side, .int .i64 da.num] 24
  obtain ⟨X1, hX1, HzX1, hbX1, hltX1, hcX1⟩ := boxed X0 #[.int .i64 db.side, .int .i64 db.num] 24
  have hX := below_trans hbX0 hbX1
  have h0 := h.below hX
  have a0 := cell_later hbX1 (hcX0 0 _ rfl); have a1 := cell_later hbX1 (hcX0 1 _ rfl)
  have b0 := hcX1 0 _ rfl; have b1 := hcX1 1 _ rfl
  clear hcX0 hcX1
  obtain ⟨A, c, rfl, _⟩ := id h
  obtain ⟨E, hE0⟩ : ∃ E, leastE l da db = E := ⟨_, rfl⟩
  rw [hE0]
  have HE0 := Lib.hid hE0; have Hh := Lib.hid h
  have HO := Lib.hid (Of_ok13 _ l X1 h0 hl)
  clear h h0 hE0
  go_enter Tryz.func17, Tryz.ntmps17
  go_wp2_with fail
  refine HO.out.mono ?_
  rintro e w1 ⟨ug, rfl, hg, hb1⟩
  have a0 := cell_later hb1 a0; have a1 := cell_later hb1 a1; have b0 := cell_later hb1 b0; have b1 := cell_later hb1 b1
  have hw1 := below_trans hX hb1
  obtain ⟨g, hgg⟩ : ∃ g, ofG l = g := ⟨_, rfl⟩
  rw [hgg] at hg
  have hg' := hg
  obtain ⟨v1, v2, v3, rfl, ⟨A1k, c1k, rfl, _⟩, ⟨A2k, c2k, rfl, _⟩, ⟨A3k, c3k, rfl, _⟩⟩ := hg
  obtain ⟨W1, W2, hW1, hW2, HzW2, hkW1, hkW2, hbW2, hltW2⟩ := fresh w1 [.slice none 0 0, .slice none 0 0, .slice none 0 0] [.slice A1k (g).obv.length c1k, .slice A2k (g).rev.length c2k, .slice A3k (g).links.length c3k] 54 rfl
  have hsW2 : ((W1.setCell ⟨w1.heap.size, 0, none⟩ (.slice A1k (g).obv.length c1k)).setCell ⟨w1.heap.size, 1, none⟩ (.slice A2k (g).rev.length c2k)).setCell ⟨w1.heap.size, 2, none⟩ (.slice A3k (g).links.length c3k) = W2 := hW2
  clear hW2
  obtain ⟨⟨z0k, z1k, z2k⟩, f0k, f1k, f2k⟩ := cells3 hkW1
  obtain ⟨⟨s0k, s1k, s2k⟩, _⟩ := cells3 hkW2
  clear hkW1 hkW2
  have a0 := cell_later hbW2 a0; have a1 := cell_later hbW2 a1; have b0 := cell_later hbW2 b0; have b1 := cell_later hbW2 b1
  have hw2 := below_trans hw1 hbW2
  have HgA := Lib.hid (hg'.below hbW2)
  have Hgg := Lib.hid hgg
  clear hX0 hX1 HO hg' hgg
  by_cases hE : ofE l = 0
  case neg =>
    have hd : (ofE l != 0) = true := by simpa using hE
    have Hr : Hid (E = ofE l ∧ LeastS l da db []) := Lib.hid ⟨by rw [← HE0.out, leastE, if_neg hE], by rw [LeastS, leastE, if_neg hE, if_neg hE]⟩
    generalize ofE l = Z at hd Hr
    clear a0 a1 b0 b1 hE
    go_wp2_with fail
    exact bodyPost_ret (v := .tuple #[.slice none 0 0, .int .i64 Z]) (by simp [results, Tryz.results17, go_sem]) rfl ⟨_, [], by rw [Hr.out.1], (own_nil _ _ _ 0 _ : OwnI 0 _ _ _).slOf, Hr.out.2, hw2⟩
  have hd : (ofE l != 0) = false := by simp [hE]
  have hv : graphB g = true := by rw [← Hgg.out]; exact of_valid hE
  have HJ := Joined14_ok _ g hv da db _ HgA.out
  have hjg : jnL l da db = joinB (edgesG g) da db := by rw [jnL, joinG, Hgg.out, hv, Bool.true_and]
  rw [← hjg] at HJ
  have HE := Lib.hid hE; have Hv := Lib.hid hv
  have hll : l.length ≤ 64 := (checkE_zero (ofE_zero hE).1).1
  obtain ⟨J, hJ⟩ : ∃ J, jnL l da db = J := ⟨_, rfl⟩
  rw [hJ] at HJ
  have HJ' := Lib.hid HJ; have HJJ := Lib.hid hJ
  clear hE hv HJ hjg hJ
  cases J
  case false =>
    have Hr : Hid (E = 7 ∧ LeastS l da db []) := Lib.hid (by
      have h7 : leastE l da db = 7 := by rw [leastE, if_pos HE.out, HJJ.out]; rfl
      exact ⟨by rw [← HE0.out, h7], by rw [LeastS, h7]; rfl⟩)
    go_wp2_with fail
    refine HJ'.out.mono ?_
    rintro e w3 ⟨rfl, hb3⟩
    go_wp2_with fail
    exact bodyPost_ret (v := .tuple #[.slice none 0 0, .int .i64 7]) (by simp [results, Tryz.results17, go_sem]) rfl ⟨_, [], by rw [Hr.out.1], (own_nil _ _ _ 0 _ : OwnI 0 _ _ _).slOf, Hr.out.2, below_trans hw2 hb3⟩
  have HEE : Hid (E = 0) := Lib.hid (by rw [← HE0.out, leastE, if_pos HE.out, HJJ.out]; rfl)
  obtain ⟨hea, heb, _⟩ := (jn_iff HE.out).1 HJJ.out
  have Hea := Lib.hid hea; have Heb := Lib.hid heb
  clear hea heb
  by_cases hab : da = db
  case pos =>
    subst hab
    have hOf := fun w9 (hh : Specs w9 (.slice A l.length c) l) => Of09_ok _ l da w9 hh (ofE_zero HE.out).1 (end_valid HE.out Hea.out)
    have HOf := Lib.hid hOf
    clear hOf
    go_wp2_with fail
    refine HJ'.out.mono ?_
    rintro e w3 ⟨rfl, hb3⟩
    have a0 := cell_later hb3 a0; have a1 := cell_later hb3 a1; have b0 := cell_later hb3 b0; have b1 := cell_later hb3 b1
    have hw3 := below_trans hw2 hb3
    clear z0k z1k z2k f0k f1k f2k s0k s1k s2k hsW2 hW1
    go_wp2_with fail
    refine (HOf.out _ (Hh.out.below hw3)).mono ?_
    rintro e w4 ⟨ui, L, rfl, hi4, hids, hb4⟩
    obtain ⟨x, hx1, hx2, hx3⟩ := ids_first HE.out hids Hea.out
    obtain ⟨Ai, ci, rfl, hi5, hi6, hi7⟩ := id hi4
    have ht := hi7.take (m := 1) (by omega)
    rw [← flat_take encI 1 lenI, hx2] at ht
    have hI : Ints w4 (.slice Ai 1 ci) [x.id] := ⟨Ai, ci, rfl, by simp; omega, hi6, ht⟩
    have HI := Lib.hid hI
    have HL : Hid (LeastS l da da [x.id]) := Lib.hid (by
      unfold LeastS
      rw [leastE, if_pos HE.out, HJJ.out, if_pos rfl, if_pos rfl, if_pos rfl]
      exact ⟨x, hx1, rfl⟩)
    have hci : (1 : Int) ≤ (ci : Int) := by omega
    have hci' : 1 ≤ ci := by omega
    clear hi4 hids hx1 hx2 hx3 hi7 ht hI
    go_wp2_with fail
    exact bodyPost_ret (v := .tuple #[.slice Ai 1 ci, .int .i64 0]) (by simp [results, Tryz.results17, go_sem]) rfl ⟨_, _, by rw [HEE.out], HI.out, HL.out, below_trans hw3 hb4⟩
  case neg =>
    have HD : Hid (((da.side = db.side) = False) ∨ (((da.side = db.side) = True) ∧ ((da.num = db.num) = False))) := Lib.hid (dieNe hab)
    have Hab := Lib.hid hab
    clear hab
    go_wp2_with fail
    refine HJ'.out.mono ?_
    rintro e w3 ⟨rfl, hb3⟩
    have a0 := cell_later hb3 a0; have a1 := cell_later hb3 a1; have b0 := cell_later hb3 b0; have b1 := cell_later hb3 b1
    have hw3 := below_trans hw2 hb3
    have s0k := cell_later hb3 s0k; have s1k := cell_later hb3 s1k; have s2k := cell_later hb3 s2k
    clear hsW2 hW1 z0k z1k z2k f0k f1k f2k
    go_upto_region 6 with fail
    go_cut [34] (fun cv wc => w3 = wc ∧ cv = .bool false)
    case first =>
      rcases HD.out with h1 | ⟨h1, h2⟩
      all_goals
        go_wp2_with fail
        go_meet
        exact ⟨rfl, rfl⟩
    case rest =>
    obtain ⟨rfl, rfl⟩ := hcut
    have hG3 := HgA.out.below hb3
    have hea' : EndE (edgesG (ofG l)) da := by obtain ⟨e, he, hq⟩ := Hea.out; exact ⟨e, (edges_of HE.out e).2 he, hq⟩
    have heb' : EndE (edgesG (ofG l)) db := by obtain ⟨e, he, hq⟩ := Heb.out; exact ⟨e, (edges_of HE.out e).2 he, hq⟩
    obtain ⟨f, hf, hf65⟩ := far_ex HE.out hea'
    have hFb : ∀ d, -1000 ≤ dstF g da d ∧ dstF g da d ≤ 1000 := fun d => by
      rw [← Hgg.out]
      have := hf65 d
      rcases dst_is HE.out hea' hf d with ⟨_, h1, h2⟩ | ⟨_, h1, h2⟩ <;> omega
    have hK0 : ∃ kn : Nat, dstF g da db = kn ∧ kn ≤ 100 := by
      rw [← Hgg.out]
      have := hf65 db
      have hc : Con (edgesG (ofG l)) da db := ((jn_iff HE.out).1 HJJ.out).2.2.mono fun e he => (edges_of HE.out e).2 he
      rcases dst_is HE.out hea' hf db with ⟨_, h1, h2⟩ | ⟨h1, _⟩
      · exact ⟨(f db).toNat, by omega, by omega⟩
      · exact absurd hc h1
    obtain ⟨kn, hkn, hk100⟩ := hK0
    have hds0 : db ∈ diesG g := by rw [← Hgg.out]; exact (dies_end (of_valid HE.out) db).2 heb'
    have hnd : (diesG g).Nodup := dies_nodup Hv.out
    have hin := dies_wfF Hv.out
    have hdl : (diesG g).length ≤ 64 := dies_le Hv.out
    have HFb := Lib.hid hFb; have Hkn := Lib.hid hkn
    have Hend : Hid (LeastS l da db (greedyL kn (feasF g.links (dstF g da) db kn) (g.links.map Link.id))) := Lib.hid (by
      have := least_end HE.out HJJ.out Hab.out (K := kn) (by rw [Hgg.out]; exact hkn)
      rw [Hgg.out] at this
      exact this)
    clear hf hf65 hFb hkn hea' heb'
    go_wp2_with fail
    refine (Dies_ok13 _ g _ hG3).mono ?_
    rintro e w4 ⟨ud, rfl, hd4, hb4⟩
    have a0 := cell_later hb4 a0; have a1 := cell_later hb4 a1; have b0 := cell_later hb4 b0; have b1 := cell_later hb4 b1
    have s0k := cell_later hb4 s0k; have s1k := cell_later hb4 s1k; have s2k := cell_later hb4 s2k
    have hw4 := below_trans hw3 hb4
    have hG4 := hG3.below hb4
    obtain ⟨ds, hdse⟩ : ∃ ds, diesG g = ds := ⟨_, rfl⟩
    rw [hdse] at hd4 hds0 hnd hin hdl
    obtain ⟨Ad, cd, rfl, _⟩ := id hd4
    generalize validE g = Zv
    clear hdse hG3
    go_wp2_with fail
    refine (distances_ok _ _ g Hv.out da ds _ hG4 hd4 (by omega)).mono ?_
    rintro e w5 ⟨r, rfl, hr5, hb5⟩
    have a0 := cell_later hb5 a0; have a1 := cell_later hb5 a1; have b0 := cell_later hb5 b0; have b1 := cell_later hb5 b1
    have s0k := cell_later hb5 s0k; have s1k := cell_later hb5 s1k; have s2k := cell_later hb5 s2k
    have hw5 := below_trans hw4 hb5
    have hG5 := hG4.below hb5
    have hd5 := hd4.below hb5
    have hip := plN_at hds0
    have HP := Lib.hid (place51_ok _ ds db w5 hd5)
    obtain ⟨ip, hipe⟩ : ∃ i, plN ds db = i := ⟨_, rfl⟩
    rw [hipe] at hip HP
    obtain ⟨Ar, cr, rfl, _, _, hrc⟩ := id hr5.cells
    have hipl : ip < (ds.map (dstF g da)).length := by rw [List.length_map]; exact lt_of_get hip
    obtain ⟨br, orr, rfl, _, hrb⟩ := hrc ip hipl
    have Hrb := Lib.hid fun w9 (hb : Below w5.heap.size w5 w9) => hrb w9 hb ip kn (by rw [List.getElem?_map, hip, ← Hkn.out]; rfl)
    rw [List.length_map] at hipl ⊢
    have hipl1 : (ip : Int) < (ds.length : Int) := by omega
    have hipl0 : (0 : Int) ≤ (ip : Int) := by omega
    rw [List.length_map] at hr5
    have Hr5 := Lib.hid hr5; have Hd5 := Lib.hid hd5; have HG5 := Lib.hid hG5
    clear hd4 hG4 hr5 hd5 hG5 hrc hrb hip hipe
    go_wp2_with fail
    refine HP.out.mono ?_
    rintro e w6 ⟨rfl, hb6⟩
    have e1 := Hrb.out w6 hb6
    have a0 := cell_later hb6 a0; have a1 := cell_later hb6 a1; have b0 := cell_later hb6 b0; have b1 := cell_later hb6 b1
    have s0k := cell_later hb6 s0k; have s1k := cell_later hb6 s1k; have s2k := cell_later hb6 s2k
    have hw6 := below_trans hw5 hb6
    go_wp2_with fail
    clear e1
    obtain ⟨T, hT⟩ : ∃ T, feasF g.links (dstF g da) db kn = T := ⟨_, rfl⟩
    rw [hT] at Hend
    have HT := Lib.hid hT
    obtain ⟨_, _, _, e8, _, _, hLk⟩ := HG5.out.below hb6
    cases e8
    obtain ⟨_, _, e9, _, _, hkc⟩ := hLk.cells
    cases e9
    have Hkc := Lib.hid hkc
    obtain ⟨iI, hiI, hzI, hkI, hbI⟩ := info_parts infoI
    have hgl : g.links.length ≤ 64 := ((graphB_iff _).1 Hv.out).ll
    have Hc6 := Lib.hid (And.intro (And.intro s0k (And.intro s1k s2k)) (And.intro b0 b1))
    have Hnd := Lib.hid hnd; have Hin := Lib.hid hin; have Hds0 := Lib.hid hds0; have Hdl := Lib.hid hdl
    clear a0 a1 b0 b1 s0k s1k s2k hkc hT hLk hnd hin hds0 hdl
    go_loopw [16, 17] (fun u iv wr => ∃ i : Nat, i ≤ g.links.length ∧ iv = .int .i64 i ∧ Ints wr u (greedyL kn T ((g.links.map Link.id).take i)) ∧ Below w6.heap.size w6 wr) (fun _ iv _ => g.links.length - (intOf iv).toNat)
    case atStart => exact ⟨0, Nat.zero_le _, rfl, (own_nil _ _ _ 0 _ : OwnI 0 _ _ _).slOf, Below.refl _ _⟩
    case round =>
      obtain ⟨i, hi, rfl, hO, hbr⟩ := hrel
      have hwr := below_trans hw6 hbr
      have s0k := cell_later hbr Hc6.out.1.1; have s1k := cell_later hbr Hc6.out.1.2.1; have s2k := cell_later hbr Hc6.out.1.2.2
      by_cases hlt : i < g.links.length
      case neg =>
        have Hres : Hid (LeastS l da db (greedyL kn T ((g.links.map Link.id).take i))) := Lib.hid (by rw [List.take_of_length_le (by rw [List.length_map]; omega)]; exact Hend.out)
        obtain ⟨O, hOe⟩ : ∃ O, greedyL kn T ((g.links.map Link.id).take i) = O := ⟨_, rfl⟩
        rw [hOe] at hO Hres
        obtain ⟨Au, cu, rfl, _⟩ := id hO
        have HO := Lib.hid hO
        clear hO hOe
        go_wp2_with fail
        exact bodyPost_ret (v := .tuple #[.slice Au O.length cu, .int .i64 0]) (by simp [results, Tryz.results17, go_sem]) rfl ⟨_, _, by rw [HEE.out], HO.out, Hres.out, hwr⟩
      obtain ⟨x, hx⟩ := get_of_lt hlt
      obtain ⟨bl, ol, rfl, _, hcb⟩ := Hkc.out i hlt
      obtain ⟨y0, y1, y2⟩ := hcb wr hbr i x hx
      have hsucc := greedy_succ kn T (g.links.map Link.id) (i := i) (n := x.id) (by rw [List.getElem?_map, hx]; rfl)
      have hOl : (greedyL kn T ((g.links.map Link.id).take i)).length ≤ 64 := Nat.le_trans (greedy_len kn T _) (by rw [List.length_take, List.length_map]; omega)
      obtain ⟨O, hOe⟩ : ∃ O, greedyL kn T ((g.links.map Link.id).take i) = O := ⟨_, rfl⟩
      rw [hOe] at hO hsucc hOl
      have Hsucc := Lib.hid hsucc
      obtain ⟨Au, cu, rfl, _⟩ := id hO
      have HO := Lib.hid hO
      have hi1 : (i : Int) < (g.links.length : Int) := by omega
      have hi0 : (0 : Int) ≤ (i : Int) := by omega
      clear hO hOe hsucc hcb hx
      go_upto_region 16 with fail
      go_cut [18] (fun s wc => Ints wc s (O ++ [x.id]) ∧ Below wr.heap.size wr wc)
      case first =>
        have hba : Below wr.heap.size wr wr.drew := (Below.refl _ _).drew
        obtain ⟨wa, hwa⟩ : ∃ W, wr.drew = W := ⟨_, rfl⟩
        rw [hwa] at hba
        have HslO := Lib.hid (SlOf.sl (HO.out.below hba))
        have HSt := Lib.hid fun (w9 : World) (hb : Below wa.heap.size wa w9) => (show (fun w' : World => Below wa.heap.size wa w' ∧ w'.cell? ⟨w1.heap.size, 2, none⟩ = some (.slice (some ⟨bl, ol, none⟩) g.links.length c3k) ∧ w'.cell? ⟨bl, ol + i * 3, none⟩ = some (.int .i64 x.id)) w9 from ⟨hb, cell_later hb (cell_later hba s2k), cell_later hb (cell_later hba y0)⟩)
        have hHeld := HSt.out wa (Below.refl _ _)
        have bwa : Below wa.heap.size wa wa := Below.refl _ _
        refine wp_region_S 11 (fun w' : World => Below wa.heap.size wa w' ∧ w'.cell? ⟨w1.heap.size, 2, none⟩ = some (.slice (some ⟨bl, ol, none⟩) g.links.length c3k) ∧ w'.cell? ⟨bl, ol + i * 3, none⟩ = some (.int .i64 x.id)) (by kernel_rfl) (by decide) ?_
        rw [hwa]
        clear hwa s0k s1k s2k y0 y1 y2
        refine wpAnyS_takeD 1 (some 66) (.slice Au O.length cu) (by rfl) (by rfl) (by kernel_rfl) (by exact fun _ _ _ h => h) (by rfl) (fun w' hS => by go_simp) hHeld ?_
        simp only [Act.put, List.setIfInBounds_toArray, List.set_cons_succ, List.set_cons_zero]
        refine wpAnyS_takeD 3 (some 68) (.pointer (some ⟨w1.heap.size, 2, none⟩)) (by rfl) (by rfl) (by kernel_rfl) (by exact fun _ _ _ h => h) (by rfl) (fun w' hS => by go_simp) hHeld ?_
        simp only [Act.put, List.setIfInBounds_toArray, List.set_cons_succ, List.set_cons_zero]
        refine wpAnyS_takeD 4 (some 69) (.slice (some ⟨bl, ol, none⟩) g.links.length c3k) (by rfl) (by rfl) (by kernel_rfl) (by exact fun _ _ _ h => h) (by rfl) (fun w' hS => by (obtain ⟨_, x0, x1⟩ := hS; go_simp)) hHeld ?_
        simp only [Act.put, List.setIfInBounds_toArray, List.set_cons_succ, List.set_cons_zero]
        refine wpAnyS_takeD 5 (some 70) (.int .i64 (i : Int)) (by rfl) (by rfl) (by kernel_rfl) (by exact fun _ _ _ h => h) (by rfl) (fun w' hS => by go_simp) hHeld ?_
        simp only [Act.put, List.setIfInBounds_toArray, List.set_cons_succ, List.set_cons_zero]
        refine wpAnyS_takeD 6 (some 71) (.pointer (some ⟨bl, ol + i * 3, none⟩)) (by rfl) (by rfl) (by kernel_rfl) (by exact fun _ _ _ h => h) (by rfl) (fun w' hS => by go_simp) hHeld ?_
        simp only [Act.put, List.setIfInBounds_toArray, List.set_cons_succ, List.set_cons_zero]
        refine wpAnyS_takeD 7 (some 72) (.pointer (some ⟨bl, ol + i * 3, none⟩)) (by rfl) (by rfl) (by kernel_rfl) (by exact fun _ _ _ h => h) (by rfl) (fun w' hS => by go_simp) hHeld ?_
        simp only [Act.put, List.setIfInBounds_toArray, List.set_cons_succ, List.set_cons_zero]
        refine wpAnyS_takeD 8 (some 73) (.int .i64 x.id) (by rfl) (by rfl) (by kernel_rfl) (by exact fun _ _ _ h => h) (by rfl) (fun w' hS => by (obtain ⟨_, x0, x1⟩ := hS; go_simp)) hHeld ?_
        simp only [Act.put, List.setIfInBounds_toArray, List.set_cons_succ, List.set_cons_zero]
        clear hHeld
        refine wpAnyS_two 0 9 (by kernel_rfl) (by rfl) (by rfl) (by decide) (by decide) (fun K hK => ?_) (fun K hK => ?_)
        · have HK := Lib.hid hK
          clear hK
          rw [if_pos (by rfl)]
          go_simp
          obtain ⟨p1, hp1⟩ : ∃ z, World.alloc wa (.cells #[] 3) = z := ⟨_, rfl⟩
          have sp1 : Below (wa).heap.size wa p1 := by rw [← hp1]; exact (Below.refl _ _).alloc (Nat.le_refl _) _
          have bp1 : Below wa.heap.size wa p1 := below_trans bwa sp1
          have ltp1 : (wa).heap.size < (p1).heap.size := by rw [← hp1]; simp
          have op1 : OwnI wa.heap.size p1 (.slice (some ⟨(wa).heap.size, 0, none⟩) 0 0) [] := own_empty (by rw [← hp1]; exact heap_alloc_new _ _) bwa.size
          rw [hp1]
          refine HK.out _ _ (HSt.out _ bp1) ?_
          clear HK hp1
          refine wpAnyS_two 2 9 (by kernel_rfl) (by rfl) (by rfl) (by decide) (by decide) (fun K hK => ?_) (fun K hK => ?_)
          · have HK := Lib.hid hK
            clear hK
            refine step_append_sl (by rfl) (.tmp 65) (.tmp 66) _ (by rfl) iI _ 8 Tryz.underlying26 hiI hzI hkI hbI (by rfl) (by decide) oneI (by rfl) (op1) _ _ _ O (by rfl) (by rfl) (HslO.out.below bp1) (by simp; omega) (by simp; omega) bp1.size ?_
            intro vp2 p2 op2 gp2 atp2
            have bp2 : Below wa.heap.size wa p2 := bp1.grown gp2 bp1.size (fun j e => ((op1).lt j e).1)
            refine HK.out _ _ (HSt.out _ bp2) ?_
            clear HK
            refine wpAnyS_one 9 (by kernel_rfl) (by rfl) (by decide) (fun K hK => ?_)
            have HK := Lib.hid hK; clear hK
            rw [if_pos (by rfl)]
            go_simp
            obtain ⟨p3, hp3⟩ : ∃ z, World.alloc p2 (.cells #[.int .i64 x.id] 3) = z := ⟨_, rfl⟩
            have sp3 : Below (p2).heap.size p2 p3 := by rw [← hp3]; exact (Below.refl _ _).alloc (Nat.le_refl _) _
            have bp3 : Below wa.heap.size wa p3 := below_trans bp2 sp3
            have rp3 : (p3).heap[(p2).heap.size]? = some (.cells (encI x.id).toArray 3 (0, 0)) := by rw [← hp3]; exact heap_alloc_new _ _
            rw [hp3]
            refine HK.out _ _ (HSt.out _ bp3) ?_
            clear HK hp3
            have o3 := op2.below sp3
            have i3 : Ints p3 (.slice (some ⟨p2.heap.size, 0, none⟩) 1 1) [x.id] := (own_one (B := 0) (lenI x.id) rp3 (Nat.zero_le _)).slOf
            refine wpAnyS_one 10 (by kernel_rfl) (by rfl) (by decide) (fun K hK => ?_)
            have HK := Lib.hid hK; clear hK
            refine step_append_sl (by rfl) (.tmp 67) (.tmp 74) _ (by rfl) iI _ 8 Tryz.underlying26 hiI hzI hkI hbI (by rfl) (by decide) oneI (by rfl) (o3) _ _ _ [x.id] (by rfl) (by rfl) (SlOf.sl (i3)) (by simp; omega) (by simp; omega) bp3.size ?_
            intro vp4 p4 op4 gp4 atp4
            have bp4 : Below wa.heap.size wa p4 := bp3.grown gp4 bp3.size (fun j e => ((o3).lt j e).1)
            refine HK.out _ _ (HSt.out _ bp4) ?_
            clear HK
            refine (show tailOf _ _ _ _ _ _ _ _ from ⟨by kernel_rfl, ?_⟩)
            simp only [List.drop_succ_cons, List.drop_zero]
            have hrp4 : Ints p4 vp4 (O ++ [x.id]) := op4.slOf
            have Hrp4 := Lib.hid hrp4
            obtain ⟨Ar9, cr9, rfl, _⟩ := id hrp4
            have Hbp4 := Lib.hid (below_trans hba bp4)
            clear hrp4 op4 gp4 atp4
            go_wp2_with fail
            go_meet
            exact ⟨by have q := Hrp4.out; rw [List.length_append] at q; exact q, Hbp4.out⟩
          · have HK := Lib.hid hK
            clear hK
            rw [if_pos (by rfl)]
            go_simp
            obtain ⟨p2, hp2⟩ : ∃ z, World.alloc p1 (.cells #[.int .i64 x.id] 3) = z := ⟨_, rfl⟩
            have sp2 : Below (p1).heap.size p1 p2 := by rw [← hp2]; exact (Below.refl _ _).alloc (Nat.le_refl _) _
            have bp2 : Below wa.heap.size wa p2 := below_trans bp1 sp2
            have rp2 : (p2).heap[(p1).heap.size]? = some (.cells (encI x.id).toArray 3 (0, 0)) := by rw [← hp2]; exact heap_alloc_new _ _
            rw [hp2]
            refine HK.out _ _ (HSt.out _ bp2) ?_
            clear HK hp2
            have o2 := op1.below sp2
            refine wpAnyS_one 2 (by kernel_rfl) (by rfl) (by decide) (fun K hK => ?_)
            have HK := Lib.hid hK; clear hK
            refine step_append_sl (by rfl) (.tmp 65) (.tmp 66) _ (by rfl) iI _ 8 Tryz.underlying26 hiI hzI hkI hbI (by rfl) (by decide) oneI (by rfl) (o2) _ _ _ O (by rfl) (by rfl) (HslO.out.below bp2) (by simp; omega) (by simp; omega) bp2.size ?_
            intro vp3 p3 op3 gp3 atp3
            have bp3 : Below wa.heap.size wa p3 := bp2.grown gp3 bp2.size (fun j e => ((o2).lt j e).1)
            refine HK.out _ _ (HSt.out _ bp3) ?_
            clear HK
            have rq : p3.heap[p1.heap.size]? = some (.cells (encI x.id).toArray 3 (0, 0)) := (gp3.block _ (heap_lt rp2) (fun e => by have e' : p1.heap.size = wa.heap.size := Option.some.inj e; omega)).trans rp2
            have i3 : Ints p3 (.slice (some ⟨p1.heap.size, 0, none⟩) 1 1) [x.id] := (own_one (B := 0) (lenI x.id) rq (Nat.zero_le _)).slOf
            refine wpAnyS_one 10 (by kernel_rfl) (by rfl) (by decide) (fun K hK => ?_)
            have HK := Lib.hid hK; clear hK
            refine step_append_sl (by rfl) (.tmp 67) (.tmp 74) _ (by rfl) iI _ 8 Tryz.underlying26 hiI hzI hkI hbI (by rfl) (by decide) oneI (by rfl) (op3) _ _ _ [x.id] (by rfl) (by rfl) (SlOf.sl (i3)) (by simp; omega) (by simp; omega) bp3.size ?_
            intro vp4 p4 op4 gp4 atp4
            have bp4 : Below wa.heap.size wa p4 := bp3.grown gp4 bp3.size (fun j e => ((op3).lt j e).1)
            refine HK.out _ _ (HSt.out _ bp4) ?_
            clear HK
            refine (show tailOf _ _ _ _ _ _ _ _ from ⟨by kernel_rfl, ?_⟩)
            simp only [List.drop_succ_cons, List.drop_zero]
            have hrp4 : Ints p4 vp4 (O ++ [x.id]) := op4.slOf
            have Hrp4 := Lib.hid hrp4
            obtain ⟨Ar9, cr9, rfl, _⟩ := id hrp4
            have Hbp4 := Lib.hid (below_trans hba bp4)
            clear hrp4 op4 gp4 atp4
            go_wp2_with fail
            go_meet
            exact ⟨by have q := Hrp4.out; rw [List.length_append] at q; exact q, Hbp4.out⟩
        · have HK := Lib.hid hK
          clear hK
          rw [if_pos (by rfl)]
          go_simp
          obtain ⟨p1, hp1⟩ : ∃ z, World.alloc wa (.cells #[.int .i64 x.id] 3) = z := ⟨_, rfl⟩
          have sp1 : Below (wa).heap.size wa p1 := by rw [← hp1]; exact (Below.refl _ _).alloc (Nat.le_refl _) _
          have bp1 : Below wa.heap.size wa p1 := below_trans bwa sp1
          have rp1 : (p1).heap[(wa).heap.size]? = some (.cells (encI x.id).toArray 3 (0, 0)) := by rw [← hp1]; exact heap_alloc_new _ _
          rw [hp1]
          refine HK.out _ _ (HSt.out _ bp1) ?_
          clear HK hp1
          refine wpAnyS_one 0 (by kernel_rfl) (by rfl) (by decide) (fun K hK => ?_)
          have HK := Lib.hid hK; clear hK
          rw [if_pos (by rfl)]
          go_simp
          obtain ⟨p2, hp2⟩ : ∃ z, World.alloc p1 (.cells #[] 3) = z := ⟨_, rfl⟩
          have sp2 : Below (p1).heap.size p1 p2 := by rw [← hp2]; exact (Below.refl _ _).alloc (Nat.le_refl _) _
          have bp2 : Below wa.heap.size wa p2 := below_trans bp1 sp2
          have ltp2 : (p1).heap.size < (p2).heap.size := by rw [← hp2]; simp
          have op2 : OwnI wa.heap.size p2 (.slice (some ⟨(p1).heap.size, 0, none⟩) 0 0) [] := own_empty (by rw [← hp2]; exact heap_alloc_new _ _) bp1.size
          rw [hp2]
          refine HK.out _ _ (HSt.out _ bp2) ?_
          clear HK hp2
          have rp1' := heap_below rp1 sp2 (heap_lt rp1)
          refine wpAnyS_one 2 (by kernel_rfl) (by rfl) (by decide) (fun K hK => ?_)
          have HK := Lib.hid hK; clear hK
          refine step_append_sl (by rfl) (.tmp 65) (.tmp 66) _ (by rfl) iI _ 8 Tryz.underlying26 hiI hzI hkI hbI (by rfl) (by decide) oneI (by rfl) (op2) _ _ _ O (by rfl) (by rfl) (HslO.out.below bp2) (by simp; omega) (by simp; omega) bp2.size ?_
          intro vp3 p3 op3 gp3 atp3
          have bp3 : Below wa.heap.size wa p3 := bp2.grown gp3 bp2.size (fun j e => ((op2).lt j e).1)
          refine HK.out _ _ (HSt.out _ bp3) ?_
          clear HK
          have rq : p3.heap[wa.heap.size]? = some (.cells (encI x.id).toArray 3 (0, 0)) := (gp3.block _ (heap_lt rp1') (fun e => by have e' : wa.heap.size = p1.heap.size := Option.some.inj e; have := heap_lt rp1; omega)).trans rp1'
          have i3 : Ints p3 (.slice (some ⟨wa.heap.size, 0, none⟩) 1 1) [x.id] := (own_one (B := 0) (lenI x.id) rq (Nat.zero_le _)).slOf
          refine wpAnyS_one 10 (by kernel_rfl) (by rfl) (by decide) (fun K hK => ?_)
          have HK := Lib.hid hK; clear hK
          refine step_append_sl (by rfl) (.tmp 67) (.tmp 74) _ (by rfl) iI _ 8 Tryz.underlying26 hiI hzI hkI hbI (by rfl) (by decide) oneI (by rfl) (op3) _ _ _ [x.id] (by rfl) (by rfl) (SlOf.sl (i3)) (by simp; omega) (by simp; omega) bp3.size ?_
          intro vp4 p4 op4 gp4 atp4
          have bp4 : Below wa.heap.size wa p4 := bp3.grown gp4 bp3.size (fun j e => ((op3).lt j e).1)
          refine HK.out _ _ (HSt.out _ bp4) ?_
          clear HK
          refine (show tailOf _ _ _ _ _ _ _ _ from ⟨by kernel_rfl, ?_⟩)
          simp only [List.drop_succ_cons, List.drop_zero]
          have hrp4 : Ints p4 vp4 (O ++ [x.id]) := op4.slOf
          have Hrp4 := Lib.hid hrp4
          obtain ⟨Ar9, cr9, rfl, _⟩ := id hrp4
          have Hbp4 := Lib.hid (below_trans hba bp4)
          clear hrp4 op4 gp4 atp4
          go_wp2_with fail
          go_meet
          exact ⟨by have q := Hrp4.out; rw [List.length_append] at q; exact q, Hbp4.out⟩
      case rest =>
        obtain ⟨hM, hbc⟩ := hcut
        obtain ⟨M, hMe⟩ : ∃ M, O ++ [x.id] = M := ⟨_, rfl⟩
        rw [hMe] at hM
        obtain ⟨As, cs, rfl, _⟩ := id hM
        have s0k := cell_later hbc s0k; have s1k := cell_later hbc s1k; have s2k := cell_later hbc s2k
        have hbrc := below_trans hbr hbc
        have hwc := below_trans hw6 hbrc
        have b0 := cell_later hbrc Hc6.out.2.1; have b1 := cell_later hbrc Hc6.out.2.2
        have HM := Lib.hid hM
        clear hM y0 y1 y2
        by_cases c1 : O.length < kn
        case neg =>
          have t : decide ((O.length : Int) < (kn : Int)) = false := by simp; omega
          have t2 : (kn : Int) ≤ (O.length : Int) := by omega
          have Hs2 : Hid (greedyL kn T ((g.links.map Link.id).take (i + 1)) = O) := Lib.hid (by rw [Hsucc.out, greedyS, decide_eq_false c1]; rfl)
          clear c1 hMe
          go_wp2_with fail
          refine ⟨?rel, ?measure⟩
          case rel => exact ⟨i + 1, by omega, by go_num, by rw [Hs2.out]; exact HO.out.below hbc, hbrc⟩
          case measure => first | (simp [intOf]; done) | (simp [intOf]; omega)
        have t : decide ((O.length : Int) < (kn : Int)) = true := by simp; omega
        have t2 : (O.length : Int) < (kn : Int) := by omega
        have hb5c := below_trans hb6 hbrc
        have HFe := Lib.hid (feasible_ok _ _ _ _ g ds (dstF g da) db kn M _ Hv.out (HG5.out.below hb5c) (Hd5.out.below hb5c) (Hr5.out.below hb5c) HM.out Hnd.out Hin.out Hds0.out (by omega) HFb.out (by have := Hdl.out; omega))
        rw [HT.out] at HFe
        have hgs : greedyL kn T ((g.links.map Link.id).take (i + 1)) = if T M = true then M else O := by rw [Hsucc.out, greedyS, decide_eq_true c1, Bool.true_and, hMe]
        obtain ⟨D, hD⟩ : ∃ D, T M = D := ⟨_, rfl⟩
        rw [hD] at hgs HFe
        have Hgs := Lib.hid hgs
        clear hgs hD c1 hMe
        cases D
        · have Hs2 : Hid (greedyL kn T ((g.links.map Link.id).take (i + 1)) = O) := Lib.hid (by rw [Hgs.out]; rfl)
          go_wp2_with fail
          refine HFe.out.mono ?_
          rintro e w8 ⟨rfl, hb8⟩
          have hbr8 := below_trans hbrc hb8
          go_wp2_with fail
          refine ⟨?rel, ?measure⟩
          case rel => exact ⟨i + 1, by omega, by go_num, by rw [Hs2.out]; exact (HO.out.below hbc).below hb8, hbr8⟩
          case measure => first | (simp [intOf]; done) | (simp [intOf]; omega)
        · have Hs2 : Hid (greedyL kn T ((g.links.map Link.id).take (i + 1)) = M) := Lib.hid (by rw [Hgs.out]; rfl)
          go_wp2_with fail
          refine HFe.out.mono ?_
          rintro e w8 ⟨rfl, hb8⟩
          have hbr8 := below_trans hbrc hb8
          go_wp2_with fail
          refine ⟨?rel, ?measure⟩
          case rel => exact ⟨i + 1, by omega, by go_num, by rw [Hs2.out]; exact HM.out.below hb8, hbr8⟩
          case measure => first | (simp [intOf]; done) | (simp [intOf]; omega)
end Go.Proofs.YtlmjncncmgmehaaGreat
