/- cover.Cover. Condition: the argument reads as a graph of wellformed numbers. -/
import Derived.Test.YtnaoiochfdipiaaReachP
import Derived.Test.YtnaoiochfdipiaaCovE
import Derived.Test.YtnaoiochfdipiaaCovG
import Derived.Test.YtnaoiochfdipiaaTail
namespace Go.Proofs.Ytnaoiochfdipiaa
open Go.RowKit Go.Shelf Go.Maps

theorem filter_snoc {α : Type} {p : α → Bool} {l : List α} {k : Nat} {x : α} (h : l[k]? = some x) : (l.take (k + 1)).filter p = (l.take k).filter p ++ (if p x = true then [x] else []) := by
  rw [take_snoc' h, List.filter_append]
  cases hp : p x <;> simp [hp]
theorem fresh_at {l : List Int} (hn : l.Nodup) {k : Nat} {x : Int} (h : l[k]? = some x) : x ∉ l.take k := by
  intro hm
  have h1 : (l.take k ++ l.drop k).Nodup := by rw [List.take_append_drop]; exact hn
  rw [List.nodup_append] at h1
  exact h1.2.2 x hm x (by rw [drop_at h]; simp) rfl
theorem Touch.trans_own {w w' w'' : World} {S : List Nat} {row : Option Nat} (h : Touch w w' S) (k : w'.grownBy w'' row) (hr : ∀ j, row = some j → w.heap.size ≤ j) : Touch w w'' S :=
  ⟨k.os.trans h.os, k.tape.trans h.tape, k.output.trans h.output, Nat.le_trans h.size k.size, fun i hi hn => (k.block i (Nat.lt_of_lt_of_le hi h.size) fun e => by have := hr i e.symm; omega).trans (h.block i hi hn)⟩
/-- What Cover returns. -/
def CoverAt (g : Graph) (ys : List Die) : Prop := (graphB g = false → ys = []) ∧ (graphB g = true → ∃ F : Int → Bool, Closed (nbr g) (gm g).rev (fun r => F r = true) ∧ (∀ o ∈ g.obv, lookM (gm g).obv o = none → ∀ r ∈ nbr g o, F r = true) ∧ ys = coverL g (gm g).obv F)
set_option maxHeartbeats 16000000 in
set_option maxRecDepth 100000 in
theorem Cover_ok (g : Graph) (hwf : WfG g) (v : Value) (w : World) (h : GraphAt w v g) :
    Calls Try.prog 24 #[v] w fun e w' => ∃ u ys, e = .returned (.tuple #[u, .int .i64 (validE g)]) ∧ Dies w' u ys ∧ CoverAt g ys ∧ Below w.heap.size w w' := by
  have h0 := h
  obtain ⟨v1, v2, v3, rfl, ho, hr, hl⟩ := h
  obtain ⟨A1, c1, rfl, _, _, hco⟩ := ho.cells
  obtain ⟨A2, c2, rfl, _, _, hcr⟩ := hr.cells
  obtain ⟨A3, c3, rfl, _, _, _⟩ := hl.cells
  obtain ⟨W, hW, Hz, hwW, hlt0, hc0⟩ := boxed w #[.slice A1 g.obv.length c1, .slice A2 g.rev.length c2, .slice A3 g.links.length c3] 25
  have a0 := hc0 0 _ rfl; have a1 := hc0 1 _ rfl; have a2 := hc0 2 _ rfl
  clear hc0 ho hr hl
  have hmm := @run_makeMap Try.prog
  go_enter Try.func24, Try.ntmps24
  go_wp2_with fail
  refine (Valid_ok _ _ _ (h0.below hwW)).mono ?_
  rintro e w1 ⟨rfl, hb1⟩
  clear hW
  have b0 := cell_later hb1 a0; have b1 := cell_later hb1 a1; have b2 := cell_later hb1 a2
  have hw1 := below_trans hwW hb1
  clear a0 a1 a2
  cases hg : graphB g
  · go_wp2_with fail
    go_ret2
    exact ⟨_, [], ret_mat (by simp [validE, hg]), (own_nil encD 2 46 0 _).slOf, ⟨fun _ => rfl, fun e => by rw [hg] at e; cases e⟩, hw1⟩
  have hv : Hid (validE g = 0) := Lib.hid (by simp [validE, hg])
  have HG := Lib.hid hg
  have hg' := hg
  clear hg
  go_wp2_with fail
  refine (greatest_ok g HG.out hwf _ w1 (h0.below hw1)).mono ?_
  rintro e w2 ⟨bo, br, rfl, hS, _, _, hb2⟩
  have hw2 := below_trans hw1 hb2
  have a0 := cell_later hb2 b0; have a1 := cell_later hb2 b1; have a2 := cell_later hb2 b2
  clear b0 b1 b2
  obtain ⟨w3, hW3, Hz3, hb3, hlt3, hc3⟩ := boxed w2 #[.map (some bo), .map (some br)] 62
  have m0' := hc3 0 _ rfl; have m1' := hc3 1 _ rfl
  obtain ⟨w4, hW4⟩ : ∃ W, w3.alloc (.map #[] 0) = W := ⟨_, rfl⟩
  obtain ⟨w5, hW5⟩ : ∃ W, w4.alloc (.map #[] 0) = W := ⟨_, rfl⟩
  have hs4 : SetI w4 w3.heap.size [] := by rw [← hW4]; exact setI_made w3
  have hs5 : SetI w5 w4.heap.size [] := by rw [← hW5]; exact setI_made w4
  have hb4 : Below w3.heap.size w3 w4 := by rw [← hW4]; exact (Below.refl _ _).alloc (Nat.le_refl _) _
  have hb5 : Below w4.heap.size w4 w5 := by rw [← hW5]; exact (Below.refl _ _).alloc (Nat.le_refl _) _
  have hz4 : Hid (w4.heap.size = w3.heap.size + 1) := by rw [← hW4]; simp [Hid]
  have hb25 := below_trans hb3 (below_trans hb4 hb5)
  have p0 := cell_later hb25 a0; have p1 := cell_later hb25 a1; have p2 := cell_later hb25 a2
  have hb45 := below_trans hb4 hb5
  have n0 := cell_later hb45 m0'; have n1 := cell_later hb45 m1'
  have hw5 := below_trans hw2 hb25
  have hS5 := hS.below hb25
  have hO5 := hs4.below hb5
  have hne : Hid (w3.heap.size < w4.heap.size ∧ bo < w3.heap.size ∧ br < w3.heap.size) := Lib.hid ⟨by have := hz4.out; omega, by have := hS.o.lt; omega, by have := hS.r.lt; omega⟩
  have hno := nocell_pair hO5 hs5
  clear a0 a1 a2 m0' m1'
  obtain ⟨iI, hiI, hzI, hkI, hbI⟩ := info_parts infoI
  have hok := (graphB_iff g).1 HG.out
  have hlo := hok.lo; have hlr := hok.lr
  have Hnd : Hid (g.obv.Nodup) := Lib.hid ((ascB_asc hok.ao).imp fun h e => by omega)
  clear hok
  go_wp2_with fail
  clear hmm hW3 hW4 hW5
  go_loopw [7, 33] (fun q i wr => ∃ k : Nat, k ≤ g.obv.length ∧ i = .int .i64 k ∧ SetI wr w3.heap.size ((g.obv.take k).filter fun o => (lookM (gm g).obv o).isNone) ∧ OwnI w5.heap.size wr q ((g.obv.take k).filter fun o => (lookM (gm g).obv o).isNone) ∧ Touch w5 wr [w3.heap.size, w4.heap.size] ∧ wr.heap[w4.heap.size]? = w5.heap[w4.heap.size]?) (fun _ i _ => g.obv.length - (intOf i).toNat)
  case atStart => exact ⟨0, Nat.zero_le _, rfl, hO5, own_nil _ _ _ _ _, Touch.refl _ _, rfl⟩
  case round =>
    obtain ⟨k, hk, rfl, hO, hQ, hT, hR⟩ := hrel
    have hSr := hS5.touch hT (by have := hne.out; simp; omega) (by have := hne.out; simp; omega)
    have f0 := cell_touch hT hno n0; have f1 := cell_touch hT hno n1
    have hTz := hT.size
    have hz5 : w4.heap.size < w5.heap.size := hs5.lt
    by_cases hlt : k < g.obv.length
    · obtain ⟨b, of', rfl, hbb, hcb⟩ := hco k hlt
      obtain ⟨o, ho⟩ := get_of_lt hlt
      have e0 := cell_touch hT hno (hcb w5 hw5 k o ho)
      have hwfo := hwf.o o (List.mem_of_getElem? ho)
      have k1 := hSr.o.look_ok hwfo
      have hsn := filter_snoc (p := fun o => (lookM (gm g).obv o).isNone) ho
      have hfr := fresh_at Hnd.out ho
      clear hcb ho
      cases hl : lookM (gm g).obv o with
      | some x =>
        rw [hl] at k1
        rw [hl, if_neg (by simp), List.append_nil] at hsn
        have Hsn := Lib.hid hsn
        clear hsn hl hfr
        have HO := Lib.hid hO; have HQ := Lib.hid hQ; have HT := Lib.hid hT; have HR := Lib.hid hR
        clear hO hQ hT hR hSr
        go_wp2_with fail
        refine ⟨?rel, ?measure⟩
        case rel => exact ⟨k + 1, by omega, by go_num, by rw [Hsn.out]; exact HO.out, by rw [Hsn.out]; exact HQ.out, HT.out, HR.out⟩
        case measure => first | (simp [intOf]; done) | (simp [intOf]; omega)
      | none =>
        rw [hl] at k1
        rw [hl, if_pos (by rfl)] at hsn
        have hlen : ((g.obv.take k).filter fun o => (lookM (gm g).obv o).isNone).length ≤ 32 := Nat.le_trans (List.length_filter_le _ _) (by simp; omega)
        obtain ⟨w6, u6, hO6, hg6⟩ := hO.put hwfo (fun hm => hfr (List.mem_filter.1 hm).1) (by simp only [maxLen]; omega)
        have hQ6 := Own.kept hQ hg6 (.inr fun e => by have := (hQ.lt _ e).1; have := hne.out; omega)
        have hT6 := hT.trans (grown_touch hg6 (by simp))
        have hz6 : w5.heap.size ≤ w6.heap.size := hT6.size
        have hR6 : w6.heap[w4.heap.size]? = w5.heap[w4.heap.size]? := (hg6.block _ (by omega) (fun e => by have := hne.out; have := Option.some.inj e; omega)).trans hR
        have Hsn := Lib.hid hsn; have HO6 := Lib.hid hO6; have HT6 := Lib.hid hT6; have HR6 := Lib.hid hR6; have Hl := Lib.hid hlen
        clear hsn hl hfr hO hQ hT hR hSr hO6 hT6 hR6 hg6 hlen
        go_wp2_with (at_builtin; refine wpList_append1 (enc := encI) (size := 1) (B := w5.heap.size) rfl (.tmp 48) (.tmp 50) _ rfl 3 iI _ 8 Try.underlying22 hiI hzI hkI hbI rfl (by decide) rfl hQ6 o _ rfl lenI oneI _ rfl rfl (by have := Hl.out; omega) (by have := Hl.out; omega) hz6 ?_; intro v' w7 hown' hgrow hat)
        have hnb : ∀ c, c < w5.heap.size → some c ≠ Value.ownBlock _ := fun c hc e => by have := (hQ6.lt c e.symm).1; omega
        have hT7 : Touch w5 w7 [w3.heap.size, w4.heap.size] := HT6.out.trans_own hgrow (fun j e => (hQ6.lt j e).1)
        refine ⟨?rel, ?measure⟩
        case rel => exact ⟨k + 1, by omega, by go_num, by rw [Hsn.out]; exact HO6.out.kept hgrow (hnb _ (by have := hne.out; omega)), by rw [Hsn.out]; exact hown', hT7, (hgrow.block _ (by omega) (hnb _ hz5)).trans HR6.out⟩
        case measure => first | (simp [intOf]; done) | (simp [intOf]; omega)
    · have e1 : g.obv.take k = g.obv := List.take_of_length_le (by omega)
      rw [e1] at hO hQ
      obtain ⟨F, hF, hfr⟩ := (gm_great HG.out).cut
      have hM := (gm_great HG.out).good.mate
      have hst := reach_start (s := gm g) (F := F) Hnd.out hfr
      have hQ' := Own.q hQ
      have hRr : SetI wr w4.heap.size [] := ⟨hs5.1, MapAt.same hs5.2 hR⟩
      generalize (g.obv.filter fun o => (lookM (gm g).obv o).isNone) = O0 at hO hQ' hst
      have HF := Lib.hid hF; have HM := Lib.hid hM; have Hst := Lib.hid hst
      obtain ⟨wp, hwp⟩ : ∃ z, z = wr := ⟨_, rfl⟩
      subst hwp
      clear hF hM hst hQ hfr e1
      go_wp2_with fail

      go_loopw [7] (fun q wr => ∃ (O R Q : List Int), Hid (Reach g (gm g) F O R Q) ∧ SetI wr w3.heap.size O ∧ SetI wr w4.heap.size R ∧ OwnQ w5.heap.size wr q Q ∧ Touch w5 wr [w3.heap.size, w4.heap.size] ∧ 2 * (33 - O.length) + Q.length ≤ 200) (fun q wr => 2 * (33 - mapLen wr w3.heap.size) + (match q with | .slice _ n _ => n | _ => 0))
      case atStart => exact ⟨O0, [], O0, Hst.out, hO, hRr, hQ', hT, by have := nodup_len Hst.out.nodO Hst.out.subO; omega⟩
      case round =>
        obtain ⟨O, R, Q, Hre, hOs, hRs, hQs, hTs, hsum⟩ := hrel
        have g0 := cell_touch hTs hno p0; have g1 := cell_touch hTs hno p1; have g2 := cell_touch hTs hno p2
        cases Q with
        | cons o Q =>
          obtain ⟨gq, off, cap, rfl, hcm, hlc, hgq, hBq, hcell, hQt⟩ := hQs.cells
          go_wp2_with fail
          have hba : Below wr.heap.size wr wr.drew := (Below.refl _ _).drew
          obtain ⟨wa, hwa⟩ : ∃ W, wr.drew = W := ⟨_, rfl⟩
          rw [hwa] at hba
          have Fc := Lib.hid (fun (w' : World) (hS : Below wa.heap.size wa w') => (⟨cell_later hS (cell_later hba g0), cell_later hS (cell_later hba g1), cell_later hS (cell_later hba g2), cell_later hS (cell_later hba hcell)⟩ :
            w'.cell? ⟨w.heap.size, 0, none⟩ = some (.slice A1 g.obv.length c1) ∧ w'.cell? ⟨w.heap.size, 1, none⟩ = some (.slice A2 g.rev.length c2) ∧ w'.cell? ⟨w.heap.size, 2, none⟩ = some (.slice A3 g.links.length c3) ∧ w'.cell? ⟨gq, off, none⟩ = some (.int .i64 o)))
          have hHeld : Below wa.heap.size wa wa := Below.refl _ _
          have hga : GraphAt wa (.agg #[.slice A1 g.obv.length c1, .slice A2 g.rev.length c2, .slice A3 g.links.length c3]) g := ((h0.below hw5).touch hTs hno).below hba
          refine wp_region_S 10 (fun w' => Below wa.heap.size wa w') (by kernel_rfl) (by decide) ?_
          rw [hwa]
          clear g0 g1 g2 hcell hwa
          refine wpAnyS_takeD 0 (some 59) (.agg #[.slice A1 g.obv.length c1, .slice A2 g.rev.length c2, .slice A3 g.links.length c3]) (by rfl) (by rfl) (by kernel_rfl) (by exact fun _ _ _ h => h) (by rfl) (fun w' hS => by (obtain ⟨x0, x1, x2, x3⟩ := Fc.out w' hS; go_simp)) hHeld ?_
          simp only [Act.put, List.setIfInBounds_toArray, List.set_cons_succ, List.set_cons_zero]
          refine wpAnyS_takeD 1 (some 60) (.slice (some ⟨gq, off, none⟩) (Q.length + 1) (cap + 1)) (by rfl) (by rfl) (by kernel_rfl) (by exact fun _ _ _ h => h) (by rfl) (fun w' hS => by go_simp) hHeld ?_
          simp only [Act.put, List.setIfInBounds_toArray, List.set_cons_succ, List.set_cons_zero]
          refine wpAnyS_takeD 2 (some 61) (.pointer (some ⟨gq, off, none⟩)) (by rfl) (by rfl) (by kernel_rfl) (by exact fun _ _ _ h => h) (by rfl) (fun w' hS => by go_simp) hHeld ?_
          simp only [Act.put, List.setIfInBounds_toArray, List.set_cons_succ, List.set_cons_zero]
          refine wpAnyS_takeD 3 (some 62) (.int .i64 o) (by rfl) (by rfl) (by kernel_rfl) (by exact fun _ _ _ h => h) (by rfl) (fun w' hS => by (obtain ⟨x0, x1, x2, x3⟩ := Fc.out w' hS; go_simp)) hHeld ?_
          simp only [Act.put, List.setIfInBounds_toArray, List.set_cons_succ, List.set_cons_zero]
          refine wpAnyS_takeD 4 (some 63) (.agg #[.int .i64 0, .int .i64 o]) (by rfl) (by rfl) (by kernel_rfl) (by exact fun _ _ _ h => h) (by rfl) (fun w' hS => by go_simp) hHeld ?_
          simp only [Act.put, List.setIfInBounds_toArray, List.set_cons_succ, List.set_cons_zero]
          clear hHeld
          refine wpAnyS_one 5 (by kernel_rfl) (by rfl) (by decide) (fun K hK => ?_)
          have HK := Lib.hid hK; clear hK
          rw [if_pos (by rfl)]
          go_simp
          refine (Partners_own _ g 0 o wa hga).mono ?_
          rintro e wb ⟨u, rfl, hu', hbb⟩
          change OwnI wa.heap.size wb u (nbr g o) at hu'
          have Hfu := Lib.hid hu'.lt
          have hu : Ints wb u (nbr g o) := hu'.slOf
          obtain ⟨Au, cu, rfl, _, _, _⟩ := hu.cells
          clear hu'
          refine HK.out _ _ hbb ?_
          clear HK
          have hHeld := hbb
          refine wpAnyS_takeD 6 (some 58) (.tuple #[.slice Au (nbr g o).length cu, .int .i64 (partE g ⟨0, o⟩)]) (by rfl) (by rfl) (by kernel_rfl) (by exact fun _ _ _ h => h) (by rfl) (fun w' hS => by go_simp) hHeld ?_
          simp only [Act.put, List.setIfInBounds_toArray, List.set_cons_succ, List.set_cons_zero]
          refine wpAnyS_takeD 7 (some 65) (.slice Au (nbr g o).length cu) (by rfl) (by rfl) (by kernel_rfl) (by exact fun _ _ _ h => h) (by rfl) (fun w' hS => by go_simp) hHeld ?_
          simp only [Act.put, List.setIfInBounds_toArray, List.set_cons_succ, List.set_cons_zero]
          refine wpAnyS_takeD 8 (some 66) (.int .i64 (partE g ⟨0, o⟩)) (by rfl) (by rfl) (by kernel_rfl) (by exact fun _ _ _ h => h) (by rfl) (fun w' hS => by go_simp) hHeld ?_
          simp only [Act.put, List.setIfInBounds_toArray, List.set_cons_succ, List.set_cons_zero]
          refine wpAnyS_takeD 9 (some 12) (.slice Au (nbr g o).length cu) (by rfl) (by rfl) (by kernel_rfl) (by exact fun _ _ _ h => h) (by rfl) (fun w' hS => by go_simp) hHeld ?_
          simp only [Act.put, List.setIfInBounds_toArray, List.set_cons_succ, List.set_cons_zero]
          clear hHeld
          refine (show tailOf _ _ _ _ _ _ _ _ from ⟨by kernel_rfl, ?_⟩)
          simp only [List.drop_succ_cons, List.drop_zero]
          have hTb := hTs.trans ((touch_below hba [w3.heap.size, w4.heap.size]).trans (touch_below hbb [w3.heap.size, w4.heap.size]))
          have hnb2 := below_trans hba hbb
          have hOb := hOs.below hnb2; have hRb := hRs.below hnb2
          have hQb := hQs.kept (row := none) ⟨hnb2.os, hnb2.tape, hnb2.output, hnb2.size, fun i hi _ => hnb2.block i hi⟩ (.inr (by simp [Value.ownBlock]))
          have hml := setLen_of hOs
          have Hml := Lib.hid hml
          have hlO : O.length ≤ 32 := Nat.le_trans (nodup_len Hre.out.nodO Hre.out.subO) hlo
          clear Fc hga hQt hcm hlc hml
          obtain ⟨wc, hwc⟩ : ∃ z, z = wb := ⟨_, rfl⟩
          subst hwc
          go_wp2_with fail
          go_loopw [7, 69] (fun q i wr => ∃ (j : Nat) (O' R' Q' : List Int), j ≤ (nbr g o).length ∧ i = .int .i64 j ∧ Hid (Reach g (gm g) F O' R' (o :: Q')) ∧ Hid (∀ r ∈ (nbr g o).take j, r ∈ R') ∧ SetI wr w3.heap.size O' ∧ SetI wr w4.heap.size R' ∧ OwnQ w5.heap.size wr q (o :: Q') ∧ Touch w5 wr [w3.heap.size, w4.heap.size] ∧ Ints wr (.slice Au (nbr g o).length cu) (nbr g o) ∧ Hid (wc.heap.size ≤ wr.heap.size ∧ ∀ b, q.ownBlock = some b → b < wa.heap.size ∨ wc.heap.size ≤ b) ∧ 2 * (33 - O'.length) + Q'.length ≤ 2 * (33 - O.length) + Q.length) (fun _ i _ => (nbr g o).length - (intOf i).toNat)
          case atStart => exact ⟨0, O, R, Q, Nat.zero_le _, rfl, Hre, fun r hr => absurd hr (by simp), hOb, hRb, hQb, hTb, hu, ⟨Nat.le_refl _, fun b hb => .inl (by have := (hQs.lt b hb).2; have := hba.size; omega)⟩, Nat.le_refl _⟩
          case round =>
            obtain ⟨j, O', R', Q', hj, rfl, HRe, Hsub, hO', hR', hQ', hTr, hAr, HAq, hM'⟩ := hrel
            have hnoc := nocell_pair hO' hR'
            have hTrz := hTr.size
            by_cases hlj : j < (nbr g o).length
            · obtain ⟨b, of', rfl, _, hcb⟩ := hAr.at hlj
              obtain ⟨r, hr⟩ := get_of_lt hlj
              have e0 := hcb r hr
              have hrn := List.mem_of_getElem? hr
              have hrg := nbr_rev hg' o r hrn
              have hwfr := hwf.r r hrg
              have hlR : R'.length ≤ 32 := Nat.le_trans (nodup_len HRe.out.nodR HRe.out.subR) hlr
              have hlO' : O'.length ≤ 32 := Nat.le_trans (nodup_len HRe.out.nodO HRe.out.subO) hlo
              obtain ⟨wd, ud, hRd, hgd⟩ := hR'.add hwfr (by simp only [maxLen]; omega)
              have hTd := hTr.trans (grown_touch hgd (by simp))
              have hOd := hO'.kept hgd (fun e => by have := hne.out; have := Option.some.inj e; omega)
              have hQd := hQ'.kept hgd (.inr fun e => by have := (hQ'.lt _ e).1; omega)
              have hSd := hS5.touch hTd (by have := hne.out; simp; omega) (by have := hne.out; simp; omega)
              have f0' := cell_touch hTd hno n0; have f1' := cell_touch hTd hno n1
              have k1 := hSd.r.look_ok hwfr
              have hAd := SlOf.touch hAr (grown_touch hgd (S := [w3.heap.size, w4.heap.size]) (by simp)) hnoc
              have HAd : Hid (wc.heap.size ≤ wd.heap.size ∧ ∀ b, Value.ownBlock _ = some b → b < wa.heap.size ∨ wc.heap.size ≤ b) := ⟨Nat.le_trans HAq.out.1 hgd.size, HAq.out.2⟩
              have Hsub' : Hid (∀ x ∈ (nbr g o).take (j + 1), x ∈ addL R' r) := Lib.hid (mem_snoc (P := fun x => x ∈ addL R' r) hr (fun y hy => mem_addL.2 (.inl (Hsub.out y hy))) (mem_addL.2 (.inr rfl)))
              have hoO : o ∈ O' := HRe.out.que o (by simp)
              clear hcb hr hO' hR' hQ' hTr hAr HAq hgd
              cases hl : lookM (gm g).rev r with
              | none =>
                rw [hl] at k1
                have HRe' := Lib.hid (HRe.out.see hg' hoO hrn (fun o2 h2 => by rw [hl] at h2; cases h2))
                have HOd := Lib.hid hOd; have HRd := Lib.hid hRd; have HQd := Lib.hid hQd; have HTd := Lib.hid hTd; have HA := Lib.hid hAd
                clear hl hOd hRd hQd hTd hAd hSd
                go_wp2_with fail
                refine ⟨?rel, ?measure⟩
                case rel => exact ⟨j + 1, O', addL R' r, Q', by omega, by go_num, HRe'.out, Hsub'.out, HOd.out, HRd.out, HQd.out, HTd.out, HA.out, HAd, hM'⟩
                case measure => first | (simp [intOf]; done) | (simp [intOf]; omega)
              | some o2 =>
                rw [hl] at k1
                have hwf2 : wfI o2 := (hSd.r.good _ (lookM_some hl)).2
                have k2 := hOd.look hwf2
                by_cases hin : o2 ∈ O'
                · rw [decide_eq_true hin] at k2
                  have HRe' := Lib.hid (HRe.out.see hg' hoO hrn (fun o3 h3 => by rw [hl] at h3; cases h3; exact hin))
                  have HOd := Lib.hid hOd; have HRd := Lib.hid hRd; have HQd := Lib.hid hQd; have HTd := Lib.hid hTd; have HA := Lib.hid hAd
                  clear hl hOd hRd hQd hTd hAd hSd hin
                  go_wp2_with fail
                  refine ⟨?rel, ?measure⟩
                  case rel => exact ⟨j + 1, O', addL R' r, Q', by omega, by go_num, HRe'.out, Hsub'.out, HOd.out, HRd.out, HQd.out, HTd.out, HA.out, HAd, hM'⟩
                  case measure => first | (simp [intOf]; done) | (simp [intOf]; omega)
                · rw [decide_eq_false hin] at k2
                  have HRe' := Lib.hid (HRe.out.push hg' HF.out HM.out hoO hrn hl hin)
                  have hlO2 : O'.length + 1 ≤ 32 := by
                    have := nodup_len HRe'.out.nodO HRe'.out.subO
                    rw [List.length_append] at this
                    simp at this; omega
                  obtain ⟨we, ue, hOe, hge⟩ := hOd.put hwf2 hin (by simp only [maxLen]; omega)
                  have hQe := hQd.kept hge (.inr fun e => by have := (hQd.lt _ e).1; have := hne.out; omega)
                  have hRe2 := hRd.kept hge (fun e => by have := hne.out; have := Option.some.inj e; omega)
                  have hTe := hTd.trans (grown_touch hge (by simp))
                  have hze : w5.heap.size ≤ we.heap.size := hTe.size
                  have hnod := nocell_pair hOd hRd
                  have hAe := SlOf.touch hAd (grown_touch hge (S := [w3.heap.size, w4.heap.size]) (by simp)) hnod
                  have hwe : wd.heap.size ≤ we.heap.size := hge.size
                  have hlQ : Q'.length + 1 ≤ 1000 := by simp only [List.length_cons] at hsum; omega
                  have HOe := Lib.hid hOe; have HRe2 := Lib.hid hRe2; have HTe := Lib.hid hTe; have HAe := Lib.hid hAe
                  clear hl hOd hRd hQd hTd hAd hSd hin hOe hRe2 hge hTe hAe hnod
                  go_wp2_with (at_builtin; refine wpList_appendQ (B := w5.heap.size) rfl (.tmp 91) (.tmp 93) rfl iI hiI hzI hkI hbI rfl hQe o2 _ rfl _ rfl rfl (by simp only [List.length_cons]; omega) hze ?_; intro v' wf hQf hgf hat)
                  have hnb : ∀ c, c < w5.heap.size → some c ≠ Value.ownBlock _ := fun c hc e => by have := (hQe.lt c e.symm).1; omega
                  have hTf : Touch w5 wf [w3.heap.size, w4.heap.size] := HTe.out.trans_own hgf (fun i e => (hQe.lt i e).1)
                  have hAf : Ints wf (.slice (some ⟨b, of', none⟩) (nbr g o).length cu) (nbr g o) := Ints.kept HAe.out hgf (.inr fun e => by
                    have h1 := Hfu.out b rfl
                    have h2 := HAd.out.2 b e.symm
                    omega)
                  have HAf : Hid (wc.heap.size ≤ wf.heap.size ∧ ∀ b, v'.ownBlock = some b → b < wa.heap.size ∨ wc.heap.size ≤ b) := Lib.hid ⟨by have := HAd.out.1; have := hgf.size; omega, fun i hi => by
                    rcases hat with e | e
                    · rw [e] at hi; exact HAd.out.2 i hi
                    · have := e i hi; have := HAd.out.1; omega⟩
                  refine ⟨?rel, ?measure⟩
                  case rel => exact ⟨j + 1, O' ++ [o2], addL R' r, Q' ++ [o2], by omega, by go_num, HRe'.out, Hsub'.out, HOe.out.kept hgf (hnb _ (by have := hne.out; omega)), HRe2.out.kept hgf (hnb _ hz5), hQf, hTf, hAf, HAf, by rw [List.length_append, List.length_append]; simp only [List.length_cons, List.length_nil]; omega⟩
                  case measure => simp [intOf]; omega
            · have e1 : (nbr g o).take j = nbr g o := List.take_of_length_le (by omega)
              have HRe' := Lib.hid (HRe.out.pop (fun r hr => Hsub.out r (by rw [e1]; exact hr)))
              obtain ⟨gq', off', cap', rfl, hcm', hlc', hcut, hcut0⟩ := hQ'.cut
              have hml' := setLen_of hO'
              have Hml' := Lib.hid hml'
              have HO' := Lib.hid hO'; have HR' := Lib.hid hR'; have HTr := Lib.hid hTr
              have HM' := Lib.hid hM'
              have HlO := Lib.hid (nodup_len HRe.out.nodO HRe.out.subO)
              clear e1 hml' hO' hR' hTr hQ' hM' hAr HAq
              rcases Nat.eq_zero_or_pos cap' with h0 | h0
              · obtain ⟨e0, hQ2⟩ := hcut0 h0
                subst h0; subst e0
                clear hcut hcut0
                have HQ2 := Lib.hid hQ2; clear hQ2
                go_wp2_with fail
                refine ⟨?rel, ?measure⟩
                case rel => exact ⟨O', R', [], HRe'.out, HO'.out, HR'.out, HQ2.out, HTr.out, by have := HM'.out; simp only [List.length_cons, List.length_nil] at this hsum ⊢; omega⟩
                case measure => rw [Hml'.out, Hml.out]; have := HM'.out; simp at this ⊢; omega
              · have hQ2 := hcut h0
                clear hcut hcut0
                have HQ2 := Lib.hid hQ2; clear hQ2
                go_wp2_with fail
                refine ⟨?rel, ?measure⟩
                case rel => exact ⟨O', R', Q', HRe'.out, HO'.out, HR'.out, HQ2.out, HTr.out, by have := HM'.out; simp only [List.length_cons] at this hsum ⊢; omega⟩
                case measure => rw [Hml'.out, Hml.out]; have := HM'.out; simp at this ⊢; omega
        | nil =>
          obtain ⟨Aq, cq, rfl⟩ := hQs.nil
          have Hcov := Lib.hid (Hre.out.cover HM.out HF.out)
          obtain ⟨iD, hiD, hzD, hkD, hbD⟩ := info_parts infoD
          have Hbw : Hid (Below w.heap.size w wr) := Lib.hid (hw5.trans (hTs.below (by have := hne.out; have := hw2.size; have := hb3.size; simp; omega) (by have := hw5.size; omega)))
          obtain ⟨wt, hwt⟩ : ∃ z, z = wr := ⟨_, rfl⟩
          subst hwt
          clear hQs
          go_wp2_with fail
          go_loopw [18, 99] (fun u i wr => ∃ k : Nat, k ≤ g.obv.length ∧ i = .int .i64 k ∧ OwnD wt.heap.size wr u (((g.obv.take k).filter fun o => !decide (o ∈ O)).map (Die.mk 0)) ∧ Below wt.heap.size wt wr) (fun _ i _ => g.obv.length - (intOf i).toNat)
          case atStart => exact ⟨0, Nat.zero_le _, rfl, own_nil _ _ _ _ _, Below.refl _ _⟩
          case round =>
            obtain ⟨k, hk, rfl, hown, hb⟩ := hrel
            have d0 := cell_later hb g0; have d1 := cell_later hb g1
            by_cases hlt' : k < g.obv.length
            · obtain ⟨b, o', rfl, _, hc⟩ := hco k hlt'
              obtain ⟨x, hx⟩ := get_of_lt hlt'
              have e0 := cell_later hb (cell_touch hTs hno (hc w5 hw5 k x hx))
              have k1 := (hOs.below hb).look (hwf.o x (List.mem_of_getElem? hx))
              have hlen : (((g.obv.take k).filter fun o => !decide (o ∈ O)).map (Die.mk 0)).length ≤ 32 := by
                rw [List.length_map]; exact Nat.le_trans (List.length_filter_le _ _) (by simp; omega)
              have hBs := hb.size
              have hsn := filter_snoc (p := fun o => !decide (o ∈ O)) hx
              by_cases hm : x ∈ O
              · rw [decide_eq_true hm] at k1
                rw [if_neg (by simp [hm]), List.append_nil] at hsn
                have Hsn := Lib.hid hsn
                clear hsn hx hc hm
                go_wp2_with fail
                refine ⟨?rel, ?measure⟩
                case rel => exact ⟨k + 1, by omega, by go_num, by rw [Hsn.out]; exact hown, hb⟩
                case measure => first | (simp [intOf]; done) | (simp [intOf]; omega)
              · rw [decide_eq_false hm] at k1
                rw [if_pos (by simp [hm])] at hsn
                have Hsn := Lib.hid hsn
                clear hsn hx hc hm
                go_wp2_with (at_builtin; refine wpList_append1 (enc := encD) (size := 2) (B := wt.heap.size) rfl (.tmp 107) (.tmp 110) _ rfl 46 iD _ 16 Try.underlying26 hiD hzD hkD hbD rfl (by decide) rfl hown (Die.mk 0 x) _ rfl lenD oneD _ rfl rfl (by omega) (by omega) hBs ?_; intro v' w2' hown' hgrow hat)
                refine ⟨?rel, ?measure⟩
                case rel => exact ⟨k + 1, by omega, by go_num, by rw [Hsn.out, List.map_append]; exact hown', hb.trans (below_append hown hgrow hBs)⟩
                case measure => first | (simp [intOf]; done) | (simp [intOf]; omega)
            · have e1 : g.obv.take k = g.obv := List.take_of_length_le (by omega)
              rw [e1] at hown
              clear e1
              have hlen0 : ((g.obv.filter fun o => !decide (o ∈ O)).map (Die.mk 0)).length ≤ 32 := by
                rw [List.length_map]; exact Nat.le_trans (List.length_filter_le _ _) hlo
              go_wp2_with fail
              go_loopw [18, 116] (fun u i wr => ∃ k : Nat, k ≤ g.rev.length ∧ i = .int .i64 k ∧ OwnD wt.heap.size wr u ((g.obv.filter fun o => !decide (o ∈ O)).map (Die.mk 0) ++ ((g.rev.take k).filter fun r => decide (r ∈ R)).map (Die.mk 1)) ∧ Below wt.heap.size wt wr) (fun _ i _ => g.rev.length - (intOf i).toNat)
              case atStart => exact ⟨0, Nat.zero_le _, rfl, by simpa using hown, hb⟩
              case round =>
                clear hown hb d0 d1
                obtain ⟨j, hj, rfl, hown, hb⟩ := hrel
                have d1 := cell_later hb g1
                by_cases hlt2 : j < g.rev.length
                · obtain ⟨b, o', rfl, _, hc⟩ := hcr j hlt2
                  obtain ⟨x, hx⟩ := get_of_lt hlt2
                  have e0 := cell_later hb (cell_touch hTs hno (hc w5 hw5 j x hx))
                  have k1 := (hRs.below hb).look (hwf.r x (List.mem_of_getElem? hx))
                  have hlen : ((g.obv.filter fun o => !decide (o ∈ O)).map (Die.mk 0) ++ ((g.rev.take j).filter fun r => decide (r ∈ R)).map (Die.mk 1)).length ≤ 64 := by
                    rw [List.length_append, List.length_map (Die.mk 1)]
                    have h2 := List.length_filter_le (fun r => decide (r ∈ R)) (g.rev.take j)
                    rw [List.length_take] at h2
                    omega
                  have hBs := hb.size
                  have hsn := filter_snoc (p := fun r => decide (r ∈ R)) hx
                  by_cases hm : x ∈ R
                  · rw [decide_eq_true hm] at k1
                    rw [if_pos (by simp [hm])] at hsn
                    have Hsn := Lib.hid hsn
                    clear hsn hx hc hm
                    go_wp2_with (at_builtin; refine wpList_append1 (enc := encD) (size := 2) (B := wt.heap.size) rfl (.tmp 123) (.tmp 126) _ rfl 46 iD _ 16 Try.underlying26 hiD hzD hkD hbD rfl (by decide) rfl hown (Die.mk 1 x) _ rfl lenD oneD _ rfl rfl (by omega) (by omega) hBs ?_; intro v' w2' hown' hgrow hat)
                    refine ⟨?rel, ?measure⟩
                    case rel => exact ⟨j + 1, by omega, by go_num, by rw [Hsn.out, List.map_append, ← List.append_assoc]; exact hown', hb.trans (below_append hown hgrow hBs)⟩
                    case measure => first | (simp [intOf]; done) | (simp [intOf]; omega)
                  · rw [decide_eq_false hm] at k1
                    rw [if_neg (by simp [hm]), List.append_nil] at hsn
                    have Hsn := Lib.hid hsn
                    clear hsn hx hc hm
                    go_wp2_with fail
                    refine ⟨?rel, ?measure⟩
                    case rel => exact ⟨j + 1, by omega, by go_num, by rw [Hsn.out]; exact hown, hb⟩
                    case measure => first | (simp [intOf]; done) | (simp [intOf]; omega)
                · have e1 : g.rev.take j = g.rev := List.take_of_length_le (by omega)
                  rw [e1] at hown
                  clear e1
                  go_wp2_with fail
                  go_ret2
                  exact ⟨_, _, ret_mat hv.out.symm, hown.slOf, ⟨fun e => (by rw [hg'] at e; cases e), fun _ => ⟨_, Hcov.out.1, Hcov.out.2.1, Hcov.out.2.2⟩⟩, Hbw.out.trans (hb.mono Hbw.out.size)⟩
end Go.Proofs.Ytnaoiochfdipiaa
/- What Matching and Cover return belongs together, plain. No program in sight, no condition. -/
namespace Go.Proofs.Ytnaoiochfdipiaa
open Go.RowKit

theorem mat_wf {g : Graph} (hg : graphB g = true) (hwf : WfG g) {l : List Pair} (h : IsMat g l) : ∀ p ∈ l, wfI p.a ∧ wfI p.b := fun p hp => by
  obtain ⟨x, hx, e1, e2⟩ := h.link p hp
  have hE := graphB_ends hg
  rw [← e1, ← e2]
  exact ⟨hwf.o _ (hE.1 x hx), hwf.r _ (hE.2 x hx)⟩
theorem mch_facts {g : Graph} (hg : graphB g = true) : IsMat g (mchG g) ∧ Opt g (mchG g).length := by
  have hG := gm_great hg
  have hm := (mchG_of hg).isMat hg hG.good
  refine ⟨hm, ?_⟩
  have := hG.opt hg (mchG_of hg)
  rwa [← hG.good.len, ← (mchG_of hg).len] at this
theorem koen_facts {g : Graph} (hg : graphB g = true) {ys : List Die} (hc : CoverAt g ys) : IsMat g (mchG g) ∧ IsCov g ys ∧ (mchG g).length = ys.length := by
  obtain ⟨F, h1, h2, rfl⟩ := hc.2 hg
  have hG := gm_great hg
  refine ⟨(mchG_of hg).isMat hg hG.good, coverL_cov hg hG.good.mate h1 h2, ?_⟩
  rw [(mchG_of hg).len, hG.good.len, coverL_len hg hG.good.mate hG.good.nodR h1]

/-- A die of a pair. -/
def ofPair (p : Pair) (d : Die) : Bool := (d.side == 0 && d.num == p.a) || (d.side == 1 && d.num == p.b)
theorem ofPair_iff {p : Pair} {d : Die} : ofPair p d = true ↔ d = ⟨0, p.a⟩ ∨ d = ⟨1, p.b⟩ := by
  obtain ⟨s, n⟩ := d
  simp [ofPair]
theorem countP_one {α : Type} {p : α → Bool} : ∀ {l : List α} {x : α}, l.Nodup → x ∈ l → p x = true → (∀ y ∈ l, p y = true → y = x) → l.countP p = 1
  | [], _, _, hx, _, _ => absurd hx (by simp)
  | a :: l, x, hn, hx, hp, hu => by
    rw [List.nodup_cons] at hn
    rcases List.mem_cons.1 hx with rfl | hx
    · rw [List.countP_cons_of_pos hp]
      have : l.countP p = 0 := List.countP_eq_zero.2 fun y hy h => by
        have := hu y (List.mem_cons_of_mem _ hy) h
        subst this; exact hn.1 hy
      omega
    · have ha : ¬ p a = true := fun h => by
        have := hu a (by simp) h
        subst this; exact hn.1 hx
      rw [List.countP_cons_of_neg ha]
      exact countP_one hn.2 hx hp fun y hy => hu y (List.mem_cons_of_mem _ hy)
theorem nodup_onto {α : Type} [DecidableEq α] {l c : List α} (hl : l.Nodup) (hs : ∀ x ∈ l, x ∈ c) (he : l.length = c.length) : ∀ x ∈ c, x ∈ l := fun x hx => by
  by_cases h : x ∈ l
  · exact h
  · have h1 := nodup_len (l := x :: l) (c := c) (List.nodup_cons.2 ⟨h, hl⟩) (fun y hy => by
      rcases List.mem_cons.1 hy with rfl | hy
      · exact hx
      · exact hs y hy)
    simp only [List.length_cons] at h1
    omega
theorem IsCov.nodup {g : Graph} {c : List Die} (h : IsCov g c) : c.Nodup := h.asc.imp fun {a b} h e => by
  subst e; unfold ltD at h; omega
/-- Each pair has exactly one of its dies in the cover, and each die of the cover is in one pair. -/
theorem touch_once {g : Graph} {l : List Pair} {c : List Die} (h : IsMat g l) (hc : IsCov g c) (he : l.length = c.length) :
    (∀ p ∈ l, c.countP (ofPair p) = 1) ∧ ∀ d ∈ c, l.countP (fun p => ofPair p d) = 1 := by
  have hcov : ∀ p ∈ l, (⟨0, p.a⟩ : Die) ∈ c ∨ (⟨1, p.b⟩ : Die) ∈ c := fun p hp => by
    obtain ⟨x, hx, e1, e2⟩ := h.link p hp
    have := hc.cov x hx
    rwa [e1, e2] at this
  obtain ⟨f, hf⟩ : ∃ f : Pair → Die, f = fun p => if (⟨0, p.a⟩ : Die) ∈ c then (⟨0, p.a⟩ : Die) else ⟨1, p.b⟩ := ⟨_, rfl⟩
  have hof : ∀ p, f p = ⟨0, p.a⟩ ∧ (⟨0, p.a⟩ : Die) ∈ c ∨ f p = ⟨1, p.b⟩ ∧ (⟨0, p.a⟩ : Die) ∉ c := fun p => by
    rw [hf]
    by_cases h1 : (⟨0, p.a⟩ : Die) ∈ c
    · exact .inl ⟨by simp [h1], h1⟩
    · exact .inr ⟨by simp [h1], h1⟩
  have hin : ∀ p ∈ l, f p ∈ c := fun p hp => by
    rcases hof p with ⟨e, h1⟩ | ⟨e, h1⟩
    · rw [e]; exact h1
    · rw [e]; exact (hcov p hp).resolve_left h1
  have hinj : ∀ p ∈ l, ∀ q ∈ l, f p = f q → p = q := fun p hp q hq e => by
    rcases hof p with ⟨e1, _⟩ | ⟨e1, _⟩ <;> rcases hof q with ⟨e2, _⟩ | ⟨e2, _⟩ <;> rw [e1, e2] at e <;> simp only [Die.mk.injEq] at e
    · exact h.eqA hp hq e.2
    · exact absurd e.1 (by decide)
    · exact absurd e.1 (by decide)
    · exact h.eqB hp hq e.2
  have honto := nodup_onto (nodup_map f h.nodup hinj) (fun d hd => by obtain ⟨p, hp, rfl⟩ := List.mem_map.1 hd; exact hin p hp) (by simpa using he)
  have hone : ∀ p ∈ l, ∀ d ∈ c, ofPair p d = true → d = f p := fun p hp d hd ho => by
    obtain ⟨q, hq, rfl⟩ := List.mem_map.1 (honto d hd)
    have hpq : q = p := by
      rcases ofPair_iff.1 ho with e | e <;> rcases hof q with ⟨e2, h2⟩ | ⟨e2, h2⟩ <;> rw [e2] at e <;> simp only [Die.mk.injEq] at e
      · exact h.eqA hq hp e.2
      · exact absurd e.1 (by decide)
      · exact absurd e.1 (by decide)
      · exact h.eqB hq hp e.2
    rw [hpq]
  have hself : ∀ p, ofPair p (f p) = true := fun p => by
    rcases hof p with ⟨e, _⟩ | ⟨e, _⟩
    · exact ofPair_iff.2 (.inl e)
    · exact ofPair_iff.2 (.inr e)
  refine ⟨fun p hp => countP_one hc.nodup (hin p hp) (hself p) (hone p hp), fun d hd => ?_⟩
  obtain ⟨q, hq, rfl⟩ := List.mem_map.1 (honto d hd)
  refine countP_one h.nodup hq (hself q) fun p hp ho => ?_
  have := hone p hp _ hd ho
  exact hinj p hp q hq this.symm
end Go.Proofs.Ytnaoiochfdipiaa
