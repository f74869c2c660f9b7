/- component.Parts. Condition: the graph in its memory. -/
import Derived.Test.YtcpobcfncmcakaaCompC
namespace Go.Proofs.Ytcpobcfncmcakaa
open Go.RowKit Go.Maps

noncomputable def partsG (g : Graph) : List Int := partsA (joinB (edgesG g)) (diesG g)
theorem dies_wf {g : Graph} (hg : graphB g = true) : ∀ d ∈ diesG g, wfD d := fun d hd => by
  have hok := (graphB_iff g).1 hg
  rw [diesG, if_pos hg] at hd
  rcases List.mem_append.1 hd with hd | hd
  · obtain ⟨n, hn, rfl⟩ := List.mem_map.1 hd
    have := ascB_bounds hok.ao n hn
    exact ⟨wfN (n := 0) (by omega), show wfI n from wf_small (by omega) (by omega)⟩
  · obtain ⟨n, hn, rfl⟩ := List.mem_map.1 hd
    have := ascB_bounds hok.ar n hn
    exact ⟨wfN (n := 1) (by omega), show wfI n from wf_small (by omega) (by omega)⟩
theorem dies_le {g : Graph} (hg : graphB g = true) : (diesG g).length ≤ 64 := by
  have hok := (graphB_iff g).1 hg
  rw [dies_len hg]
  have := hok.lo; have := hok.lr; omega
/-- What the map of numbers knows after some dies. -/
def NumAt (R : Die → Die → Bool) (rs : List Die) (mm : List (Die × Int)) : Prop := ∀ x, lookM mm x = if rs.any (fun r => R r x) then some ((partI R rs x : Nat) : Int) else none
theorem NumAt.len {g : Graph} (hg : graphB g = true) {rs : List Die} {mm : List (Die × Int)} (h : NumAt (joinB (edgesG g)) rs mm) (hn : (mm.map Prod.fst).Nodup) : mm.length ≤ 64 := by
  have := nodup_len (c := diesG g) hn (fun x hx => by
    have hs := look_mem.2 hx
    rw [h x] at hs
    split at hs
    · rename_i ha
      obtain ⟨r, _, hr⟩ := List.any_eq_true.1 ha
      exact (dies_end hg x).2 (joinB_iff.1 hr).2.1
    · cases hs)
  have := dies_le hg
  rw [List.length_map] at *
  omega
theorem numAt_nil (R : Die → Die → Bool) : NumAt R [] [] := fun _ => rfl
/-- A new component: what its dies are called. -/
theorem NumAt.new {g : Graph} (hg : graphB g = true) {ds : List Die} {mm mm' : List (Die × Int)} {d : Die} {K : List Die} (hd : d ∈ diesG g) (h : NumAt (joinB (edgesG g)) (repsA (joinB (edgesG g)) ds) mm)
    (hno : (repsA (joinB (edgesG g)) ds).any (fun r => joinB (edgesG g) r d) = false) (hK : ∀ x, x ∈ K ↔ Con (edgesG g) d x) (hmm : ∀ x, lookM mm' x = if x ∈ K then some ((repsA (joinB (edgesG g)) ds).length : Int) else lookM mm x) :
    NumAt (joinB (edgesG g)) (repsA (joinB (edgesG g)) (ds ++ [d])) mm' := fun x => by
  have hE := (dies_end hg d).1 hd
  have hR : ∀ x, joinB (edgesG g) d x = true ↔ x ∈ K := fun x => by
    rw [hK, joinB_iff]
    constructor
    · exact fun h => h.2.2
    · intro hc
      refine ⟨hE, ?_, hc⟩
      by_cases e : d = x
      · rw [← e]; exact hE
      · exact (con_end hc e).2
  rw [repsA_new hno, hmm x]
  by_cases hx : x ∈ K
  · have hdx := (hR x).2 hx
    have hnx : (repsA (joinB (edgesG g)) ds).any (fun r => joinB (edgesG g) r x) = false := by
      rw [← Bool.not_eq_true]
      intro ha
      obtain ⟨r, h1, h2⟩ := List.any_eq_true.1 ha
      have hs := rel_join (E := edgesG g) (ds := []) (fun d hd => by cases hd)
      have := hs.trans _ _ _ h2 (hs.symm _ _ hdx)
      rw [← Bool.not_eq_true] at hno
      exact hno (List.any_eq_true.2 ⟨r, h1, this⟩)
    rw [if_pos hx, if_pos (by rw [List.any_append]; simp [hdx])]
    congr 1
    rw [partI, findIdx_new hnx hdx]
  · have hdx : joinB (edgesG g) d x = false := by
      rw [← Bool.not_eq_true]; exact fun h => hx ((hR x).1 h)
    rw [if_neg hx, h x]
    cases ha : (repsA (joinB (edgesG g)) ds).any (fun r => joinB (edgesG g) r x)
    · rw [if_neg (by simp), if_neg (by rw [List.any_append, ha]; simp [hdx])]
    · rw [if_pos rfl, if_pos (by rw [List.any_append, ha]; rfl)]
      congr 1
      rw [partI, partI, findIdx_pre (List.prefix_append _ _) ha]
theorem partsA_snoc {R : Die → Die → Bool} {ds : List Die} {k : Nat} {d : Die} (hd : ds[k]? = some d) : (partsA R ds).take (k + 1) = (partsA R ds).take k ++ [((partI R (repsA R ds) d : Nat) : Int)] := by
  refine take_snoc' ?_
  rw [partsA, List.getElem?_map, hd]; rfl
theorem part_pre {R : Die → Die → Bool} {ds : List Die} {k : Nat} {d : Die} (h : (repsA R (ds.take k)).any (fun r => R r d) = true) : partI R (repsA R ds) d = partI R (repsA R (ds.take k)) d :=
  findIdx_pre (repsA_take ds k) h

set_option maxHeartbeats 8000000 in
set_option maxRecDepth 100000 in
theorem cParts_ok (v : Value) (g : Graph) (w : World) (h : GraphAt w v g) :
    Calls Try.prog 45 #[v] w fun e w' => ∃ u, e = .returned (.tuple #[u, .int .i64 (validE g)]) ∧ OwnI w.heap.size w' u (partsG g) ∧ Below w.heap.size w w' := by
  have hmm := @run_makeMap Try.prog
  have h' := h
  obtain ⟨v1, v2, v3, rfl, ho, hr, hk⟩ := h
  obtain ⟨A1, c1, rfl, _, _, _⟩ := ho.cells
  obtain ⟨A2, c2, rfl, _, _, _⟩ := hr.cells
  obtain ⟨A3, c3, rfl, _, _, _⟩ := hk.cells
  obtain ⟨W0, hW0, Hz0, hb0, hlt0, hc0⟩ := boxed w #[.slice A1 g.obv.length c1, .slice A2 g.rev.length c2, .slice A3 g.links.length c3] 49
  have a0 := hc0 0 _ rfl; have a1 := hc0 1 _ rfl; have a2 := hc0 2 _ rfl
  have h1 := h'.below hb0
  clear hc0 ho hr hk
  go_enter Try.func45, Try.ntmps45
  go_wp2_with fail
  refine (Dies_ok _ g _ h1).mono ?_
  rintro e w2 ⟨ud, rfl, hd, hb2⟩
  obtain ⟨Ad, cd, rfl, _, _, hdc⟩ := hd.cells
  have hw2 := below_trans hb0 hb2
  have a0 := cell_later hb2 a0; have a1 := cell_later hb2 a1; have a2 := cell_later hb2 a2
  clear hW0
  cases hg : graphB g
  · have hv : validE g = 1 := by simp [validE, hg]
    have hp : partsG g = [] := by rw [partsG, diesG, if_neg (by simp [hg])]; rfl
    have HP := Lib.hid hp; have HV := Lib.hid hv
    rw [hv]
    clear hp hv hg hdc a0 a1 a2
    go_wp2_with fail
    exact bodyPost_ret (v := .tuple #[.slice none 0 0, .int .i64 1]) (by simp [results, Try.results45, go_sem]) rfl ⟨_, by rw [HV.out], by rw [HP.out]; exact own_nil _ _ _ _ _, hw2⟩
  have hv : validE g = 0 := by simp [validE, hg]
  have HV := Lib.hid hv
  rw [hv]
  have Hg := Lib.hid hg
  have hll := ((graphB_iff g).1 hg).ll
  have hdl := dies_le hg
  have Hwf := Lib.hid (dies_wf hg)
  obtain ⟨R, hR⟩ : ∃ R, joinB (edgesG g) = R := ⟨_, rfl⟩
  obtain ⟨ds, hds⟩ : ∃ ds, diesG g = ds := ⟨_, rfl⟩
  rw [hds] at hd hdc hdl Hwf ⊢
  have HRd := Lib.hid hR; have HDs := Lib.hid hds
  obtain ⟨M1, hM1⟩ : ∃ W, w2.alloc (.map #[] 0) = W := ⟨_, rfl⟩
  have hbM : Below w2.heap.size w2 M1 := by rw [← hM1]; exact (Below.refl _ _).alloc (Nat.le_refl _) _
  have hMz : w2.heap.size < M1.heap.size := by rw [← hM1]; simp
  have hm1 : MapD M1 w2.heap.size [] := by rw [← hM1]; exact mapD_made w2
  have hT0 := Touch.refl M1 [w2.heap.size]
  have a0' := cell_later hbM a0; have a1' := cell_later hbM a1; have a2' := cell_later hbM a2
  have hwM := below_trans hw2 hbM
  have hw2z := hw2.size
  obtain ⟨iI, hiI, hzI, hkI, hbI⟩ := info_parts infoI
  clear hv hg hR hds a0 a1 a2
  go_wp2_with fail
  clear hmm hM1
  go_loopw [7, 8, 25] (fun u p i wr => ∃ (k : Nat) (mm : List (Die × Int)), k ≤ ds.length ∧ i = .int .i64 k ∧ p = .int .i64 ((repsA R (ds.take k)).length : Nat) ∧ OwnI M1.heap.size wr u ((partsA R ds).take k) ∧ MapD wr w2.heap.size mm ∧ Hid (NumAt R (repsA R (ds.take k)) mm) ∧ Touch M1 wr [w2.heap.size]) (fun _ _ i _ => ds.length - (intOf i).toNat)
  case atStart => exact ⟨0, [], Nat.zero_le _, rfl, rfl, own_nil _ _ _ _ _, hm1, Lib.hid (numAt_nil R), hT0⟩
  case round =>
    clear hm1 hT0
    obtain ⟨k, mm, hk, rfl, rfl, hown, hm, HN, hT⟩ := hrel
    have hwr : Below w.heap.size w wr := (touch_below hwM [w2.heap.size]).trans hT |>.below (by simp; omega) (Nat.le_refl _)
    have hMr := hT.size
    have hw2r : Below w2.heap.size w2 wr := (touch_below hbM [w2.heap.size]).trans hT |>.below (by simp) (Nat.le_refl _)
    have hbw0 : w.heap.size ∉ [w2.heap.size] := by simp; have := hb2.size; omega
    have a0 := cell_off hT hbw0 a0'; have a1 := cell_off hT hbw0 a1'; have a2 := cell_off hT hbw0 a2'
    have hlen7 : ((partsA R ds).take k).length ≤ 64 := by rw [List.length_take]; omega
    have hrl := repsA_len (R := R) (ds.take k)
    rw [List.length_take] at hrl
    by_cases hlt : k < ds.length
    · obtain ⟨bo, o, rfl, _, hcb⟩ := hdc k hlt
      obtain ⟨d, hdk⟩ := get_of_lt hlt
      obtain ⟨y0, y1⟩ := hcb wr hw2r k d hdk
      have hdm := List.mem_of_getElem? hdk
      have hwd := Hwf.out d hdm
      obtain ⟨wo, hwo⟩ : ∃ z, z = wr := ⟨_, rfl⟩
      subst hwo
      obtain ⟨V1, V2, hV1, hV2, HzV2, hkV1, hkV2, hbV2, hltV2⟩ := fresh wo [.int .i64 0, .int .i64 0] [.int .i64 (d).side, .int .i64 (d).num] 40 rfl
      have hsV2 : (V1.setCell ⟨wo.heap.size, 0, none⟩ (.int .i64 (d).side)).setCell ⟨wo.heap.size, 1, none⟩ (.int .i64 (d).num) = V2 := hV2
      clear hV2
      obtain ⟨⟨z0, z1⟩, f0, f1⟩ := cells2 hkV1
      obtain ⟨⟨s0, s1⟩, _⟩ := cells2 hkV2
      clear hkV1
      have a0 := cell_later hbV2 a0; have a1 := cell_later hbV2 a1; have a2 := cell_later hbV2 a2
      have hmV := hm.below hbV2
      have hownV := hown.below hbV2
      have HTV := Lib.hid (hT.trans (touch_below hbV2 [w2.heap.size]))
      have k1 := hmV.look_ok hwd
      have hN := HN.out d
      have Hdk := Lib.hid hdk
      have Htk := Lib.hid (partsA_snoc (R := R) hdk)
      have hwV := below_trans hwr hbV2
      clear hcb hdk hm hown hT
      cases ha : (repsA R (ds.take k)).any (fun r => R r d)
      case true =>
        have Hpp := Lib.hid (part_pre (ds := ds) ha)
        have Hre := Lib.hid (repsA_old ha)
        rw [ha, if_pos rfl] at hN
        have Ha := Lib.hid ha
        rw [hN] at k1
        have k2 := hmV.look hwd
        rw [hN] at k2
        dsimp only [Option.getD, Option.isSome] at k1 k2
        obtain ⟨P, hP⟩ : ∃ P, partI R (repsA R (ds.take k)) d = P := ⟨_, rfl⟩
        rw [hP] at k1 k2 Hpp
        clear hN ha hP a0 a1 a2
        have hz3 := HTV.out.size
        go_wp2_with (at_builtin; refine wpList_append1 (enc := encI) (size := 1) (B := M1.heap.size) rfl (.tmp 50) (.tmp 54) _ rfl 3 iI _ 8 Try.underlying25 hiI hzI hkI hbI rfl (by decide) rfl hownV (P : Int) _ rfl lenI oneI _ rfl rfl (by omega) (by omega) hz3 ?_; intro v' w7 hown' hgrow hat)
        have hnb : ∀ c, c < M1.heap.size → some c ≠ Value.ownBlock _ := fun c hc e => by have := (hownV.lt c e.symm).1; omega
        refine ⟨?rel, ?measure⟩
        case rel => exact ⟨k + 1, mm, by omega, by go_num, by rw [take_snoc' Hdk.out, Hre.out], by rw [Htk.out, Hpp.out]; exact hown', hmV.kept hgrow (hnb _ hMz), by rw [take_snoc' Hdk.out, Hre.out]; exact HN, HTV.out.trans_own hgrow (fun j e => (hownV.lt j e).1)⟩
        case measure => first | (simp [intOf]; done) | (simp [intOf]; omega)
      case false =>
        have Ha := Lib.hid ha
        rw [ha, if_neg (by simp)] at hN
        rw [hN] at k1
        dsimp only [Option.getD, Option.isSome] at k1
        have hml0 := Lib.hid (NumAt.len Hg.out (rs := repsA R (ds.take k)) (by rw [HRd.out]; exact HN.out) hmV.nodup)
        clear hN ha
        go_wp2_with fail
        refine (steps_ok g (linkWf Hg.out) hll d hwd _ V2 (h'.below hwV)).mono ?_
        rintro e w5 ⟨b, m, rfl, hms, hmem, hbz, hb5, hml⟩
        have Hmem := Lib.hid hmem
        have s0 := cell_later hb5 s0; have s1 := cell_later hb5 s1
        have hm5 := hmV.below hb5
        have hmN := hmV
        have hml9 := hml
        have hown5 := hownV.below hb5
        have HT5 := Lib.hid (HTV.out.trans (touch_below hb5 [w2.heap.size]))
        have hnd := Lib.hid (hms.nodup)
        clear a0 a1 a2 hmem k1 hownV hmV
        go_wp2_with (first | (at_range; refine wpList_rangeAt rfl _ rfl Try.underlying62 hms rfl ?_; intro w6 hr6 hb6 hz6))
        go_frame
        have hm6 := hm5.below hb6
        have s01 := Lib.hid (⟨s0, s1⟩ : _ ∧ _)
        have HT6 := Lib.hid ((Touch.refl w5 [w2.heap.size]).trans (touch_below hb6 [w2.heap.size]))
        have hne : w2.heap.size ≠ w5.heap.size := by have := hm5.lt; omega
        have hnb5 : w2.heap.size ≠ b := by have := hmN.lt; omega
        have hbl := hms.lt
        have hwow : wo.heap.size < w5.heap.size := by have := hb5.size; omega
        obtain ⟨p, hp⟩ : ∃ p, (repsA R (ds.take k)).length = p := ⟨_, rfl⟩
        have Hp := Lib.hid hp
        rw [hp] at hrl ⊢
        have hpw : wfI (p : Int) := wfN (by omega)
        have hz56 : w5.heap.size < w6.heap.size := by omega
        clear hp hms hb6 hz6 s0 s1
        go_loopw [] (fun wr => ∃ (todo : List Die) (mm' : List (Die × Int)), RangeD wr b w5.heap.size m todo ∧ MapD wr w2.heap.size mm' ∧ Hid (∀ x, lookM mm' x = if x ∈ m.map Prod.fst ∧ x ∉ todo then some (p : Int) else lookM mm x) ∧ Touch w5 wr [w2.heap.size] ∧ w6.heap.size ≤ wr.heap.size) (fun wr => wr.rangeLeft b w5.heap.size)
        case atStart => exact ⟨m.map Prod.fst, mm, hr6, hm6, Lib.hid (fun x => by rw [if_neg (fun hh => hh.2 hh.1)]), HT6.out, Nat.le_refl _⟩
        case round =>
          obtain ⟨todo, mm', hr, hm', Hlk, hT', hz'⟩ := hrel
          have Hr := Lib.hid hr; have HT' := Lib.hid hT'; have Hm' := Lib.hid hm'
          clear hr6 hm6 hT' hm'
          go_wp2_with (at_next; refine wpList_nextAt rfl _ rfl hr rfl ?_ ?_)
          · rintro rfl
            have hNn := NumAt.new (K := m.map Prod.fst) Hg.out (by rw [HDs.out]; exact hdm) (by rw [HRd.out]; exact HN.out) (by rw [HRd.out]; exact Ha.out) Hmem.out (mm' := mm') (fun x => by
              rw [HRd.out, Hp.out, Hlk.out x]
              by_cases hx : x ∈ m.map Prod.fst
              · rw [if_pos ⟨hx, by simp⟩, if_pos hx]
              · rw [if_neg (fun h => hx h.1), if_neg hx])
            rw [HRd.out, ← take_snoc' Hdk.out] at hNn
            have HNn := Lib.hid hNn
            have hself : R d d = true := by
              rw [← HRd.out, joinB_iff]
              have hE := (dies_end Hg.out d).1 (by rw [HDs.out]; exact hdm)
              exact ⟨hE, hE, .refl _⟩
            have hanyd : (repsA R (ds.take (k + 1))).any (fun r => R r d) = true := by
              rw [take_snoc' Hdk.out, repsA_new Ha.out, List.any_append]; simp [hself]
            have hrlen : (repsA R (ds.take (k + 1))).length = p + 1 := by
              rw [take_snoc' Hdk.out, repsA_new Ha.out, List.length_append, Hp.out]; rfl
            have hpart : partI R (repsA R ds) d = p := by
              rw [part_pre hanyd, take_snoc' Hdk.out, repsA_new Ha.out, partI, findIdx_new Ha.out hself, Hp.out]
            have hlkd : lookM mm' d = some (p : Int) := by
              rw [Hlk.out d, if_pos ⟨(Hmem.out d).2 (.refl _), by simp⟩]
            have Hrlen := Lib.hid hrlen
            rw [hpart] at Htk
            have k2 := Hm'.out.look hwd
            rw [hlkd] at k2
            dsimp only [Option.getD] at k2
            have t0 := cell_off HT'.out (show wo.heap.size ∉ [w2.heap.size] by simp; omega) s01.out.1
            have t1 := cell_off HT'.out (show wo.heap.size ∉ [w2.heap.size] by simp; omega) s01.out.2
            have hownR := hown5.touch HT'.out (by simp; omega)
            have HTR := Lib.hid (HT5.out.trans HT'.out)
            have hz3 := HTR.out.size
            have hp0 : (0 : Int) ≤ (p : Int) := by omega
            have hp1 : (p : Int) ≤ 64 := by omega
            clear hr hNn hself hanyd hrlen hpart hlkd Hlk
            go_wp2_with (at_builtin; refine wpList_append1 (enc := encI) (size := 1) (B := M1.heap.size) rfl (.tmp 50) (.tmp 54) _ rfl 3 iI _ 8 Try.underlying25 hiI hzI hkI hbI rfl (by decide) rfl hownR (p : Int) _ rfl lenI oneI _ rfl rfl (by omega) (by omega) hz3 ?_; intro v' w7 hown' hgrow hat)
            have hnb : ∀ c, c < M1.heap.size → some c ≠ Value.ownBlock _ := fun c hc e => by have := (hownR.lt c e.symm).1; omega
            refine ⟨?rel, ?measure⟩
            case rel => exact ⟨k + 1, mm', by omega, by go_num, by rw [Hrlen.out]; go_num, by rw [Htk.out]; exact hown', Hm'.out.kept hgrow (hnb _ hMz), HNn, HTR.out.trans_own hgrow (fun j e => (hownR.lt j e).1)⟩
            case measure => first | (simp [intOf]; done) | (simp [intOf]; omega)
          · intro x y w7 hx hlk hr7 hlt7 hg7 hz7 hen
            have ek : keyDie.val x = vlD x := rfl
            have ee : (elInt Try.underlying3 zInt).val y = .int .i64 y := rfl
            rw [ek, ee] at hen
            rw [ek, ee]
            clear ek ee
            have hxk := hr7.sub
            have hxK : x ∈ m.map Prod.fst := Hr.out.sub x hx
            have hwx : wfD x := mem_ok Hr.out.map hxK
            have hm7 := Hm'.out.kept hg7 (fun e => hne (Option.some.inj e))
            have hnd' := hm7.nodup
            obtain ⟨X1, X2, hX1, hX2, HzX2, hkX1, hkX2, hbX2, hltX2⟩ := fresh w7 [.int .i64 0, .int .i64 0] [.int .i64 (x).side, .int .i64 (x).num] 40 rfl
            have hsX2 : (X1.setCell ⟨w7.heap.size, 0, none⟩ (.int .i64 (x).side)).setCell ⟨w7.heap.size, 1, none⟩ (.int .i64 (x).num) = X2 := hX2
            clear hX2
            obtain ⟨⟨z0q, z1q⟩, f0q, f1q⟩ := cells2 hkX1
            obtain ⟨⟨s0q, s1q⟩, _⟩ := cells2 hkX2
            clear hkX1
            have hgX1 : w7.grownBy X1 none := by rw [← hX1]; exact World.grownBy_alloc _ _ none
            have hgX2 : X1.grownBy X2 (some w7.heap.size) := by rw [← hsX2]; exact setCells_grown w7.heap.size [.int .i64 x.side, .int .i64 x.num] X1 0
            have hmX := hm7.below hbX2
            have hmlen : mm'.length ≤ 300 := by
              have h1 := nodup_len (c := m.map Prod.fst ++ mm.map Prod.fst) hnd' (fun z hz => by
                have h2 := look_mem.2 hz
                rw [Hlk.out z] at h2
                rw [List.mem_append]
                split at h2
                · rename_i h3; exact .inl h3.1
                · exact .inr (look_mem.1 h2))
              have h4 := hml0.out
              rw [List.length_append, List.length_map, List.length_map, List.length_map] at h1
              omega
            obtain ⟨w8, hu8, hm8, hg8⟩ := hmX.put hwx hpw (by simp only [maxLen]; omega)
            have hbr' : b < w7.heap.size := by omega
            have hrr' : w5.heap.size < w7.heap.size := by omega
            have n1 : some b ≠ some w7.heap.size := fun e => by have := Option.some.inj e; omega
            have n2 : some w5.heap.size ≠ some w7.heap.size := fun e => by have := Option.some.inj e; omega
            have n3 : some b ≠ some w2.heap.size := fun e => hnb5 (Option.some.inj e).symm
            have n4 : some w5.heap.size ≠ some w2.heap.size := fun e => hne (Option.some.inj e).symm
            have hr8 := RangeAt.kept (RangeAt.kept (RangeAt.kept hr7 hgX1 (by simp) (by simp)) hgX2 n1 n2) hg8 n3 n4
            have hl8 := (RangeAt.left_kept (RangeAt.kept (RangeAt.kept hr7 hgX1 (by simp) (by simp)) hgX2 n1 n2) hg8 n3 n4).trans ((RangeAt.left_kept (RangeAt.kept hr7 hgX1 (by simp) (by simp)) hgX2 n1 n2).trans (RangeAt.left_kept hr7 hgX1 (by simp) (by simp)))
            have HL8 := Lib.hid (show w8.rangeLeft b w5.heap.size < wr.rangeLeft b w5.heap.size by rw [hl8]; exact hlt7)
            have hT8 : Touch w5 w8 [w2.heap.size] := (((HT'.out.trans_own hg7 (fun j e => by cases e; exact Nat.le_refl _)).trans_own hgX1 (fun j e => by cases e)).trans_own hgX2 (fun j e => by cases e; omega)).trans (grown_touch hg8 (by simp))
            have hz8 : w6.heap.size ≤ w8.heap.size := by have := hg8.size; have := hgX2.size; have := hgX1.size; omega
            have Hlk8 : Hid (∀ z, lookM (putM mm' x (p : Int)) z = if z ∈ m.map Prod.fst ∧ z ∉ todo.filter (fun z => !decide (z = x)) then some (p : Int) else lookM mm z) := Lib.hid (fun z => by
              rw [lookM_putM]
              by_cases e : x = z
              · subst e
                rw [if_pos rfl, if_pos ⟨hxK, by simp⟩]
              · rw [if_neg e, Hlk.out z]
                have e2 : z ∈ todo.filter (fun z => !decide (z = x)) ↔ z ∈ todo := by
                  simp only [List.mem_filter, Bool.not_eq_true', decide_eq_false_iff_not]
                  exact ⟨fun h => h.1, fun h => ⟨h, fun e3 => e e3.symm⟩⟩
                simp only [e2])
            have HR8 := Lib.hid hr8; have HM8 := Lib.hid hm8; have HT8 := Lib.hid hT8
            clear hr hr7 hr8 hl8 hm7 hmX hg7 hgX1 hgX2 hg8 hT8 hm8 hlk Hlk hxk hnd' hz7
            go_wp2_with fail
            exact ⟨⟨_, _, HR8.out, HM8.out, Hlk8, HT8.out, hz8⟩, HL8.out⟩
    · have e1 : k = ds.length := by omega
      subst e1
      have hfull : (partsA R ds).take ds.length = partsG g := by
        rw [partsG, HRd.out, HDs.out, List.take_of_length_le (by rw [partsA, List.length_map]; omega)]
      have HO := Lib.hid (hown.base (show w.heap.size ≤ M1.heap.size by omega))
      rw [hfull] at HO
      clear hfull hown hdc a0 a1 a2
      go_wp2_with fail
      exact bodyPost_ret (v := .tuple #[u7, .int .i64 0]) (by simp [results, Try.results45, go_sem]) rfl ⟨_, by rw [HV.out], HO.out, hwr⟩
end Go.Proofs.Ytcpobcfncmcakaa
