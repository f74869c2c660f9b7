/- component.Chains, Loops. Condition: the graph in its memory. -/
import Derived.Test.YtcpobcfncmcakaaCompD
namespace Go.Proofs.Ytcpobcfncmcakaa
open Go.RowKit Go.Maps

/-! ### Chains, plain -/
section
variable {α : Type} {R : α → α → Bool} {ds : List α}
def chainsP (R : α → α → Bool) (ds : List α) (j : Nat) : List (List α) := (List.range (repsA R (ds.take j)).length).map fun k => (ds.take j).filter fun d => decide (partI R (repsA R ds) d = k)
theorem chainsP_len (j : Nat) : (chainsP R ds j).length = (repsA R (ds.take j)).length := by simp [chainsP]
theorem chainsP_all : chainsP R ds ds.length = chainsA R ds := by rw [chainsP, chainsA, List.take_length]
theorem chainsP_get {j k : Nat} (h : k < (repsA R (ds.take j)).length) : (chainsP R ds j)[k]? = some ((ds.take j).filter fun d => decide (partI R (repsA R ds) d = k)) := by
  rw [chainsP, List.getElem?_map, List.getElem?_range h]; rfl
theorem chainsP_row_len {j k : Nat} {r : List α} (h : (chainsP R ds j)[k]? = some r) : r.length ≤ j := by
  have hk := lt_of_get h
  rw [chainsP_len] at hk
  rw [chainsP_get hk] at h
  cases h
  refine Nat.le_trans (List.length_filter_le _ _) ?_
  rw [List.length_take]; omega
theorem part_old {j : Nat} {d : α} (ha : (repsA R (ds.take j)).any (fun r => R r d) = true) : partI R (repsA R ds) d < (repsA R (ds.take j)).length := by
  rw [show partI R (repsA R ds) d = partI R (repsA R (ds.take j)) d from findIdx_pre (repsA_take ds j) ha]
  exact part_lt ha
theorem part_new {j : Nat} {d : α} (hd : ds[j]? = some d) (hr : R d d = true) (ha : (repsA R (ds.take j)).any (fun r => R r d) = false) : partI R (repsA R ds) d = (repsA R (ds.take j)).length := by
  have h1 : (repsA R (ds.take (j + 1))).any (fun r => R r d) = true := by rw [take_snoc' hd, repsA_new ha, List.any_append]; simp [hr]
  rw [show partI R (repsA R ds) d = partI R (repsA R (ds.take (j + 1))) d from findIdx_pre (repsA_take ds (j + 1)) h1, take_snoc' hd, repsA_new ha, partI, findIdx_new ha hr]
theorem chainsP_old {j : Nat} {d : α} {r : List α} (hd : ds[j]? = some d) (ha : (repsA R (ds.take j)).any (fun r => R r d) = true) (hrow : (chainsP R ds j)[partI R (repsA R ds) d]? = some r) :
    chainsP R ds (j + 1) = (chainsP R ds j).set (partI R (repsA R ds) d) (r ++ [d]) := by
  have hp := part_old ha
  have hl : (repsA R (ds.take (j + 1))).length = (repsA R (ds.take j)).length := by rw [take_snoc' hd, repsA_old ha]
  rw [chainsP_get hp] at hrow
  cases hrow
  refine List.ext_getElem? fun i => ?_
  by_cases hi : i < (repsA R (ds.take j)).length
  · rw [chainsP_get (by omega), take_snoc' hd, List.filter_append, List.getElem?_set]
    by_cases e : partI R (repsA R ds) d = i
    · subst e
      rw [if_pos rfl, if_pos (by rw [chainsP_len]; exact hp)]
      simp
    · rw [if_neg e, chainsP_get hi]
      simp [e]
  · rw [List.getElem?_eq_none (by rw [chainsP_len]; omega), List.getElem?_eq_none (by rw [List.length_set, chainsP_len]; omega)]
theorem chainsP_new (hrel : Rel R ds) {j : Nat} {d : α} (hd : ds[j]? = some d) (hr : R d d = true) (ha : (repsA R (ds.take j)).any (fun r => R r d) = false) :
    chainsP R ds (j + 1) = (chainsP R ds j ++ [[]]).set (partI R (repsA R ds) d) ([] ++ [d]) := by
  have hp := part_new hd hr ha
  have hl : (repsA R (ds.take (j + 1))).length = (repsA R (ds.take j)).length + 1 := by rw [take_snoc' hd, repsA_new ha]; simp
  refine List.ext_getElem? fun i => ?_
  by_cases hi : i < (repsA R (ds.take j)).length + 1
  · rw [chainsP_get (by omega), take_snoc' hd, List.filter_append, List.getElem?_set]
    by_cases e : partI R (repsA R ds) d = i
    · rw [if_pos e, if_pos (by rw [List.length_append, chainsP_len]; simp; omega)]
      have hno : (ds.take j).filter (fun x => decide (partI R (repsA R ds) x = i)) = [] := by
        rw [List.filter_eq_nil_iff]
        intro x hx
        have h2 := part_old (ds := ds) (d := x) (reps_any (hrel.take j) x hx)
        simp only [decide_eq_true_eq]
        omega
      rw [hno]
      simp [e]
    · rw [if_neg e, List.getElem?_append_left (by rw [chainsP_len]; omega), chainsP_get (by omega)]
      simp [e]
  · rw [List.getElem?_eq_none (by rw [chainsP_len]; omega), List.getElem?_eq_none (by rw [List.length_set, List.length_append, chainsP_len]; simp; omega)]
end

/-! ### A slice of slices of dies that grow -/
structure Hdr where
  a : Option Addr
  n : Nat
  c : Nat
abbrev Hdr.v (h : Hdr) : Value := .slice h.a h.n h.c
def encH (h : Hdr) : List Value := [h.v]
theorem lenH (h : Hdr) : (encH h).length = 1 := rfl
theorem oneH (h : Hdr) : ∀ u ∈ encH h, u.oneCell' = true := by simp [encH, Value.oneCell']
theorem infoC : (Try.prog.info? 84).map (fun i => (i.zero, i.size, i.bytes)) = some (some (.slice none 0 0), 1, 24) := by kernel_rfl
abbrev OwnH (B : Nat) (w : World) (u : Value) (hs : List Hdr) : Prop := Own encH 1 84 B w u hs
structure ChSt (B : Nat) (w : World) (u : Value) (hs : List Hdr) (R : List (List Die)) : Prop where
  own : OwnH B w u hs
  len : hs.length = R.length
  row : ∀ (i : Nat) (h : Hdr) (r : List Die), hs[i]? = some h → R[i]? = some r → OwnD B w h.v r
  apart : ∀ (i j : Nat) (h k : Hdr), hs[i]? = some h → hs[j]? = some k → i ≠ j → Apart h.v k.v
section
variable {B : Nat} {w w' : World} {u : Value} {hs : List Hdr} {R : List (List Die)}
theorem row_ne {x : Value} {r : List Die} (h : OwnD B w x r) (ho : OwnH B w u hs) : x.ownBlock = none ∨ x.ownBlock ≠ u.ownBlock := by
  rcases h.2 with ⟨rfl, _⟩ | ⟨g, cap, cur, rfl, _, hg, _⟩
  · exact .inl rfl
  · exact .inr (own_block ho hg (by decide))
theorem ne_row {x : Value} {r : List Die} (h : OwnD B w x r) (ho : OwnH B w u hs) : u.ownBlock = none ∨ u.ownBlock ≠ x.ownBlock := by
  rcases row_ne h ho with e | e
  · rw [e]; cases u.ownBlock <;> simp
  · exact .inr fun e2 => e e2.symm
theorem chSt_nil (B : Nat) (w : World) : ChSt B w (.slice none 0 0) [] [] := ⟨own_nil _ _ _ _ _, rfl, fun i h r hh => by simp at hh, fun i j h k hh => by simp at hh⟩
theorem ChSt.below (h : ChSt B w u hs R) (hb : Below w.heap.size w w') : ChSt B w' u hs R := ⟨h.own.below hb, h.len, fun i x r h1 h2 => (h.row i x r h1 h2).below hb, h.apart⟩
theorem ChSt.push {v' : Value} (h : ChSt B w u hs R) (hown : OwnH B w' v' (hs ++ [⟨none, 0, 0⟩])) (hg : w.grownBy w' u.ownBlock) : ChSt B w' v' (hs ++ [⟨none, 0, 0⟩]) (R ++ [[]]) := by
  refine ⟨hown, by simp [h.len], fun i x r h1 h2 => ?_, fun i j x k h1 h2 hij => ?_⟩
  · rcases Nat.lt_or_ge i hs.length with hi | hi
    · rw [List.getElem?_append_left hi] at h1
      rw [List.getElem?_append_left (by rw [← h.len]; exact hi)] at h2
      have := h.row i x r h1 h2
      exact this.kept hg (row_ne this h.own)
    · have hl := lt_of_get h1
      simp at hl
      obtain rfl : i = hs.length := by omega
      rw [List.getElem?_append_right (Nat.le_refl _)] at h1
      rw [h.len, List.getElem?_append_right (Nat.le_refl _)] at h2
      simp at h1 h2
      subst h1; subst h2
      exact own_nil _ _ _ _ _
  · rcases Nat.lt_or_ge i hs.length with hi | hi
    · rw [List.getElem?_append_left hi] at h1
      rcases Nat.lt_or_ge j hs.length with hj | hj
      · rw [List.getElem?_append_left hj] at h2
        exact h.apart i j x k h1 h2 hij
      · have hl := lt_of_get h2
        simp at hl
        obtain rfl : j = hs.length := by omega
        rw [List.getElem?_append_right (Nat.le_refl _)] at h2
        simp at h2
        subst h2
        unfold Apart
        cases x.v.ownBlock <;> simp [Value.ownBlock]
    · have hl := lt_of_get h1
      simp at hl
      obtain rfl : i = hs.length := by omega
      rw [List.getElem?_append_right (Nat.le_refl _)] at h1
      simp at h1
      subst h1
      exact .inl rfl
theorem own_hdr {x : Value} {r : List Die} (h : OwnD B w x r) : ∃ k : Hdr, x = k.v := by
  rcases h.cases with ⟨rfl, rfl⟩ | ⟨g, cap, rfl, _⟩
  · exact ⟨⟨none, 0, 0⟩, rfl⟩
  · exact ⟨⟨_, _, _⟩, rfl⟩
theorem ChSt.put {gu n cap k : Nat} {h0 h1 : Hdr} {r0 r1 : List Die} (h : ChSt B w (.slice (some ⟨gu, 0, none⟩) n cap) hs R) (hn : n = hs.length) (hk : hs[k]? = some h0) (hr : R[k]? = some r0)
    (ho : OwnD B w' h1.v r1) (hg : w.grownBy w' h0.v.ownBlock) (hat : h1.v.ownBlock = h0.v.ownBlock ∨ h1.v.ownBlock = some w.heap.size) :
    ChSt B (w'.setCell ⟨gu, k, none⟩ h1.v) (.slice (some ⟨gu, 0, none⟩) n cap) (hs.set k h1) (R.set k r1) := by
  have hrow0 := h.row k h0 r0 hk hr
  have hu : OwnH B w' (.slice (some ⟨gu, 0, none⟩) n cap) hs := h.own.kept hg (ne_row hrow0 h.own)
  have hkl := lt_of_get hk
  have hset := setCells_grown gu (encH h1) w' (k * 1)
  have hput := hu.put lenH (by omega) hn (show k < n by omega) h1
  rw [show w'.setCell ⟨gu, k, none⟩ h1.v = w'.setCells gu (k * 1) (encH h1) by rw [Nat.mul_one]; rfl]
  have hlt : ∀ (i : Nat) (x : Hdr), hs[i]? = some x → ∀ g, x.v.ownBlock = some g → g < w.heap.size := fun i x hx g e => by
    obtain ⟨r, hr⟩ := get_of_lt (show i < R.length by rw [← h.len]; exact lt_of_get hx)
    exact ((h.row i x r hx hr).lt g e).2
  refine ⟨hput, by simp [h.len], fun i x r q1 q2 => ?_, fun i j x y q1 q2 hij => ?_⟩
  · by_cases e : k = i
    · subst e
      rw [List.getElem?_set_self hkl] at q1
      rw [List.getElem?_set_self (by rw [← h.len]; exact hkl)] at q2
      cases q1; cases q2
      exact ho.kept hset (row_ne ho hu)
    · rw [List.getElem?_set_ne e] at q1
      rw [List.getElem?_set_ne e] at q2
      have h3 := h.row i x r q1 q2
      have h4 := h3.kept hg (h.apart i k x h0 q1 hk (fun e2 => e e2.symm))
      exact h4.kept hset (row_ne h4 hu)
  · by_cases e : k = i
    · subst e
      rw [List.getElem?_set_self hkl] at q1
      cases q1
      rw [List.getElem?_set_ne hij] at q2
      exact (h.apart k j h0 y hk q2 hij).append hat (hlt j y q2)
    · rw [List.getElem?_set_ne e] at q1
      by_cases e2 : k = j
      · subst e2
        rw [List.getElem?_set_self hkl] at q2
        cases q2
        exact (h.apart i k x h0 q1 hk hij).append' hat (hlt i x q1)
      · rw [List.getElem?_set_ne e2] at q2
        exact h.apart i j x y q1 q2 hij
end
theorem ChSt.base {B B' : Nat} {w : World} {u : Value} {hs : List Hdr} {R : List (List Die)} (h : ChSt B w u hs R) (hB : B' ≤ B) : ChSt B' w u hs R := ⟨h.own.base hB, h.len, fun i x r h1 h2 => (h.row i x r h1 h2).base hB, h.apart⟩
theorem ChSt.len_le {B : Nat} {w : World} {u : Value} {hs : List Hdr} {R : List (List Die)} (h : ChSt B w u hs R) : ∃ A c, u = .slice A R.length c := by
  obtain ⟨A, c, e, _⟩ := h.own.slOf
  exact ⟨A, c, by rw [e, h.len]⟩
noncomputable def chainsG (g : Graph) : List (List Die) := chainsA (joinB (edgesG g)) (diesG g)
set_option maxHeartbeats 8000000 in
set_option maxRecDepth 100000 in
theorem Chains_ok (v : Value) (g : Graph) (w : World) (h : GraphAt w v g) :
    Calls Try.prog 26 #[v] w fun e w' => ∃ u hs, e = .returned (.tuple #[u, .int .i64 (validE g)]) ∧ ChSt w.heap.size w' u hs (chainsG g) ∧ Below w.heap.size w w' := by
  have h' := h
  obtain ⟨v1, v2, v3, rfl, ho, hr, hk⟩ := h
  obtain ⟨A1, c1, rfl, _, _, _⟩ := ho.cells
  obtain ⟨A2, c2, rfl, _, _, _⟩ := hr.cells
  obtain ⟨A3, c3, rfl, _, _, _⟩ := hk.cells
  obtain ⟨W0, hW0, Hz0, hb0, hlt0, hc0⟩ := boxed w #[.slice A1 g.obv.length c1, .slice A2 g.rev.length c2, .slice A3 g.links.length c3] 49
  have a0 := hc0 0 _ rfl; have a1 := hc0 1 _ rfl; have a2 := hc0 2 _ rfl
  have h1 := h'.below hb0
  clear hc0 ho hr hk
  go_enter Try.func26, Try.ntmps26
  go_wp2_with fail
  refine (cParts_ok _ g _ h1).mono ?_
  rintro e w2 ⟨up, rfl, hpo, hb2⟩
  have hp : Ints w2 up (partsG g) := hpo.slOf
  obtain ⟨Ap, cp, rfl, _, _, hpc⟩ := hp.cells
  have hw2 := below_trans hb0 hb2
  have a0 := cell_later hb2 a0; have a1 := cell_later hb2 a1; have a2 := cell_later hb2 a2
  have h2 := h1.below hb2
  clear hW0
  cases hg : graphB g
  · have hv : validE g = 1 := by simp [validE, hg]
    have hp0 : (partsG g).length = 0 := by rw [partsG, diesG, if_neg (by simp [hg])]; rfl
    have hq : chainsG g = [] := by rw [chainsG, diesG, if_neg (by simp [hg])]; rfl
    have HQ := Lib.hid hq; have HV := Lib.hid hv
    rw [hv, hp0]
    clear hp0 hq hv hg hpc a0 a1 a2 hp hpo
    go_wp2_with fail
    exact bodyPost_ret (v := .tuple #[.slice none 0 0, .int .i64 1]) (by simp [results, Try.results26, go_sem]) rfl ⟨_, _, by rw [HV.out], by rw [HQ.out]; exact chSt_nil _ _, hw2⟩
  have hv : validE g = 0 := by simp [validE, hg]
  have HV := Lib.hid hv
  rw [hv]
  have Hg := Lib.hid hg
  have hdl := dies_le hg
  have Hrel := Lib.hid (rel_join (E := edgesG g) (fun d hd => (dies_end hg d).1 hd))
  have HC : Hid (chainsG g = chainsA (joinB (edgesG g)) (diesG g)) := Lib.hid rfl
  have hpl : (partsG g).length = (diesG g).length := by rw [partsG, partsA, List.length_map]
  have Hpg := Lib.hid (fun (k : Nat) (d : Die) (hd : (diesG g)[k]? = some d) => show (partsG g)[k]? = some ((partI (joinB (edgesG g)) (repsA (joinB (edgesG g)) (diesG g)) d : Nat) : Int) by rw [partsG, partsA, List.getElem?_map, hd]; rfl)
  rw [hpl] at hpc ⊢
  clear hpl hv hg hp hpo
  go_wp2_with fail
  refine (Dies_ok _ g _ h2).mono ?_
  rintro e M ⟨ud, rfl, hd, hb3⟩
  obtain ⟨Ad, cd, rfl, _, _, hdc⟩ := hd.cells
  have hw3 := below_trans hw2 hb3
  rw [(show validE g = 0 from HV.out)]
  generalize hR : joinB (edgesG g) = R at Hrel HC Hpg
  generalize hds : diesG g = ds at Hrel HC Hpg hdl hpc hdc ⊢
  obtain ⟨iC, hiC, hzC, hkC, hbC⟩ := info_parts infoC
  obtain ⟨iD, hiD, hzD, hkD, hbD⟩ := info_parts infoD
  clear a0 a1 a2 hd hR hds
  go_wp2_with fail
  go_loopw [8, 26] (fun u i wr => ∃ (j : Nat) (hs : List Hdr), j ≤ ds.length ∧ i = .int .i64 j ∧ ChSt M.heap.size wr u hs (chainsP R ds j) ∧ Below M.heap.size M wr) (fun _ i _ => ds.length - (intOf i).toNat)
  case atStart => exact ⟨0, [], Nat.zero_le _, rfl, chSt_nil _ _, Below.refl _ _⟩
  case round =>
    obtain ⟨j, hs, hj, rfl, hCh, hb⟩ := hrel
    have hb2r := below_trans hb3 hb
    obtain ⟨Au, cu, rfl⟩ := hCh.len_le
    have hrl := repsA_len (R := R) (ds.take j)
    rw [List.length_take] at hrl
    by_cases hlt : j < ds.length
    · obtain ⟨bd, od, rfl, _, hdcell⟩ := hdc j hlt
      obtain ⟨bp, op, rfl, _, hpcell⟩ := hpc j hlt
      obtain ⟨d, hdj⟩ := get_of_lt hlt
      have HY := Lib.hid (fun w' hb' => hdcell w' hb' j d hdj)
      have z0 := hpcell wr hb2r j _ (Hpg.out j d hdj)
      have hrefl := Hrel.out.refl d (List.mem_of_getElem? hdj)
      have hlenP := chainsP_len (R := R) (ds := ds) j
      obtain ⟨P, hP⟩ : ∃ P, partI R (repsA R ds) d = P := ⟨_, rfl⟩
      obtain ⟨L, hL⟩ : ∃ L, (chainsP R ds j).length = L := ⟨_, rfl⟩
      rw [hP] at z0
      rw [hL] at hlenP hCh ⊢
      have hCL : hs.length = L := by rw [hCh.len, hL]
      have hMr := hb.size
      clear hdc hpc hdcell hpcell
      cases ha : (repsA R (ds.take j)).any (fun r => R r d)
      · have hpn := part_new hdj hrefl ha
        have hcn := Lib.hid (chainsP_new Hrel.out hdj hrefl ha)
        rw [hP] at hpn hcn
        have ePL : P = L := by omega
        subst ePL
        have HCL := Lib.hid hCL; have HL := Lib.hid hL
        have hl2 : hs.length ≤ 64 := by omega
        clear ha hpn hP hCL hL hlenP hdj hrefl
        go_wp2_with (at_builtin; refine wpList_append1 (enc := encH) (size := 1) (B := M.heap.size) rfl (.tmp 35) (.tmp 36) _ rfl 84 iC _ 24 Try.underlying54 hiC hzC hkC hbC rfl (by decide) rfl hCh.own ⟨none, 0, 0⟩ _ rfl lenH oneH _ rfl rfl (by omega) (by omega) hMr ?_; intro v' w5 hown' hgrow hat)
        have hCh1 := hCh.push hown' hgrow
        have hb5 := hb.grown hgrow hMr (fun g e => (hCh.own.lt g e).1)
        have hp1' : (hs ++ [(⟨none, 0, 0⟩ : Hdr)])[P]? = some ⟨none, 0, 0⟩ := by rw [← HCL.out, List.getElem?_append_right (Nat.le_refl _)]; simp
        have hr1' : (chainsP R ds j ++ [([] : List Die)])[P]? = some [] := by rw [← HL.out, List.getElem?_append_right (Nat.le_refl _)]; simp
        obtain ⟨r0, hr0⟩ : ∃ r0 : List Die, [] = r0 := ⟨_, rfl⟩
        obtain ⟨h0, hh0⟩ : ∃ h0 : Hdr, ⟨none, 0, 0⟩ = h0 := ⟨_, rfl⟩
        have hrl0 : r0.length ≤ j := by rw [← hr0]; simp
        have hco : Hid (chainsP R ds (j + 1) = (chainsP R ds j ++ [([] : List Die)]).set P (r0 ++ [d])) := Lib.hid (by rw [← hr0]; exact hcn.out)
        rw [hh0] at hp1' hCh1
        obtain ⟨R1, hR1⟩ : ∃ R1, chainsP R ds j ++ [([] : List Die)] = R1 := ⟨_, rfl⟩
        rw [hR1] at hCh1 hr1' hco
        rw [hr0] at hr1'
        obtain ⟨hs1, hhs1⟩ : ∃ hs1, hs ++ [h0] = hs1 := ⟨_, rfl⟩
        rw [hhs1] at hCh1 hp1'
        have hp1 := hp1'; have hr1 := hr1'
        clear hp1' hr1' hr0 hh0 hR1 hhs1 hown' hgrow hat hCh
        obtain ⟨gu, cu1, hue, hgu, hgul, hcn1, hcm1⟩ : ∃ gu cu1, v' = Value.slice (some ⟨gu, 0, none⟩) hs1.length cu1 ∧ M.heap.size ≤ gu ∧ gu < (w5).heap.size ∧ hs1.length ≤ cu1 ∧ cu1 ≤ maxLen := by
          rcases hCh1.own.cases with ⟨_, e⟩ | h
          · rw [e] at hp1; simp at hp1
          · exact h
        rw [hue] at hCh1 ⊢
        clear hue
        obtain ⟨N, hN⟩ : ∃ N, hs1.length = N := ⟨_, rfl⟩
        have HN := Lib.hid hN.symm
        rw [hN] at hCh1 hcn1 ⊢
        have hPN : P < N := by rw [← hN]; exact lt_of_get hp1
        have hPN1 : (P : Int) < (N : Int) := by omega
        have hP0 : (0 : Int) ≤ (P : Int) := by omega
        have hj1 : (j : Int) < (ds.length : Int) := by omega
        have hj0 : (0 : Int) ≤ (j : Int) := by omega
        have hcm2 : (cu1 : Int) ≤ 9223372036854775807 := by simp only [maxLen] at hcm1; omega
        have hb0 : Below M.heap.size M (w5) := hb5
        have hba : Below (w5).heap.size (w5) (w5).drew := (Below.refl _ _).drew
        obtain ⟨wa, hwa⟩ : ∃ W, (w5).drew = W := ⟨_, rfl⟩
        rw [hwa] at hba
        have hChA := hCh1.below hba
        have c0 : wa.cell? ⟨gu, P, none⟩ = some h0.v := by
          have := (hChA.own.cellsAt lenH HN.out hp1 (j := 0) rfl).1
          simpa using this
        have hbMa := hb0.trans (hba.mono hb0.size)
        obtain ⟨y0, y1⟩ := HY.out wa hbMa
        have hHeld : (fun w' : World => w'.cell? ⟨gu, P, none⟩ = some h0.v ∧ w'.cell? ⟨bd, od + j * 2, none⟩ = some (.int .i64 d.side) ∧ w'.cell? ⟨bd, od + j * 2 + 1, none⟩ = some (.int .i64 d.num)) wa := ⟨c0, y0, y1⟩
        have HH := Lib.hid hHeld
        obtain ⟨ha0, hn0, hc0⟩ := h0
        have hrow := hChA.row P _ r0 hp1 hr1
        refine wp_region_S 13 (fun w' => w'.cell? ⟨gu, P, none⟩ = some (.slice ha0 hn0 hc0) ∧ w'.cell? ⟨bd, od + j * 2, none⟩ = some (.int .i64 d.side) ∧ w'.cell? ⟨bd, od + j * 2 + 1, none⟩ = some (.int .i64 d.num)) (by kernel_rfl) (by decide) ?_
        rw [hwa]
        clear hwa c0 y0 y1 hN
        refine wpAnyS_takeD 0 (some 38) (.slice (some ⟨gu, 0, none⟩) N cu1) (by rfl) (by rfl) (by kernel_rfl) (by exact fun _ _ _ h => h) (by rfl) (fun w' hS => by go_simp) hHeld ?_
        simp only [Act.put, List.setIfInBounds_toArray, List.set_cons_succ, List.set_cons_zero]
        refine wpAnyS_takeD 1 (some 39) (.int .i64 (P : Int)) (by rfl) (by rfl) (by kernel_rfl) (by exact fun _ _ _ h => h) (by rfl) (fun w' hS => by go_simp) hHeld ?_
        simp only [Act.put, List.setIfInBounds_toArray, List.set_cons_succ, List.set_cons_zero]
        refine wpAnyS_takeD 2 (some 40) (.slice (some ⟨gu, 0, none⟩) N cu1) (by rfl) (by rfl) (by kernel_rfl) (by exact fun _ _ _ h => h) (by rfl) (fun w' hS => by go_simp) hHeld ?_
        simp only [Act.put, List.setIfInBounds_toArray, List.set_cons_succ, List.set_cons_zero]
        refine wpAnyS_takeD 3 (some 41) (.int .i64 (P : Int)) (by rfl) (by rfl) (by kernel_rfl) (by exact fun _ _ _ h => h) (by rfl) (fun w' hS => by go_simp) hHeld ?_
        simp only [Act.put, List.setIfInBounds_toArray, List.set_cons_succ, List.set_cons_zero]
        refine wpAnyS_takeD 4 (some 42) (.pointer (some ⟨gu, P, none⟩)) (by rfl) (by rfl) (by kernel_rfl) (by exact fun _ _ _ h => h) (by rfl) (fun w' hS => by go_simp) hHeld ?_
        simp only [Act.put, List.setIfInBounds_toArray, List.set_cons_succ, List.set_cons_zero]
        refine wpAnyS_takeD 5 (some 43) (.slice ha0 hn0 hc0) (by rfl) (by rfl) (by kernel_rfl) (by exact fun _ _ _ h => h) (by rfl) (fun w' hS => by (obtain ⟨x0, x1, x2⟩ := hS; go_simp)) hHeld ?_
        simp only [Act.put, List.setIfInBounds_toArray, List.set_cons_succ, List.set_cons_zero]
        refine wpAnyS_takeD 6 (some 44) (.slice (some ⟨bd, od, none⟩) ds.length cd) (by rfl) (by rfl) (by kernel_rfl) (by exact fun _ _ _ h => h) (by rfl) (fun w' hS => by go_simp) hHeld ?_
        simp only [Act.put, List.setIfInBounds_toArray, List.set_cons_succ, List.set_cons_zero]
        refine wpAnyS_takeD 7 (some 45) (.int .i64 (j : Int)) (by rfl) (by rfl) (by kernel_rfl) (by exact fun _ _ _ h => h) (by rfl) (fun w' hS => by go_simp) hHeld ?_
        simp only [Act.put, List.setIfInBounds_toArray, List.set_cons_succ, List.set_cons_zero]
        refine wpAnyS_takeD 8 (some 46) (.pointer (some ⟨bd, od + j * 2, none⟩)) (by rfl) (by rfl) (by kernel_rfl) (by exact fun _ _ _ h => h) (by rfl) (fun w' hS => by go_simp) hHeld ?_
        simp only [Act.put, List.setIfInBounds_toArray, List.set_cons_succ, List.set_cons_zero]
        refine wpAnyS_takeD 9 (some 47) (vlD d) (by rfl) (by rfl) (by kernel_rfl) (by exact fun _ _ _ h => h) (by rfl) (fun w' hS => by (obtain ⟨x0, x1, x2⟩ := hS; go_simp)) hHeld ?_
        simp only [Act.put, List.setIfInBounds_toArray, List.set_cons_succ, List.set_cons_zero]
        clear hHeld
        obtain ⟨V, hV, HzV, hbV, hltV, _⟩ := boxed wa #[.int .i64 d.side, .int .i64 d.num] 40
        have hkV : V.heap[wa.heap.size]? = some (.cells (encD d).toArray 40 (0, 0)) := by rw [← hV]; exact heap_alloc_new _ _
        have hChV := hChA.below hbV
        have hrowV := hrow.below hbV
        have hbMV := hbMa.trans (hbV.mono hbMa.size)
        have hVs := hbMV.size
        refine wpAnyS_one 10 (by kernel_rfl) (by rfl) (by decide) (fun K hK => ?_)
        have HK := Lib.hid hK; clear hK
        rw [if_pos (by rfl)]
        go_simp
        refine HK.out _ _ ⟨cell_later hbV HH.out.1, cell_later hbV HH.out.2.1, cell_later hbV HH.out.2.2⟩ ?_
        clear HK
        refine wpAnyS_one 11 (by kernel_rfl) (by rfl) (by decide) (fun K hK => ?_)
        have HK := Lib.hid hK; clear hK
        refine step_append_sl (by rfl) (.tmp 43) (.tmp 48) _ (by rfl) iD _ 16 Try.underlying84 hiD hzD hkD hbD (by rfl) (by decide) oneD (by rfl) hrowV _ 1 1 [d] (by rfl) (by rfl) (sl_one (by rfl) hkV) (by simp; omega) (by simp; omega) hVs ?_
        intro v'' w7 ho7 hg7 hat7
        have hbM7 := hbMV.grown hg7 hVs (fun g e => (hrowV.lt g e).1)
        obtain ⟨cgu, hfree⟩ : w7.cell? ⟨gu, P, none⟩ = some (.slice ha0 hn0 hc0) ∧ w7.frozen? ⟨gu, P, none⟩ = false := by
          have := (hChV.own.kept hg7 (ne_row hrowV hChV.own)).cellsAt lenH HN.out hp1 (j := 0) rfl
          simpa using this
        have hHeld : (fun w' : World => w'.cell? ⟨gu, P, none⟩ = some (.slice ha0 hn0 hc0) ∧ w'.cell? ⟨bd, od + j * 2, none⟩ = some (.int .i64 d.side) ∧ w'.cell? ⟨bd, od + j * 2 + 1, none⟩ = some (.int .i64 d.num)) w7 := ⟨cgu, (HY.out w7 hbM7).1, (HY.out w7 hbM7).2⟩
        refine HK.out _ _ hHeld ?_
        clear HK
        refine wpAnyS_takeD 12 (some 50) (.pointer (some ⟨gu, P, none⟩)) (by rfl) (by rfl) (by kernel_rfl) (by exact fun _ _ _ h => h) (by rfl) (fun w' hS => by go_simp) hHeld ?_
        simp only [Act.put, List.setIfInBounds_toArray]
        clear hHeld
        obtain ⟨h1, rfl⟩ := own_hdr ho7
        have hfin := hChV.put HN.out hp1 hr1 ho7 hg7 hat7
        have hbF : Below M.heap.size M (w7.setCell ⟨gu, P, none⟩ h1.v) := hbM7.grown (setCells_grown gu [h1.v] w7 P) hbM7.size (fun g e => by cases e; exact hgu)
        have HF := Lib.hid hfin; have HB := Lib.hid hbF
        refine (show tailOf _ _ _ _ _ _ _ _ from ⟨by kernel_rfl, ?_⟩)
        simp only [List.drop_succ_cons, List.drop_zero]
        go_wp2_with fail
        refine ⟨?rel, ?measure⟩
        case rel => exact ⟨j + 1, _, by omega, by go_num, by rw [hco.out]; exact HF.out, HB.out⟩
        case measure => first | (simp [intOf]; done) | (simp [intOf]; omega)
      · have hpo := part_old (ds := ds) (d := d) ha
        obtain ⟨r0, hr0⟩ := get_of_lt (show P < (chainsP R ds j).length by rw [hL, hlenP, ← hP]; exact hpo)
        have hco := Lib.hid (chainsP_old hdj ha (by rw [hP]; exact hr0))
        rw [hP] at hco
        obtain ⟨h0, hh0⟩ := get_of_lt (show P < hs.length by rw [hCL, hlenP, ← hP]; exact hpo)
        have hrl0 := chainsP_row_len hr0
        have hne1 : ((P : Int) == (L : Int)) = false := by simp; omega
        have hne2 : (P == L) = false := by simp; omega
        obtain ⟨hs1, rfl⟩ : ∃ hs1, hs1 = hs := ⟨_, rfl⟩
        have hp1 := hh0; have hr1 := hr0
        have Hp1 := Lib.hid hp1; have Hr1 := Lib.hid hr1; have HCL := Lib.hid hCL
        clear ha hpo hP hCL hL hdj hrefl hp1 hr1 hh0 hr0
        go_wp2_with fail
        have hp1 := Hp1.out; have hr1 := Hr1.out
        have hCh1 := hCh
        obtain ⟨gu, cu1, hue, hgu, hgul, hcn1, hcm1⟩ : ∃ gu cu1, (Value.slice Au L cu) = Value.slice (some ⟨gu, 0, none⟩) hs1.length cu1 ∧ M.heap.size ≤ gu ∧ gu < (wr).heap.size ∧ hs1.length ≤ cu1 ∧ cu1 ≤ maxLen := by
          rcases hCh1.own.cases with ⟨_, e⟩ | h
          · rw [e] at hp1; simp at hp1
          · exact h
        rw [hue] at hCh1 ⊢
        clear hue
        obtain ⟨N, hN⟩ : ∃ N, hs1.length = N := ⟨_, rfl⟩
        have HN := Lib.hid hN.symm
        rw [hN] at hCh1 hcn1 ⊢
        have hPN : P < N := by rw [← hN]; exact lt_of_get hp1
        have hPN1 : (P : Int) < (N : Int) := by omega
        have hP0 : (0 : Int) ≤ (P : Int) := by omega
        have hj1 : (j : Int) < (ds.length : Int) := by omega
        have hj0 : (0 : Int) ≤ (j : Int) := by omega
        have hcm2 : (cu1 : Int) ≤ 9223372036854775807 := by simp only [maxLen] at hcm1; omega
        have hb0 : Below M.heap.size M (wr) := hb
        have hba : Below (wr).heap.size (wr) (wr).drew := (Below.refl _ _).drew
        obtain ⟨wa, hwa⟩ : ∃ W, (wr).drew = W := ⟨_, rfl⟩
        rw [hwa] at hba
        have hChA := hCh1.below hba
        have c0 : wa.cell? ⟨gu, P, none⟩ = some h0.v := by
          have := (hChA.own.cellsAt lenH HN.out hp1 (j := 0) rfl).1
          simpa using this
        have hbMa := hb0.trans (hba.mono hb0.size)
        obtain ⟨y0, y1⟩ := HY.out wa hbMa
        have hHeld : (fun w' : World => w'.cell? ⟨gu, P, none⟩ = some h0.v ∧ w'.cell? ⟨bd, od + j * 2, none⟩ = some (.int .i64 d.side) ∧ w'.cell? ⟨bd, od + j * 2 + 1, none⟩ = some (.int .i64 d.num)) wa := ⟨c0, y0, y1⟩
        have HH := Lib.hid hHeld
        obtain ⟨ha0, hn0, hc0⟩ := h0
        have hrow := hChA.row P _ r0 hp1 hr1
        refine wp_region_S 13 (fun w' => w'.cell? ⟨gu, P, none⟩ = some (.slice ha0 hn0 hc0) ∧ w'.cell? ⟨bd, od + j * 2, none⟩ = some (.int .i64 d.side) ∧ w'.cell? ⟨bd, od + j * 2 + 1, none⟩ = some (.int .i64 d.num)) (by kernel_rfl) (by decide) ?_
        rw [hwa]
        clear hwa c0 y0 y1 hN
        refine wpAnyS_takeD 0 (some 38) (.slice (some ⟨gu, 0, none⟩) N cu1) (by rfl) (by rfl) (by kernel_rfl) (by exact fun _ _ _ h => h) (by rfl) (fun w' hS => by go_simp) hHeld ?_
        simp only [Act.put, List.setIfInBounds_toArray, List.set_cons_succ, List.set_cons_zero]
        refine wpAnyS_takeD 1 (some 39) (.int .i64 (P : Int)) (by rfl) (by rfl) (by kernel_rfl) (by exact fun _ _ _ h => h) (by rfl) (fun w' hS => by go_simp) hHeld ?_
        simp only [Act.put, List.setIfInBounds_toArray, List.set_cons_succ, List.set_cons_zero]
        refine wpAnyS_takeD 2 (some 40) (.slice (some ⟨gu, 0, none⟩) N cu1) (by rfl) (by rfl) (by kernel_rfl) (by exact fun _ _ _ h => h) (by rfl) (fun w' hS => by go_simp) hHeld ?_
        simp only [Act.put, List.setIfInBounds_toArray, List.set_cons_succ, List.set_cons_zero]
        refine wpAnyS_takeD 3 (some 41) (.int .i64 (P : Int)) (by rfl) (by rfl) (by kernel_rfl) (by exact fun _ _ _ h => h) (by rfl) (fun w' hS => by go_simp) hHeld ?_
        simp only [Act.put, List.setIfInBounds_toArray, List.set_cons_succ, List.set_cons_zero]
        refine wpAnyS_takeD 4 (some 42) (.pointer (some ⟨gu, P, none⟩)) (by rfl) (by rfl) (by kernel_rfl) (by exact fun _ _ _ h => h) (by rfl) (fun w' hS => by go_simp) hHeld ?_
        simp only [Act.put, List.setIfInBounds_toArray, List.set_cons_succ, List.set_cons_zero]
        refine wpAnyS_takeD 5 (some 43) (.slice ha0 hn0 hc0) (by rfl) (by rfl) (by kernel_rfl) (by exact fun _ _ _ h => h) (by rfl) (fun w' hS => by (obtain ⟨x0, x1, x2⟩ := hS; go_simp)) hHeld ?_
        simp only [Act.put, List.setIfInBounds_toArray, List.set_cons_succ, List.set_cons_zero]
        refine wpAnyS_takeD 6 (some 44) (.slice (some ⟨bd, od, none⟩) ds.length cd) (by rfl) (by rfl) (by kernel_rfl) (by exact fun _ _ _ h => h) (by rfl) (fun w' hS => by go_simp) hHeld ?_
        simp only [Act.put, List.setIfInBounds_toArray, List.set_cons_succ, List.set_cons_zero]
        refine wpAnyS_takeD 7 (some 45) (.int .i64 (j : Int)) (by rfl) (by rfl) (by kernel_rfl) (by exact fun _ _ _ h => h) (by rfl) (fun w' hS => by go_simp) hHeld ?_
        simp only [Act.put, List.setIfInBounds_toArray, List.set_cons_succ, List.set_cons_zero]
        refine wpAnyS_takeD 8 (some 46) (.pointer (some ⟨bd, od + j * 2, none⟩)) (by rfl) (by rfl) (by kernel_rfl) (by exact fun _ _ _ h => h) (by rfl) (fun w' hS => by go_simp) hHeld ?_
        simp only [Act.put, List.setIfInBounds_toArray, List.set_cons_succ, List.set_cons_zero]
        refine wpAnyS_takeD 9 (some 47) (vlD d) (by rfl) (by rfl) (by kernel_rfl) (by exact fun _ _ _ h => h) (by rfl) (fun w' hS => by (obtain ⟨x0, x1, x2⟩ := hS; go_simp)) hHeld ?_
        simp only [Act.put, List.setIfInBounds_toArray, List.set_cons_succ, List.set_cons_zero]
        clear hHeld
        obtain ⟨V, hV, HzV, hbV, hltV, _⟩ := boxed wa #[.int .i64 d.side, .int .i64 d.num] 40
        have hkV : V.heap[wa.heap.size]? = some (.cells (encD d).toArray 40 (0, 0)) := by rw [← hV]; exact heap_alloc_new _ _
        have hChV := hChA.below hbV
        have hrowV := hrow.below hbV
        have hbMV := hbMa.trans (hbV.mono hbMa.size)
        have hVs := hbMV.size
        refine wpAnyS_one 10 (by kernel_rfl) (by rfl) (by decide) (fun K hK => ?_)
        have HK := Lib.hid hK; clear hK
        rw [if_pos (by rfl)]
        go_simp
        refine HK.out _ _ ⟨cell_later hbV HH.out.1, cell_later hbV HH.out.2.1, cell_later hbV HH.out.2.2⟩ ?_
        clear HK
        refine wpAnyS_one 11 (by kernel_rfl) (by rfl) (by decide) (fun K hK => ?_)
        have HK := Lib.hid hK; clear hK
        refine step_append_sl (by rfl) (.tmp 43) (.tmp 48) _ (by rfl) iD _ 16 Try.underlying84 hiD hzD hkD hbD (by rfl) (by decide) oneD (by rfl) hrowV _ 1 1 [d] (by rfl) (by rfl) (sl_one (by rfl) hkV) (by simp; omega) (by simp; omega) hVs ?_
        intro v'' w7 ho7 hg7 hat7
        have hbM7 := hbMV.grown hg7 hVs (fun g e => (hrowV.lt g e).1)
        obtain ⟨cgu, hfree⟩ : w7.cell? ⟨gu, P, none⟩ = some (.slice ha0 hn0 hc0) ∧ w7.frozen? ⟨gu, P, none⟩ = false := by
          have := (hChV.own.kept hg7 (ne_row hrowV hChV.own)).cellsAt lenH HN.out hp1 (j := 0) rfl
          simpa using this
        have hHeld : (fun w' : World => w'.cell? ⟨gu, P, none⟩ = some (.slice ha0 hn0 hc0) ∧ w'.cell? ⟨bd, od + j * 2, none⟩ = some (.int .i64 d.side) ∧ w'.cell? ⟨bd, od + j * 2 + 1, none⟩ = some (.int .i64 d.num)) w7 := ⟨cgu, (HY.out w7 hbM7).1, (HY.out w7 hbM7).2⟩
        refine HK.out _ _ hHeld ?_
        clear HK
        refine wpAnyS_takeD 12 (some 50) (.pointer (some ⟨gu, P, none⟩)) (by rfl) (by rfl) (by kernel_rfl) (by exact fun _ _ _ h => h) (by rfl) (fun w' hS => by go_simp) hHeld ?_
        simp only [Act.put, List.setIfInBounds_toArray]
        clear hHeld
        obtain ⟨h1, rfl⟩ := own_hdr ho7
        have hfin := hChV.put HN.out hp1 hr1 ho7 hg7 hat7
        have hbF : Below M.heap.size M (w7.setCell ⟨gu, P, none⟩ h1.v) := hbM7.grown (setCells_grown gu [h1.v] w7 P) hbM7.size (fun g e => by cases e; exact hgu)
        have HF := Lib.hid hfin; have HB := Lib.hid hbF
        refine (show tailOf _ _ _ _ _ _ _ _ from ⟨by kernel_rfl, ?_⟩)
        simp only [List.drop_succ_cons, List.drop_zero]
        go_wp2_with fail
        refine ⟨?rel, ?measure⟩
        case rel => exact ⟨j + 1, _, by omega, by go_num, by rw [hco.out]; exact HF.out, HB.out⟩
        case measure => first | (simp [intOf]; done) | (simp [intOf]; omega)
    · have ej : j = ds.length := by omega
      subst ej
      rw [chainsP_all, ← HC.out] at hCh ⊢
      have HCh := Lib.hid (hCh.base (show w.heap.size ≤ M.heap.size from hw3.size))
      clear hCh hdc hpc
      go_wp2_with fail
      exact bodyPost_ret (v := .tuple #[.slice Au (chainsG g).length cu, .int .i64 0]) (by simp [results, Try.results26, go_sem]) rfl ⟨_, _, by rw [HV.out], HCh.out, hw3.trans (hb.mono hw3.size)⟩
noncomputable def loopsG (g : Graph) : Int := if graphB g = true then (g.links.length : Int) - g.obv.length - g.rev.length + (chainsG g).length else 0
theorem chainsG_len (g : Graph) : (chainsG g).length = (repsA (joinB (edgesG g)) (diesG g)).length := by rw [chainsG, ← chainsP_all, chainsP_len, List.take_length]
set_option maxHeartbeats 2000000 in
theorem Loops_ok (v : Value) (g : Graph) (w : World) (h : GraphAt w v g) :
    Calls Try.prog 25 #[v] w fun e w' => e = .returned (.tuple #[.int .i64 (loopsG g), .int .i64 (validE g)]) ∧ Below w.heap.size w w' := by
  have h' := h
  obtain ⟨v1, v2, v3, rfl, ho, hr, hk⟩ := h
  obtain ⟨A1, c1, rfl, _, _, _⟩ := ho.cells
  obtain ⟨A2, c2, rfl, _, _, _⟩ := hr.cells
  obtain ⟨A3, c3, rfl, _, _, _⟩ := hk.cells
  obtain ⟨W0, hW0, Hz0, hb0, hlt0, hc0⟩ := boxed w #[.slice A1 g.obv.length c1, .slice A2 g.rev.length c2, .slice A3 g.links.length c3] 49
  have a0 := hc0 0 _ rfl; have a1 := hc0 1 _ rfl; have a2 := hc0 2 _ rfl
  have h1 := h'.below hb0
  clear hc0 ho hr hk
  have HL : Hid (loopsG g = if graphB g = true then (g.links.length : Int) - g.obv.length - g.rev.length + (chainsG g).length else 0) := Lib.hid rfl
  go_enter Try.func25, Try.ntmps25
  go_wp2_with fail
  refine (Chains_ok _ g _ h1).mono ?_
  rintro e w2 ⟨u, hs, rfl, hch, hb2⟩
  obtain ⟨Au, cu, rfl⟩ := hch.len_le
  have a0 := cell_later hb2 a0; have a1 := cell_later hb2 a1; have a2 := cell_later hb2 a2
  have hw2 := below_trans hb0 hb2
  clear hW0 hch
  cases hg : graphB g
  · have hv : validE g = 1 := by simp [validE, hg]
    rw [hg, if_neg (by simp)] at HL
    have HV := Lib.hid hv
    rw [hv]
    clear hv hg a0 a1 a2
    go_wp2_with fail
    exact bodyPost_ret (v := .tuple #[.int .i64 0, .int .i64 1]) (by simp [results, Try.results25, go_sem]) rfl ⟨by rw [HL.out, HV.out], hw2⟩
  have hv : validE g = 0 := by simp [validE, hg]
  have hok := (graphB_iff g).1 hg
  have q1 : (g.links.length : Int) ≤ 64 := by have := hok.ll; omega
  have q2 : (g.obv.length : Int) ≤ 32 := by have := hok.lo; omega
  have q3 : (g.rev.length : Int) ≤ 32 := by have := hok.lr; omega
  have q4 : ((chainsG g).length : Int) ≤ 64 := by
    have := dies_le hg
    have := repsA_len (R := joinB (edgesG g)) (diesG g)
    rw [← chainsG_len] at this
    omega
  rw [hg, if_pos rfl] at HL
  have HV := Lib.hid hv
  rw [hv]
  generalize (chainsG g).length = C at HL q4 ⊢
  generalize g.links.length = K at HL q1 a2 ⊢
  generalize g.obv.length = O at HL q2 a0 ⊢
  generalize g.rev.length = V at HL q3 a1 ⊢
  have p1 : (0 : Int) ≤ (C : Int) := by omega
  have p2 : (0 : Int) ≤ (K : Int) := by omega
  have p3 : (0 : Int) ≤ (O : Int) := by omega
  have p4 : (0 : Int) ≤ (V : Int) := by omega
  clear hv hg hok
  go_wp2_with fail
  exact bodyPost_ret (v := .tuple #[.int .i64 ((K : Int) - O - V + C), .int .i64 0]) (by simp [results, Try.results25, go_sem]) rfl ⟨by rw [HL.out, HV.out], hw2⟩
end Go.Proofs.Ytcpobcfncmcakaa
