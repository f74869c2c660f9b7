/- Bottleneck. Condition: the argument reads as a list of specimens, the dies' numbers are numbers. -/
import Derived.Test.YtcpobcfncmcakaaGroG
import Derived.Test.YtcpobcfncmcakaaDelS
namespace Go.Proofs.Ytcpobcfncmcakaa
open Go.RowKit Go.Maps

theorem choT_forL (l : List Spec) : ∀ k, k ≤ l.length → choT pickF l k = (forL (l.take k)).map Spec.id := by
  intro k
  induction k with
  | zero => intro _; rfl
  | succ k ih =>
    intro hk
    obtain ⟨s, hs⟩ := get_of_lt (show k < l.length by omega)
    have hap := ((ninv_list (l.take k)).enter s).2.1
    rw [choT_snoc pickF hs, ih (by omega), take_snoc' hs, forL_snoc, List.map_append]
    congr 1
    by_cases hj : joinB (edgesS (l.take k)) (dA s) (dB s) = true
    · have : apartG s (growL (l.take k)) = false := by
        cases ha : apartG s (growL (l.take k))
        · rfl
        · exact absurd (joinB_iff.1 hj) (hap.1 ha)
      simp [pickF, this, hj]
    · have : apartG s (growL (l.take k)) = true := hap.2 fun h => hj (joinB_iff.2 h)
      simp [pickF, this, hj]
theorem filter_sub {k l : List Spec} (hs : k.Sublist l) (hd : (l.map Spec.id).Nodup) : l.filter (fun s => decide (s.id ∈ k.map Spec.id)) = k := by
  induction hs with
  | slnil => rfl
  | @cons k l a hs ih =>
    rw [List.map_cons, List.nodup_cons] at hd
    have hn : a.id ∉ k.map Spec.id := fun hm => hd.1 ((hs.map Spec.id).subset hm)
    rw [List.filter_cons, if_neg (by simpa using hn)]
    exact ih hd.2
  | @cons_cons k l a hs ih =>
    rw [List.map_cons, List.nodup_cons] at hd
    rw [List.filter_cons, if_pos (by simp)]
    congr 1
    conv => rhs; rw [← ih hd.2]
    refine List.filter_congr fun s hm => ?_
    have hne : s.id ≠ a.id := fun e => hd.1 (by rw [← e]; exact List.mem_map_of_mem (f := Spec.id) hm)
    rw [decide_eq_decide, List.map_cons, List.mem_cons]
    exact ⟨fun h => h.resolve_left hne, .inr⟩
/-- What First says of a list that joins two dies. -/
theorem first_con {l : List Spec} {a b : Die} (h : (firstR l a b).2 = 0) : ofE l = 0 ∧ Con (edgesS l) a b := by
  unfold firstR at h
  by_cases hE : ofE l = 0
  · refine ⟨hE, ?_⟩
    rw [if_pos hE] at h
    cases hk : firstK l a b with
    | none => rw [hk] at h; cases h
    | some k =>
      have h1 := List.find?_some hk
      have := (joinB_iff.1 h1).2.2
      refine this.mono fun e he => ?_
      obtain ⟨s, hs, rfl⟩ := List.mem_map.1 he
      exact List.mem_map.2 ⟨s, List.mem_of_mem_take hs, rfl⟩
  · rw [if_neg hE] at h
    exact absurd h hE
theorem first_err {l : List Spec} {a b : Die} : (firstR l a b).2 = 0 ∨ ((firstR l a b).2 ≠ 0 ∧ (firstR l a b).1 = 0) := by
  unfold firstR
  by_cases hE : ofE l = 0
  · rw [if_pos hE]
    cases firstK l a b with
    | none => exact .inr ⟨by simp, rfl⟩
    | some k => exact .inl rfl
  · rw [if_neg hE]
    exact .inr ⟨hE, rfl⟩
theorem forest_walk {l : List Spec} {a b : Die} (hd : (l.map Spec.id).Nodup) (h : Con (edgesS l) a b) : ∃ p, Walk (forL l) a p b := by
  obtain ⟨h1, h2, _⟩ := forL_facts l
  have hn : ((forL l).map Spec.id).Nodup := hd.sublist (h1.map Spec.id)
  have := walk_exists (t := forL l) (forL l).length hn (Nat.le_refl _) (by rw [List.take_length]; exact (h2 a b).2 h)
  rwa [List.take_length] at this

set_option maxHeartbeats 4000000 in
set_option maxRecDepth 100000 in
theorem Bottleneck_ok (v : Value) (l : List Spec) (da db : Die) (w : World) (h : Specs w v l) (hda : wfD da) (hdb : wfD db) :
    Calls Try.prog 20 #[v, vlD da, vlD db] w fun e w' => ∃ u, e = .returned (.tuple #[u, .int .i64 (firstR l da db).2]) ∧ Below w.heap.size w w' ∧ ((firstR l da db).2 ≠ 0 → Ints w' u []) ∧ ((firstR l da db).2 = 0 → ∃ p, Walk (forL l) da p db ∧ Ints w' u (p.map Spec.id)) := by
  obtain ⟨X0, hX0, HzX0, hbX0, hltX0, hcX0⟩ := boxed w #[.int .i64 da.side, .int .i64 da.num] 40
  obtain ⟨X1, hX1, HzX1, hbX1, hltX1, hcX1⟩ := boxed X0 #[.int .i64 db.side, .int .i64 db.num] 40
  have hX := below_trans hbX0 hbX1
  have h0 := h.below hX
  have a0 := cell_later hbX1 (hcX0 0 _ rfl); have a1 := cell_later hbX1 (hcX0 1 _ rfl)
  have b0 := hcX1 0 _ rfl; have b1 := hcX1 1 _ rfl
  clear hcX0 hcX1
  obtain ⟨A, c, rfl, _⟩ := id h.cells
  go_enter Try.func20, Try.ntmps20
  go_wp2_with fail
  refine (First_ok _ l da db _ h0 hda hdb).mono ?_
  rintro e w1 ⟨rfl, hb1⟩
  have hw1 := below_trans hX hb1
  have a0 := cell_later hb1 a0; have a1 := cell_later hb1 a1; have b0 := cell_later hb1 b0; have b1 := cell_later hb1 b1
  have HFC := Lib.hid (@first_con l da db)
  clear hX0 hX1
  by_cases hE : (firstR l da db).2 = 0
  case neg =>
    have hd : ((firstR l da db).2 != 0) = true := by simpa using hE
    have HE := Lib.hid hE; clear hE a0 a1 b0 b1
    go_wp2_with fail
    exact bodyPost_ret (v := .tuple #[.slice none 0 0, .int .i64 (firstR l da db).2]) (by simp [results, Try.results20, go_sem]) rfl ⟨_, rfl, hw1, fun _ => (own_nil _ _ 0 0 _).slOf, fun h => absurd h HE.out⟩
  have hd : ((firstR l da db).2 != 0) = false := by simp [hE]
  have HE := Lib.hid hE; clear hE
  obtain ⟨hof, hcon⟩ := HFC.out HE.out
  obtain ⟨hl64, hall, hnd⟩ := checkE_zero (ofE_zero hof).1
  have hids := choT_forL l l.length (Nat.le_refl _)
  rw [List.take_length] at hids
  have hcr : choR pickF l = (forL l).map Spec.id := by rw [choR, if_pos hof, hids]
  obtain ⟨hfs, hfc, hfu⟩ := forL_facts l
  have HU := Lib.hid (hfu hnd)
  have HW := Lib.hid (forest_walk hnd hcon)
  have HF := Lib.hid (filter_sub hfs hnd)
  have hfl : (forL l).length ≤ 64 := by have := hfs.length_le; omega
  have Hall := Lib.hid (fun s (hs : s ∈ forL l) => (specB_wf (List.all_eq_true.1 hall s (hfs.subset hs))).2.2)
  have Hof := Lib.hid hof
  clear hof hcon hall hnd hids hfs hfc hfu HFC
  go_wp2_with fail
  refine (Forest_ok _ l _ (h0.below hb1)).mono ?_
  rintro e w2 ⟨ui, rfl, hui, hb2⟩
  rw [hcr] at hui
  obtain ⟨Ai, ci, rfl, _, _, _⟩ := id hui
  rw [List.length_map] at hui
  have a0 := cell_later hb2 a0; have a1 := cell_later hb2 a1; have b0 := cell_later hb2 b0; have b1 := cell_later hb2 b1
  obtain ⟨N1, N2, hN1, hN2, HzN, hkN1, hkN2, hbN2, hltN2⟩ := fresh w2 [.slice none 0 0] [.slice Ai (forL l).length ci] 25 rfl
  have hsN2 : N1.setCell ⟨w2.heap.size, 0, none⟩ (.slice Ai (forL l).length ci) = N2 := hN2
  clear hN2
  have z0 : N1.cell? ⟨w2.heap.size, 0, none⟩ = some (.slice none 0 0) := heap_cell hkN1
  have f0 : N1.frozen? ⟨w2.heap.size, 0, none⟩ = false := heap_free hkN1
  have q0 : N2.cell? ⟨w2.heap.size, 0, none⟩ = some (.slice Ai (forL l).length ci) := heap_cell hkN2
  have a0 := cell_later hbN2 a0; have a1 := cell_later hbN2 a1; have b0 := cell_later hbN2 b0; have b1 := cell_later hbN2 b1
  have hui2 := hui.below hbN2
  have hw2 := below_trans hb1 (below_trans hb2 hbN2)
  have hS2 := h0.below hw2
  clear hkN1 hkN2 hui
  go_wp2_with fail
  refine (cloneS_ok _ l _ hS2 (by omega)).mono ?_
  rintro e w3 ⟨x, rfl, hx, hb3⟩
  have HK := Lib.hid (fun (s : Spec) (_ : s ∈ l) (W : World) (hb : Below N2.heap.size w3 W) => keep_ok s w2.heap.size _ ((forL l).map Spec.id) W (cell_later (hb3.trans hb) q0) (hui2.below (hb3.trans hb)))
  clear z0 f0 q0
  go_wp2_with fail
  refine (deleteS_ok (fun s => !decide (s.id ∈ (forL l).map Spec.id)) _ N2.heap.size _ l w3 hx (by omega) hb3.size HK.out).mono ?_
  rintro e w4 ⟨x4, rfl, hx4, hb4⟩
  simp only [Bool.not_not, HF.out] at hx4
  have hb34 : Below N2.heap.size N2 w4 := hb3.trans hb4
  have a0 := cell_later hb34 a0; have a1 := cell_later hb34 a1; have b0 := cell_later hb34 b0; have b1 := cell_later hb34 b1
  clear hx hb4 HK
  go_wp2_with fail
  refine (walk_ok (forL l) _ (by omega) db (forL l).length da 0 w4 hx4.slOf (fun c p hp _ => nodup_len (HU.out.nod hp) hp.mem) (by omega)).mono ?_
  rintro e w5 ⟨u5, ok, rfl, hb5, hyes, hno⟩
  cases ok
  · exfalso
    obtain ⟨p, hp⟩ := HW.out
    refine (hno rfl).2 p hp fun s hs => ?_
    have := Hall.out s (hp.mem s (List.mem_of_mem_head? hs))
    omega
  · obtain ⟨p, hp, _, _, hi⟩ := hyes rfl
    have HP := Lib.hid (⟨hp, hi⟩ : _ ∧ _)
    clear hyes hno hp hi a0 a1 b0 b1
    go_wp2_with fail
    exact bodyPost_ret (v := .tuple #[u5, .int .i64 0]) (by simp [results, Try.results20, go_sem]) rfl ⟨_, by rw [HE.out], below_trans hX (below_trans hw2 (below_trans hb34 hb5)), fun h => absurd HE.out h, fun _ => ⟨p, HP.out.1, HP.out.2⟩⟩
end Go.Proofs.Ytcpobcfncmcakaa
