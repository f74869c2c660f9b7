/- law52.made and law52.same. Condition: the operations read as a list. -/
import Derived.Test.YthnckicnnhkkaaaGreatDoA
import Derived.Test.YthnckicnnhkkaaaGreatRCoE
import Derived.Test.YthnckicnnhkkaaaGreatCmpD
namespace Go.Proofs.YthnckicnnhkkaaaGreat
open Go.RowKit Go.Maps Go.Shelf

def doAll (l : List OpC) : Co := l.foldl doL ([], [], [])
theorem doAll_snoc {l : List OpC} {k : Nat} {x : OpC} (h : l[k]? = some x) : doAll (l.take (k + 1)) = doL (doAll (l.take k)) x := by
  rw [take_snoc' h]
  simp [doAll, List.foldl_append]
theorem OpsC.at {w : World} {v : Value} {xs : List OpC} (h : OpsC w v xs) : ∃ A c, v = .slice A xs.length c ∧ xs.length ≤ c ∧ (c : Int) ≤ 9223372036854775807 ∧
    ∀ k, k < xs.length → ∃ b o, A = some ⟨b, o, none⟩ ∧ ∀ w', Below w.heap.size w w' → ∀ i x, xs[i]? = some x → w'.cell? ⟨b, o + i * 16, none⟩ = some (.int .i64 x.ki) ∧ w'.cell? ⟨b, o + i * 16 + 1, none⟩ = some (.int .i64 x.s.id) ∧ w'.cell? ⟨b, o + i * 16 + 2, none⟩ = some (.int .i64 x.s.obv) ∧ w'.cell? ⟨b, o + i * 16 + 3, none⟩ = some (.int .i64 x.s.rev) ∧ w'.cell? ⟨b, o + i * 16 + 4, none⟩ = some (.int .i64 x.s.os) ∧ w'.cell? ⟨b, o + i * 16 + 5, none⟩ = some (.int .i64 x.s.rs) ∧ w'.cell? ⟨b, o + i * 16 + 6, none⟩ = some (.int .i64 x.s.ax) ∧ w'.cell? ⟨b, o + i * 16 + 7, none⟩ = some (.int .i64 x.s.wt) ∧ w'.cell? ⟨b, o + i * 16 + 8, none⟩ = some (.int .i64 x.d.au) ∧ w'.cell? ⟨b, o + i * 16 + 9, none⟩ = some (.int .i64 x.d.nu) ∧ w'.cell? ⟨b, o + i * 16 + 10, none⟩ = some (.int .i64 x.d.ki) ∧ w'.cell? ⟨b, o + i * 16 + 11, none⟩ = some (.int .i64 x.d.a) ∧ w'.cell? ⟨b, o + i * 16 + 12, none⟩ = some (.int .i64 x.d.b) ∧ w'.cell? ⟨b, o + i * 16 + 13, none⟩ = some (.int .i64 x.m.au) ∧ w'.cell? ⟨b, o + i * 16 + 14, none⟩ = some (.int .i64 x.m.nu) ∧ w'.cell? ⟨b, o + i * 16 + 15, none⟩ = some (.int .i64 x.id) := by
  obtain ⟨A, c, e, h1, h2, h3⟩ := h.cells
  refine ⟨A, c, e, h1, h2, fun k hk => ?_⟩
  obtain ⟨b, o, e, _, hc⟩ := h3 k hk
  exact ⟨b, o, e, fun w' hw i x hx => ⟨hc w' hw i x hx 0 _ rfl, hc w' hw i x hx 1 _ rfl, hc w' hw i x hx 2 _ rfl, hc w' hw i x hx 3 _ rfl, hc w' hw i x hx 4 _ rfl, hc w' hw i x hx 5 _ rfl, hc w' hw i x hx 6 _ rfl, hc w' hw i x hx 7 _ rfl, hc w' hw i x hx 8 _ rfl, hc w' hw i x hx 9 _ rfl, hc w' hw i x hx 10 _ rfl, hc w' hw i x hx 11 _ rfl, hc w' hw i x hx 12 _ rfl, hc w' hw i x hx 13 _ rfl, hc w' hw i x hx 14 _ rfl, hc w' hw i x hx 15 _ rfl⟩⟩
set_option maxHeartbeats 8000000 in
set_option maxRecDepth 100000 in
theorem made_ok (v : Value) (l : List OpC) (w : World) (h : OpsC w v l) :
    Calls Tryz.prog 17 #[v] w fun e w' => ∃ p q S T, e = .returned (.tuple #[.pointer (some ⟨p, 0, none⟩), .pointer (some ⟨q, 0, none⟩)]) ∧
      CorAt w' S p (doAll l).1 (doAll l).2.1 (doAll l).2.2 ∧ RCorAt w' T q (doAll l).1 (doAll l).2.1 (doAll l).2.2 ∧ (∀ b ∈ S, b ∉ T) ∧ (∀ b ∈ S, w.heap.size ≤ b) ∧ (∀ b ∈ T, w.heap.size ≤ b) ∧ Below w.heap.size w w' := by
  obtain ⟨A, c, rfl, hlc, hcm, hcl⟩ := h.at
  have HCl := Lib.hid hcl; have HO := Lib.hid h.2
  clear hcl h
  go_enter Tryz.func17, Tryz.ntmps17
  go_wp2_with fail
  refine (CNew_ok w).mono ?_
  rintro e w1 ⟨p, S0, rfl, hc1, hS0, hb1⟩
  have HC1 := Lib.hid hc1; have HS0 := Lib.hid hS0
  clear hc1 hS0
  go_wp2_with fail
  refine (RNew_ok w1).mono ?_
  rintro e w2 ⟨q, T0, rfl, hr2, hT0, hb2⟩
  have HR2 := Lib.hid hr2; have HT0 := Lib.hid hT0
  have hb12 := below_trans hb1 hb2
  clear hr2 hT0
  go_wp2_with fail
  go_loopw [6] (fun t6 wr => ∃ (k : Nat) (S T : List Nat), k ≤ l.length ∧ t6 = .int .i64 k ∧ Hid (CorAt wr S p (doAll (l.take k)).1 (doAll (l.take k)).2.1 (doAll (l.take k)).2.2 ∧ RCorAt wr T q (doAll (l.take k)).1 (doAll (l.take k)).2.1 (doAll (l.take k)).2.2 ∧ (∀ b ∈ S, b ∉ T) ∧ (∀ b ∈ S, w.heap.size ≤ b) ∧ (∀ b ∈ T, w.heap.size ≤ b)) ∧ Below w.heap.size w wr) (fun t _ => l.length - (intOf t).toNat)
  case atStart =>
    refine ⟨0, S0, T0, Nat.zero_le _, rfl, Lib.hid ⟨HC1.out.below hb2, HR2.out, fun b hb hb' => ?_, HS0.out, fun b hb => ?_⟩, hb12⟩
    · have h1 := HT0.out b hb'
      have h2 := HC1.out.lt b hb
      omega
    · have h1 := HT0.out b hb
      have := hb1.size
      omega
  case round =>
    obtain ⟨k, S, T, hk, rfl, HI, hb⟩ := hrel
    by_cases hlt : k < l.length
    · obtain ⟨x, hx⟩ := get_of_lt hlt
      obtain ⟨b, o, rfl, hcc⟩ := HCl.out _ (lt_of_get hx)
      obtain ⟨c0, c1, c2, c3, c4, c5, c6, c7, c8, c9, c10, c11, c12, c13, c14, c15⟩ := hcc wr hb k x hx
      have hwx := HO.out x (List.mem_of_getElem? hx)
      have Hst := Lib.hid (doAll_snoc hx); have Hwx := Lib.hid hwx; have HCC := Lib.hid fun w' hw => hcc w' hw k x hx
      obtain ⟨hc, hr, hd, hS, hT⟩ := HI.out
      have HC := Lib.hid hc; have HR := Lib.hid hr; have HD := Lib.hid hd; have HS := Lib.hid hS; have HT := Lib.hid hT
      have hz := hb.size
      clear hcc hx hwx hc hr hd hS hT HI
      go_wp2_with fail
      refine (do_ok S p _ x wr HC.out Hwx.out).mono ?_
      rintro e w3 ⟨rfl, S', hc3, ht3, hs3⟩
      have hS3 : ∀ b ∈ S', w.heap.size ≤ b := fun b hb' => by
        rcases hs3 b hb' with h | h
        · exact HS.out b h
        · omega
      have HR3 := Lib.hid (HR.out.off ht3 fun b hbT hbS => HD.out b hbS hbT)
      have hD3 : ∀ b ∈ S', b ∉ T := fun b hb' => by
        rcases hs3 b hb' with h | h
        · exact HD.out b h
        · intro hT; have := HR.out.lt b hT; omega
      have hb3 := ((touch_below hb S).trans ht3).below HS.out (Nat.le_refl _)
      have HC3 := Lib.hid hc3; have HS3 := Lib.hid hS3; have HD3 := Lib.hid hD3
      clear c0 c1 c2 c3 c4 c5 c6 c7 c8 c9 c10 c11 c12 c13 c14 c15
      obtain ⟨c0, c1, c2, c3, c4, c5, c6, c7, c8, c9, c10, c11, c12, c13, c14, c15⟩ := HCC.out w3 hb3
      clear hc3 ht3 hs3 hS3 hD3
      go_wp2_with fail
      refine (RDo_ok T q _ x w3 HR3.out).mono ?_
      rintro e w4 ⟨rfl, T', hr4, ht4, hs4⟩
      have hT4 : ∀ b ∈ T', w.heap.size ≤ b := fun b hb' => by
        rcases hs4 b hb' with h | h
        · exact HT.out b h
        · have := hb3.size; omega
      have HC4 := Lib.hid (HC3.out.off ht4 fun b hbS hbT => HD3.out b hbS hbT)
      have hD4 : ∀ b ∈ S', b ∉ T' := fun b hbS hbT => by
        rcases hs4 b hbT with h | h
        · exact HD3.out b hbS h
        · have := HC3.out.lt b hbS; omega
      have hb4 := ((touch_below hb3 T).trans ht4).below HT.out (Nat.le_refl _)
      have HR4 := Lib.hid hr4; have HT4 := Lib.hid hT4; have HD4 := Lib.hid hD4
      clear c0 c1 c2 c3 c4 c5 c6 c7 c8 c9 c10 c11 c12 c13 c14 c15
      clear hr4 ht4 hs4 hT4 hD4
      go_wp2
      refine ⟨?rel, ?measure⟩
      case rel => exact ⟨k + 1, S', T', by omega, by go_num, Lib.hid ⟨by rw [Hst.out]; exact HC4.out, by rw [Hst.out]; exact HR4.out, HD4.out, HS3.out, HT4.out⟩, hb4⟩
      case measure => simp [intOf]; omega
    · have he : l.take k = l := List.take_of_length_le (by omega)
      rw [he] at HI
      clear he
      go_wp2
      go_ret2
      obtain ⟨hc, hr, hd, hS, hT⟩ := HI.out
      exact ⟨_, _, S, T, rfl, hc, hr, hd, hS, hT, hb⟩
end Go.Proofs.YthnckicnnhkkaaaGreat
/- law52.same. Condition: both corpora read as the same lists. -/
namespace Go.Proofs.YthnckicnnhkkaaaGreat
open Go.RowKit Go.Maps Go.Shelf

set_option maxHeartbeats 16000000 in
set_option maxRecDepth 100000 in
theorem same_ok (S T : List Nat) (p q : Nat) (l : List Spec) (D : List Dec) (W : List Mrk) (w : World) (h : CorAt w S p l D W) (h' : RCorAt w T q l D W) :
    Calls Tryz.prog 16 #[.pointer (some ⟨p, 0, none⟩), .pointer (some ⟨q, 0, none⟩)] w fun e w' => e = .returned (.bool true) ∧ Below w.heap.size w w' := by
  have H := Lib.hid h; have H' := Lib.hid h'
  obtain ⟨U, ql, vl, hR⟩ := h'
  obtain ⟨⟨_, r1⟩, _⟩ := cellsM hR.row
  have HL := Lib.hid hR.led
  clear h hR
  go_enter Tryz.func16, Tryz.ntmps16
  go_wp2_with fail
  refine (CLedger_ok _ l D W w H.out.O).mono ?_
  rintro e w1 ⟨u, rfl, _, hu, hb1⟩
  obtain ⟨q1, mb1, wb1, rfl, hl1, _⟩ := hu (by simp)
  have Hl1 := Lib.hid hl1
  replace r1 := cell_later hb1 r1
  clear hu hl1
  go_wp2_with fail
  have hba : Below (w1).heap.size (w1) (w1).drew := (Below.refl _ _).drew
  obtain ⟨wa, hwa⟩ : ∃ W, (w1).drew = W := ⟨_, rfl⟩
  rw [hwa] at hba
  have HSt := Lib.hid fun (w9 : World) (hb : Below wa.heap.size wa w9) => (show (fun w' : World => Below wa.heap.size wa w' ∧ w'.cell? ⟨q, 1, none⟩ = some (.pointer (some ⟨ql, 0, none⟩))) w9 from ⟨hb, cell_later hb (cell_later hba r1)⟩)
  have hHeld := HSt.out wa (Below.refl _ _)
  refine wp_region_S 31 (fun w' : World => Below wa.heap.size wa w' ∧ w'.cell? ⟨q, 1, none⟩ = some (.pointer (some ⟨ql, 0, none⟩))) (by kernel_rfl) (by decide) ?_
  rw [hwa]
  clear hwa
  have hbwa := Below.refl wa.heap.size wa
  have hw1a := below_trans hb1 hba
  refine wpAnyS_takeD 0 (some 8) (.pointer (some ⟨q1, 0, none⟩)) (by rfl) (by rfl) (by kernel_rfl) (by exact fun _ _ _ h => h) (by rfl) (fun w' hS => by go_simp) hHeld ?_
  simp only [Act.put, List.setIfInBounds_toArray, List.set_cons_succ, List.set_cons_zero]
  refine wpAnyS_takeD 1 (some 9) (.bool false) (by rfl) (by rfl) (by kernel_rfl) (by exact fun _ _ _ h => h) (by rfl) (fun w' hS => by go_simp) hHeld ?_
  simp only [Act.put, List.setIfInBounds_toArray, List.set_cons_succ, List.set_cons_zero]
  refine wpAnyS_takeD 2 (some 10) (.bool false) (by rfl) (by rfl) (by kernel_rfl) (by exact fun _ _ _ h => h) (by rfl) (fun w' hS => by go_simp) hHeld ?_
  simp only [Act.put, List.setIfInBounds_toArray, List.set_cons_succ, List.set_cons_zero]
  refine wpAnyS_takeG 3 (some 11) (.pointer (some ⟨p, 0, none⟩)) (by rfl) (by rfl) (by kernel_rfl) (by exact fun _ _ _ h => h) (by rfl) (fun w' hS => by go_simp) hHeld ?_
  simp only [Act.put, List.setIfInBounds_toArray, List.set_cons_succ, List.set_cons_zero]
  refine wpAnyS_takeG 5 (some 13) (.pointer (some ⟨q, 0, none⟩)) (by rfl) (by rfl) (by kernel_rfl) (by exact fun _ _ _ h => h) (by rfl) (fun w' hS => by go_simp) hHeld ?_
  simp only [Act.put, List.setIfInBounds_toArray, List.set_cons_succ, List.set_cons_zero]
  refine wpAnyS_one 4 (by kernel_rfl) (by rfl) (by decide) (fun K hK => ?_)
  have HK := Lib.hid hK; clear hK
  rw [if_pos (by rfl)]
  go_simp
  refine (Specs_ok _ l D W wa (H.out.below hw1a).O).mono ?_
  rintro e w2 ⟨z1, rfl, ho1, hc1⟩
  clear hHeld
  have hbw2 := below_trans hbwa hc1
  have hHeld := HSt.out _ hbw2
  refine HK.out _ _ hHeld ?_
  clear HK
  refine wpAnyS_one 6 (by kernel_rfl) (by rfl) (by decide) (fun K hK => ?_)
  have HK := Lib.hid hK; clear hK
  rw [if_pos (by rfl)]
  go_simp
  refine (RSpecs_ok T q l D W w2 (H'.out.below (below_trans hw1a hbw2))).mono ?_
  rintro e w3 ⟨z2, rfl, ho2, hc2⟩
  clear hHeld
  have hbw3 := below_trans hbw2 hc2
  have hHeld := HSt.out _ hbw3
  refine HK.out _ _ hHeld ?_
  clear HK
  refine wpAnyS_one 7 (by kernel_rfl) (by rfl) (by decide) (fun K hK => ?_)
  have HK := Lib.hid hK; clear hK
  rw [if_pos (by rfl)]
  go_simp
  refine (baseSpecs_ok z1 z2 l l w3 (ho1.slOf.below hc2) ho2.slOf).mono ?_
  rw [show decide (l = l) = true from by simp]
  rintro e w4 ⟨rfl, hc3⟩
  clear hHeld
  have hbw4 := below_trans hbw3 hc3
  have hHeld := HSt.out _ hbw4
  refine HK.out _ _ hHeld ?_
  clear HK
  clear ho1 ho2
  refine wpAnyS_takeG 8 (some 16) (.bool false) (by rfl) (by rfl) (by kernel_rfl) (by exact fun _ _ _ h => h) (by rfl) (fun w' hS => by go_simp) hHeld ?_
  simp only [Act.put, List.setIfInBounds_toArray, List.set_cons_succ, List.set_cons_zero]
  refine wpAnyS_takeD 9 (some 17) (.bool false) (by rfl) (by rfl) (by kernel_rfl) (by exact fun _ _ _ h => h) (by rfl) (fun w' hS => by go_simp) hHeld ?_
  simp only [Act.put, List.setIfInBounds_toArray, List.set_cons_succ, List.set_cons_zero]
  refine wpAnyS_takeD 10 (some 18) (.bool false) (by rfl) (by rfl) (by kernel_rfl) (by exact fun _ _ _ h => h) (by rfl) (fun w' hS => by go_simp) hHeld ?_
  simp only [Act.put, List.setIfInBounds_toArray, List.set_cons_succ, List.set_cons_zero]
  refine wpAnyS_takeG 11 (some 19) (.pointer (some ⟨q1, 0, none⟩)) (by rfl) (by rfl) (by kernel_rfl) (by exact fun _ _ _ h => h) (by rfl) (fun w' hS => by go_simp) hHeld ?_
  simp only [Act.put, List.setIfInBounds_toArray, List.set_cons_succ, List.set_cons_zero]
  refine wpAnyS_takeG 13 (some 21) (.pointer (some ⟨q, 0, none⟩)) (by rfl) (by rfl) (by kernel_rfl) (by exact fun _ _ _ h => h) (by rfl) (fun w' hS => by go_simp) hHeld ?_
  simp only [Act.put, List.setIfInBounds_toArray, List.set_cons_succ, List.set_cons_zero]
  refine wpAnyS_takeG 14 (some 22) (.pointer (some ⟨q, 0, none⟩)) (by rfl) (by rfl) (by kernel_rfl) (by exact fun _ _ _ h => h) (by rfl) (fun w' hS => by go_simp) hHeld ?_
  simp only [Act.put, List.setIfInBounds_toArray, List.set_cons_succ, List.set_cons_zero]
  refine wpAnyS_takeG 15 (some 23) (.pointer (some ⟨q, 1, none⟩)) (by rfl) (by rfl) (by kernel_rfl) (by exact fun _ _ _ h => h) (by rfl) (fun w' hS => by go_simp) hHeld ?_
  simp only [Act.put, List.setIfInBounds_toArray, List.set_cons_succ, List.set_cons_zero]
  refine wpAnyS_takeG 16 (some 24) (.pointer (some ⟨ql, 0, none⟩)) (by rfl) (by rfl) (by kernel_rfl) (by exact fun _ _ _ h => h) (by rfl) (fun w' hS => by (obtain ⟨_, x0⟩ := hS; go_simp)) hHeld ?_
  simp only [Act.put, List.setIfInBounds_toArray, List.set_cons_succ, List.set_cons_zero]
  refine wpAnyS_one 12 (by kernel_rfl) (by rfl) (by decide) (fun K hK => ?_)
  have HK := Lib.hid hK; clear hK
  rw [if_pos (by rfl)]
  go_simp
  refine (LMade_ok q1 mb1 wb1 D W w4 (Hl1.out.below (below_trans hba hbw4)) (by have := H.out.ok.lenD; omega)).mono ?_
  rintro e w5 ⟨z3, rfl, ho3, hc4⟩
  clear hHeld
  have hbw5 := below_trans hbw4 hc4
  have hHeld := HSt.out _ hbw5
  refine HK.out _ _ hHeld ?_
  clear HK
  refine wpAnyS_one 17 (by kernel_rfl) (by rfl) (by decide) (fun K hK => ?_)
  have HK := Lib.hid hK; clear hK
  rw [if_pos (by rfl)]
  go_simp
  refine (rMade_ok U ql D W w5 (HL.out.below (below_trans hw1a hbw5))).mono ?_
  rintro e w6 ⟨z4, rfl, ho4, hc5⟩
  clear hHeld
  have hbw6 := below_trans hbw5 hc5
  have hHeld := HSt.out _ hbw6
  refine HK.out _ _ hHeld ?_
  clear HK
  refine wpAnyS_one 18 (by kernel_rfl) (by rfl) (by decide) (fun K hK => ?_)
  have HK := Lib.hid hK; clear hK
  rw [if_pos (by rfl)]
  go_simp
  refine (baseDecs_ok z3 z4 D D w6 (ho3.slOf.below hc5) ho4).mono ?_
  rw [show decide (D = D) = true from by simp]
  rintro e w7 ⟨rfl, hc6⟩
  clear hHeld
  have hbw7 := below_trans hbw6 hc6
  have hHeld := HSt.out _ hbw7
  refine HK.out _ _ hHeld ?_
  clear HK
  clear ho3 ho4
  refine wpAnyS_takeG 19 (some 27) (.bool false) (by rfl) (by rfl) (by kernel_rfl) (by exact fun _ _ _ h => h) (by rfl) (fun w' hS => by go_simp) hHeld ?_
  simp only [Act.put, List.setIfInBounds_toArray, List.set_cons_succ, List.set_cons_zero]
  refine wpAnyS_takeD 20 (some 28) (.bool false) (by rfl) (by rfl) (by kernel_rfl) (by exact fun _ _ _ h => h) (by rfl) (fun w' hS => by go_simp) hHeld ?_
  simp only [Act.put, List.setIfInBounds_toArray, List.set_cons_succ, List.set_cons_zero]
  refine wpAnyS_takeD 21 (some 29) (.bool false) (by rfl) (by rfl) (by kernel_rfl) (by exact fun _ _ _ h => h) (by rfl) (fun w' hS => by go_simp) hHeld ?_
  simp only [Act.put, List.setIfInBounds_toArray, List.set_cons_succ, List.set_cons_zero]
  refine wpAnyS_takeG 22 (some 30) (.pointer (some ⟨q1, 0, none⟩)) (by rfl) (by rfl) (by kernel_rfl) (by exact fun _ _ _ h => h) (by rfl) (fun w' hS => by go_simp) hHeld ?_
  simp only [Act.put, List.setIfInBounds_toArray, List.set_cons_succ, List.set_cons_zero]
  refine wpAnyS_takeG 24 (some 32) (.pointer (some ⟨q, 0, none⟩)) (by rfl) (by rfl) (by kernel_rfl) (by exact fun _ _ _ h => h) (by rfl) (fun w' hS => by go_simp) hHeld ?_
  simp only [Act.put, List.setIfInBounds_toArray, List.set_cons_succ, List.set_cons_zero]
  refine wpAnyS_takeG 25 (some 33) (.pointer (some ⟨q, 0, none⟩)) (by rfl) (by rfl) (by kernel_rfl) (by exact fun _ _ _ h => h) (by rfl) (fun w' hS => by go_simp) hHeld ?_
  simp only [Act.put, List.setIfInBounds_toArray, List.set_cons_succ, List.set_cons_zero]
  refine wpAnyS_takeG 26 (some 34) (.pointer (some ⟨q, 1, none⟩)) (by rfl) (by rfl) (by kernel_rfl) (by exact fun _ _ _ h => h) (by rfl) (fun w' hS => by go_simp) hHeld ?_
  simp only [Act.put, List.setIfInBounds_toArray, List.set_cons_succ, List.set_cons_zero]
  refine wpAnyS_takeG 27 (some 35) (.pointer (some ⟨ql, 0, none⟩)) (by rfl) (by rfl) (by kernel_rfl) (by exact fun _ _ _ h => h) (by rfl) (fun w' hS => by (obtain ⟨_, x0⟩ := hS; go_simp)) hHeld ?_
  simp only [Act.put, List.setIfInBounds_toArray, List.set_cons_succ, List.set_cons_zero]
  refine wpAnyS_one 23 (by kernel_rfl) (by rfl) (by decide) (fun K hK => ?_)
  have HK := Lib.hid hK; clear hK
  rw [if_pos (by rfl)]
  go_simp
  refine (LDrawn_ok q1 mb1 wb1 D W w7 (Hl1.out.below (below_trans hba hbw7)) (by have := H.out.ok.lenW; omega)).mono ?_
  rintro e w8 ⟨z5, rfl, ho5, hc7⟩
  clear hHeld
  have hbw8 := below_trans hbw7 hc7
  have hHeld := HSt.out _ hbw8
  refine HK.out _ _ hHeld ?_
  clear HK
  refine wpAnyS_one 28 (by kernel_rfl) (by rfl) (by decide) (fun K hK => ?_)
  have HK := Lib.hid hK; clear hK
  rw [if_pos (by rfl)]
  go_simp
  refine (rDrawn_ok U ql D W w8 (HL.out.below (below_trans hw1a hbw8))).mono ?_
  rintro e w9 ⟨z6, rfl, ho6, hc8⟩
  clear hHeld
  have hbw9 := below_trans hbw8 hc8
  have hHeld := HSt.out _ hbw9
  refine HK.out _ _ hHeld ?_
  clear HK
  refine wpAnyS_one 29 (by kernel_rfl) (by rfl) (by decide) (fun K hK => ?_)
  have HK := Lib.hid hK; clear hK
  rw [if_pos (by rfl)]
  go_simp
  refine (baseMrks_ok z5 z6 W W w9 (ho5.slOf.below hc8) ho6).mono ?_
  rw [show decide (W = W) = true from by simp]
  rintro e wx ⟨rfl, hc9⟩
  clear hHeld
  have hbwx := below_trans hbw9 hc9
  have hHeld := HSt.out _ hbwx
  refine HK.out _ _ hHeld ?_
  clear HK
  clear ho5 ho6
  refine wpAnyS_takeG 30 (some 38) (.bool false) (by rfl) (by rfl) (by kernel_rfl) (by exact fun _ _ _ h => h) (by rfl) (fun w' hS => by go_simp) hHeld ?_
  simp only [Act.put, List.setIfInBounds_toArray, List.set_cons_succ, List.set_cons_zero]
  clear hHeld
  refine (show tailOf _ _ _ _ _ _ _ _ from ⟨by kernel_rfl, ?_⟩)
  simp only [List.drop_succ_cons, List.drop_zero]
  have hw2 := below_trans hw1a hbwx
  go_wp2_with fail
  refine (Effective_ok _ l D W wx (H.out.below hw2).O).mono ?_
  rintro e y1 ⟨z7, rfl, ho7, hd1⟩
  go_wp2_with fail
  refine (REff_ok T q l D W y1 (H'.out.below (below_trans hw2 hd1))).mono ?_
  rintro e y2 ⟨z8, rfl, ho8, hd2⟩
  go_wp2_with fail
  refine (baseSpecs_ok z7 z8 (effL (standL D W) l) (effL (standL D W) l) y2 (ho7.slOf.below hd2) ho8.slOf).mono ?_
  rw [show decide (effL (standL D W) l = effL (standL D W) l) = true from by simp]
  rintro e y3 ⟨rfl, hd3⟩
  have hw3 := below_trans hw2 (below_trans hd1 (below_trans hd2 hd3))
  clear ho7 ho8
  go_wp2_with fail
  refine (Claims_ok _ l D W y3 (H.out.below hw3).O).mono ?_
  rintro e y4 ⟨z9, L9, rfl, ho9, hC9, _, hd4⟩
  go_wp2_with fail
  refine (RClaims_ok T q l D W y4 (H'.out.below (below_trans hw3 hd4))).mono ?_
  rintro e y5 ⟨zx, Lx, rfl, hox, hCx, _, hd5⟩
  obtain rfl := hC9.uniq hCx
  clear hC9 hCx
  go_wp2_with fail
  refine (basePairs_ok z9 zx L9 L9 y5 (ho9.slOf.below hd5) hox.slOf).mono ?_
  rw [show decide (L9 = L9) = true from by simp]
  rintro e y6 ⟨rfl, hd6⟩
  go_wp2_with fail
  go_ret
  exact ⟨rfl, below_trans hw3 (below_trans hd4 (below_trans hd5 hd6))⟩
end Go.Proofs.YthnckicnnhkkaaaGreat
