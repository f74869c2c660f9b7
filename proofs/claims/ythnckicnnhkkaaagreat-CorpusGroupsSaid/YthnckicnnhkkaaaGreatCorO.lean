/- Package corpus: read (the names by the standing decisions). Condition: the corpus reads as such. -/
import Derived.Test.YthnckicnnhkkaaaGreatCorK
import Derived.Test.YthnckicnnhkkaaaGreatCovT
import Derived.Test.YthnckicnnhkkaaaGreatCmpD
namespace Go.Proofs.YthnckicnnhkkaaaGreat
open Go.RowKit Go.Maps Go.Shelf

theorem decB_rng {d : Dec} (h : decB d = true) : (1 ≤ d.a ∧ d.a ≤ 9999) ∧ (1 ≤ d.b ∧ d.b ≤ 9999) ∧ (d.ki = 1 ∨ d.ki = 2 ∨ d.ki = 3 ∨ d.ki = 4) := by
  unfold decB rngB at h
  simp only [Bool.and_eq_true, Bool.or_eq_true, decide_eq_true_eq] at h
  obtain ⟨⟨⟨⟨h1, _⟩, h2⟩, h3⟩, _⟩ := h
  have hm : mostI d.ki ≤ 9999 := by unfold mostI; split <;> omega
  exact ⟨⟨h2.1, by omega⟩, ⟨h3.1, by omega⟩, by omega⟩
/-- A map of names by the decisions of a kind. -/
def NamK (w : World) (b : Nat) (L : List Dec) (ki : Int) (n : Nat) : Prop := ∃ m, MapII w b m ∧ NamI m (nameK L ki) ∧ m.length ≤ n
section
variable {w w' : World} {b n k : Nat} {L : List Dec} {ki : Int} {T : List Nat} {d : Dec}
theorem NamK.below (h : NamK w b L ki n) (hb : Below w.heap.size w w') : NamK w' b L ki n := by obtain ⟨m, h1, h2⟩ := h; exact ⟨m, h1.below hb, h2⟩
theorem NamK.off (h : NamK w b L ki n) (ht : Touch w w' T) (hn : b ∉ T) : NamK w' b L ki n := by obtain ⟨m, h1, h2⟩ := h; exact ⟨m, MapAt.same h1 (ht.block b h1.lt hn), h2⟩
theorem NamK.lt (h : NamK w b L ki n) : b < w.heap.size := by obtain ⟨m, h1, h2⟩ := h; exact h1.lt
theorem NamK.nocell (h : NamK w b L ki n) : NoCell w [b] := by obtain ⟨m, h1, h2⟩ := h; exact h1.nocell
theorem edgK_step (hd : L[k]? = some d) : edgK (L.take (k + 1)) ki = edgK (L.take k) ki ++ (if d.ki = ki then [(d.a, d.b)] else []) := by rw [take_snoc' hd, edgK_snoc]
theorem NamK.skip (h : NamK w b (L.take k) ki n) (hd : L[k]? = some d) (hne : d.ki ≠ ki) : NamK w b (L.take (k + 1)) ki (n + 1) := by
  obtain ⟨m, h1, h2, h3⟩ := h
  refine ⟨m, h1, ?_, by omega⟩
  unfold nameK
  rw [edgK_step hd, if_neg hne, List.append_nil]
  exact h2
theorem edgK_pos (h : ∀ d ∈ L, decB d = true) : ∀ e ∈ edgK L ki, 1 ≤ e.1 ∧ 1 ≤ e.2 := fun e he => by
  obtain ⟨d, h1, _, rfl⟩ := edgK_mem.1 he
  obtain ⟨h2, h3, _⟩ := decB_rng (h d h1)
  exact ⟨h2.1, h3.1⟩
end
set_option maxHeartbeats 2000000 in
theorem namK_join (b : Nat) (L : List Dec) (ki : Int) (k : Nat) (d : Dec) (w : World) (h : NamK w b (L.take k) ki k) (hd : L[k]? = some d) (hki : d.ki = ki) (hL : ∀ d ∈ L, decB d = true) (hk : k ≤ 1000) :
    Calls Tryz.prog 163 #[.map (some b), .int .i64 d.a, .int .i64 d.b] w fun e w' => e = .returned (.tuple #[]) ∧ NamK w' b (L.take (k + 1)) ki (k + 1) ∧ Touch w w' [b] := by
  obtain ⟨m, h1, h2, h3⟩ := h
  obtain ⟨g1, g2, _⟩ := decB_rng (hL d (List.mem_of_getElem? hd))
  refine (njoin_ok b m (edgK (L.take k) ki) d.a d.b w h1 h2 (edgK_pos fun x hx => hL x (List.mem_of_mem_take hx)) g1 g2 (by omega)).mono ?_
  rintro e w' ⟨rfl, m', k1, k2, k3, k4⟩
  refine ⟨rfl, ⟨m', k1, ?_, by omega⟩, k4⟩
  unfold nameK
  rw [edgK_step hd, if_pos hki]
  exact k2
set_option maxHeartbeats 8000000 in
set_option maxRecDepth 100000 in
theorem read_ok (S : List Nat) (p : Nat) (l : List Spec) (D : List Dec) (W : List Mrk) (w : World) (h : CorAt w S p l D W) :
    Calls Tryz.prog 127 #[.pointer (some ⟨p, 0, none⟩)] w fun e w' => ∃ b1 b2 b3, e = .returned (.tuple #[.map (some b1), .map (some b2), .map (some b3)]) ∧ NamK w' b1 (standL D W) 1 1000 ∧ NamK w' b2 (standL D W) 2 1000 ∧ NamK w' b3 (standL D W) 4 1000 ∧ (w.heap.size ≤ b1 ∧ w.heap.size ≤ b2 ∧ w.heap.size ≤ b3 ∧ b1 ≠ b2 ∧ b1 ≠ b3 ∧ b2 ≠ b3) ∧ Below w.heap.size w w' := by
  obtain ⟨q, mb, wb, vl, hR⟩ := h
  have hLd : ∀ d ∈ standL D W, decB d = true := fun d hd => hR.ok.dec d (List.mem_filter.1 hd).1
  have hLl : (standL D W).length ≤ 200 := Nat.le_trans (List.length_filter_le _ _) hR.ok.lenD
  obtain ⟨L, hL⟩ : ∃ z, standL D W = z := ⟨_, rfl⟩
  have HStd := Lib.hid fun (w9 : World) (hb : Below w.heap.size w w9) => LStand_ok q mb wb D W w9 (hR.led.below hb) (by have := hR.ok.lenD; omega)
  rw [hL] at hLd hLl HStd ⊢
  obtain ⟨⟨r0, r1⟩, _⟩ := cellsM hR.row
  have HLd := Lib.hid hLd
  clear hL hLd hR
  obtain ⟨W1, hW1⟩ : ∃ z, w.alloc (.map #[] 0) = z := ⟨_, rfl⟩
  obtain ⟨W2, hW2⟩ : ∃ z, W1.alloc (.map #[] 0) = z := ⟨_, rfl⟩
  obtain ⟨W3, hW3⟩ : ∃ z, W2.alloc (.map #[] 0) = z := ⟨_, rfl⟩
  have hb1 : Below w.heap.size w W1 := by rw [← hW1]; exact (Below.refl _ _).alloc (Nat.le_refl _) _
  have hb2 : Below W1.heap.size W1 W2 := by rw [← hW2]; exact (Below.refl _ _).alloc (Nat.le_refl _) _
  have hb3 : Below W2.heap.size W2 W3 := by rw [← hW3]; exact (Below.refl _ _).alloc (Nat.le_refl _) _
  have hs1 : W1.heap.size = w.heap.size + 1 := by rw [← hW1]; simp
  have hs2 : W2.heap.size = W1.heap.size + 1 := by rw [← hW2]; simp
  have hs3 : W3.heap.size = W2.heap.size + 1 := by rw [← hW3]; simp
  have hn1 : NamK W1 w.heap.size [] 1 0 := ⟨[], by rw [← hW1]; exact mapII_made w, NamI.nil, by simp⟩
  have hn2 : NamK W2 W1.heap.size [] 2 0 := ⟨[], by rw [← hW2]; exact mapII_made W1, NamI.nil, by simp⟩
  have hn3 : NamK W3 W2.heap.size [] 4 0 := ⟨[], by rw [← hW3]; exact mapII_made W2, NamI.nil, by simp⟩
  have hwW := below_trans hb1 (below_trans hb2 hb3)
  have HN := Lib.hid (And.intro ((hn1.below hb2).below hb3) (And.intro (hn2.below hb3) hn3))
  obtain ⟨B1, hB1⟩ : ∃ z, w.heap.size = z := ⟨_, rfl⟩
  obtain ⟨B2, hB2⟩ : ∃ z, W1.heap.size = z := ⟨_, rfl⟩
  obtain ⟨B3, hB3⟩ : ∃ z, W2.heap.size = z := ⟨_, rfl⟩
  have Hsz : Hid (B1 = w.heap.size ∧ B2 = B1 + 1 ∧ B3 = B2 + 1) := Lib.hid ⟨hB1.symm, by omega, by omega⟩
  replace r1 := cell_later hwW r1
  rw [hB1, hB2, hB3] at HN
  clear hn1 hn2 hn3 hb1 hb2 hb3 r0 hs1 hs2 hs3
  have hmm := @run_makeMap Tryz.prog
  go_enter Tryz.func127, Tryz.ntmps127
  go_wp2_with fail
  refine (HStd.out W3 hwW).mono ?_
  rintro e w1 ⟨v, rfl, ho, hb4⟩
  have hw1 := below_trans hwW hb4
  obtain ⟨A, c, rfl, hlc, hcm, hcl⟩ := (show Decs w1 v L from ho.slOf).cells
  have HCl := Lib.hid hcl
  obtain ⟨n1, n2, n3⟩ := HN.out
  have m1 := n1.below hb4; have m2 := n2.below hb4; have m3 := n3.below hb4
  have hno : NoCell w1 [B1, B2, B3] := fun b hb o q => by
    simp at hb
    rcases hb with rfl | rfl | rfl
    · exact m1.nocell _ (by simp) o q
    · exact m2.nocell _ (by simp) o q
    · exact m3.nocell _ (by simp) o q
  have HM := Lib.hid (And.intro m1 (And.intro m2 m3))
  have Hno := Lib.hid hno
  clear ho hcl n1 n2 n3 m1 m2 m3 hno HN
  go_wp2_with fail
  go_loopw [19] (fun t wr => ∃ k : Nat, k ≤ L.length ∧ t = .int .i64 k ∧ NamK wr B1 (L.take k) 1 k ∧ NamK wr B2 (L.take k) 2 k ∧ NamK wr B3 (L.take k) 4 k ∧ Touch w1 wr [B1, B2, B3]) (fun t _ => L.length - (intOf t).toNat)
  case atStart => exact ⟨0, Nat.zero_le _, rfl, HM.out.1, HM.out.2.1, HM.out.2.2, Touch.refl _ _⟩
  case round =>
    obtain ⟨k, hk, rfl, n1, n2, n3, ht⟩ := hrel
    have hne : B1 ≠ B2 ∧ B1 ≠ B3 ∧ B2 ≠ B3 := by have := Hsz.out; omega
    by_cases hlt : k < L.length
    · obtain ⟨d, hd⟩ := get_of_lt hlt
      obtain ⟨b, o, rfl, _, hcc⟩ := HCl.out _ (lt_of_get hd)
      obtain ⟨c0, c1, c2, c3, c4⟩ := hcc w1 (Below.refl _ _) k d hd
      replace c0 := cell_touch ht Hno.out c0; replace c1 := cell_touch ht Hno.out c1; replace c2 := cell_touch ht Hno.out c2; replace c3 := cell_touch ht Hno.out c3; replace c4 := cell_touch ht Hno.out c4
      obtain ⟨g1, g2, g3⟩ := decB_rng (HLd.out d (List.mem_of_getElem? hd))
      obtain ⟨V1, V2, hV1, hV2, HzV2, hkV1, hkV2, hbV2, hltV2⟩ := fresh wr [.int .i64 0, .int .i64 0, .int .i64 0, .int .i64 0, .int .i64 0] [.int .i64 (d).au, .int .i64 (d).nu, .int .i64 (d).ki, .int .i64 (d).a, .int .i64 (d).b] 33 rfl
      have hsV2 : ((((V1.setCell ⟨wr.heap.size, 0, none⟩ (.int .i64 (d).au)).setCell ⟨wr.heap.size, 1, none⟩ (.int .i64 (d).nu)).setCell ⟨wr.heap.size, 2, none⟩ (.int .i64 (d).ki)).setCell ⟨wr.heap.size, 3, none⟩ (.int .i64 (d).a)).setCell ⟨wr.heap.size, 4, none⟩ (.int .i64 (d).b) = V2 := hV2
      clear hV2
      obtain ⟨⟨z0, z1, z2, z3, z4⟩, f0, f1, f2, f3, f4⟩ := cellsD5 hkV1
      clear hkV1
      obtain ⟨⟨s0, s1, s2, s3, s4⟩, _⟩ := cellsD5 hkV2
      have q1 := n1.below hbV2; have q2 := n2.below hbV2; have q3 := n3.below hbV2
      have htV := ht.trans (touch_below hbV2 [B1, B2, B3])
      have Hd := Lib.hid hd
      clear hcc n1 n2 n3 hd HM
      have hl1 : (k : Int) < (L.length : Int) := by omega
      by_cases e1 : d.ki = 1
      · have t1 : (d.ki == 1) = true := by simp [e1]
        have t1' : decide (d.ki = 1) = true := by simp [e1]
        have HJ := Lib.hid (namK_join B1 L 1 k d V2 q1 Hd.out e1 HLd.out (by omega))
        have Q2 := Lib.hid (q2.skip Hd.out (by omega)); have Q3 := Lib.hid (q3.skip Hd.out (by omega))
        clear q1 q2 q3 e1
        go_wp2_with fail
        refine HJ.out.mono ?_
        rintro e w5 ⟨rfl, hn5, ht5⟩
        have ht6 := htV.trans (ht5.fresh (Touch.refl _ []) (by simp) |> fun t => (⟨t.os, t.tape, t.output, t.size, fun k hk hn => t.block k hk fun e => hn (by simp at e; simp [e])⟩ : Touch V2 w5 [B1, B2, B3]))
        have r2 := Q2.out.off ht5 (by simp; omega); have r3 := Q3.out.off ht5 (by simp; omega)
        go_wp2_with fail
        refine ⟨?rel, ?measure⟩
        case rel => exact ⟨k + 1, by omega, by go_num, hn5, r2, r3, ht6⟩
        case measure => simp [intOf]; omega
      have t1 : (d.ki == 1) = false := by simp [e1]
      have t1' : decide (d.ki = 1) = false := by simp [e1]
      by_cases e2 : d.ki = 2
      · have t2 : (d.ki == 2) = true := by simp [e2]
        have t2' : decide (d.ki = 2) = true := by simp [e2]
        have HJ := Lib.hid (namK_join B2 L 2 k d V2 q2 Hd.out e2 HLd.out (by omega))
        have Q2 := Lib.hid (q1.skip Hd.out (by omega)); have Q3 := Lib.hid (q3.skip Hd.out (by omega))
        clear q1 q2 q3 e1 e2
        go_wp2_with fail
        refine HJ.out.mono ?_
        rintro e w5 ⟨rfl, hn5, ht5⟩
        have ht6 := htV.trans (ht5.fresh (Touch.refl _ []) (by simp) |> fun t => (⟨t.os, t.tape, t.output, t.size, fun k hk hn => t.block k hk fun e => hn (by simp at e; simp [e])⟩ : Touch V2 w5 [B1, B2, B3]))
        have r2 := Q2.out.off ht5 (by simp; omega); have r3 := Q3.out.off ht5 (by simp; omega)
        go_wp2_with fail
        refine ⟨?rel, ?measure⟩
        case rel => exact ⟨k + 1, by omega, by go_num, r2, hn5, r3, ht6⟩
        case measure => simp [intOf]; omega
      have t2 : (d.ki == 2) = false := by simp [e2]
      have t2' : decide (d.ki = 2) = false := by simp [e2]
      by_cases e4 : d.ki = 4
      · have t4 : (d.ki == 4) = true := by simp [e4]
        have t4' : decide (d.ki = 4) = true := by simp [e4]
        have HJ := Lib.hid (namK_join B3 L 4 k d V2 q3 Hd.out e4 HLd.out (by omega))
        have Q2 := Lib.hid (q1.skip Hd.out (by omega)); have Q3 := Lib.hid (q2.skip Hd.out (by omega))
        clear q1 q2 q3 e1 e2 e4
        go_wp2_with fail
        refine HJ.out.mono ?_
        rintro e w5 ⟨rfl, hn5, ht5⟩
        have ht6 := htV.trans (ht5.fresh (Touch.refl _ []) (by simp) |> fun t => (⟨t.os, t.tape, t.output, t.size, fun k hk hn => t.block k hk fun e => hn (by simp at e; simp [e])⟩ : Touch V2 w5 [B1, B2, B3]))
        have r2 := Q2.out.off ht5 (by simp; omega); have r3 := Q3.out.off ht5 (by simp; omega)
        go_wp2_with fail
        refine ⟨?rel, ?measure⟩
        case rel => exact ⟨k + 1, by omega, by go_num, r2, r3, hn5, ht6⟩
        case measure => simp [intOf]; omega
      have t4 : (d.ki == 4) = false := by simp [e4]
      have t4' : decide (d.ki = 4) = false := by simp [e4]
      have Q1 := Lib.hid (q1.skip Hd.out e1); have Q2 := Lib.hid (q2.skip Hd.out e2); have Q3 := Lib.hid (q3.skip Hd.out e4)
      clear q1 q2 q3 e1 e2 e4
      go_wp2_with fail
      refine ⟨?rel, ?measure⟩
      case rel => exact ⟨k + 1, by omega, by go_num, Q1.out, Q2.out, Q3.out, htV⟩
      case measure => simp [intOf]; omega
    · have he : L.take k = L := List.take_of_length_le (by omega)
      rw [he] at n1 n2 n3
      have N1 := Lib.hid n1; have N2 := Lib.hid n2; have N3 := Lib.hid n3
      clear n1 n2 n3 he HM
      go_wp2_with fail
      go_ret3
      obtain ⟨x1, h1, h2, h3⟩ := N1.out; obtain ⟨x2, h4, h5, h6⟩ := N2.out; obtain ⟨x3, h7, h8, h9⟩ := N3.out
      have hz := Hsz.out
      exact ⟨B1, B2, B3, rfl, ⟨x1, h1, h2, by omega⟩, ⟨x2, h4, h5, by omega⟩, ⟨x3, h7, h8, by omega⟩, by omega, hw1.trans (ht.below (fun b hb => by simp at hb; omega) hw1.size)⟩
end Go.Proofs.YthnckicnnhkkaaaGreat
/- Package corpus: records, Effective. Condition: the corpus reads as such. -/
namespace Go.Proofs.YthnckicnnhkkaaaGreat
open Go.RowKit Go.Maps Go.Shelf

theorem namK_of (b : Nat) (L : List Dec) (ki : Int) (n : Nat) (x : Int) (w : World) (h : NamK w b L ki n) (hx : wfI x) :
    Calls Tryz.prog 79 #[.map (some b), .int .i64 x] w fun e w' => e = .returned (.int .i64 (nameK L ki x)) ∧ Below w.heap.size w w' := by
  obtain ⟨m, h1, h2, _⟩ := h
  exact nof_ok b m (nameK L ki) x w h1 h2 hx
theorem specB_rng {s : Spec} (h : specB s = true) : (1 ≤ s.id ∧ s.id ≤ 9999) ∧ (1 ≤ s.obv ∧ s.obv ≤ 999) ∧ (1 ≤ s.rev ∧ s.rev ≤ 999) := by
  unfold specB inB at h
  simp only [Bool.and_eq_true, decide_eq_true_eq] at h
  omega
theorem nameK_rng {L : List Dec} {ki x : Int} (hL : ∀ d ∈ L, decB d = true) (h : 1 ≤ x ∧ x ≤ 9999) : 1 ≤ nameK L ki x ∧ nameK L ki x ≤ 9999 :=
  ⟨nameF_pos _ (edgK_pos hL) x h.1, Int.le_trans (nameF_le _ x) h.2⟩
theorem nameK_idem (L : List Dec) (ki x : Int) : nameK L ki (nameK L ki x) = nameK L ki x := nameF_idem _ x
/-- What the map of records says behind a part of the list. -/
def RecM (mr : List (Int × Int)) (c : Int → Int) (l : List Spec) : Prop := ∀ x, lookM mr x = (l.find? fun t => decide (c t.id = x)).map Spec.id
theorem RecM.skip {mr : List (Int × Int)} {c : Int → Int} {l : List Spec} {k : Nat} {s : Spec} (h : RecM mr c (l.take k)) (hs : l[k]? = some s) (hf : ((l.take k).find? fun t => decide (c t.id = c s.id)) ≠ none) : RecM mr c (l.take (k + 1)) := by
  intro x
  rw [h x, take_snoc' hs, List.find?_append]
  cases hx : (l.take k).find? fun t => decide (c t.id = x) with
  | some t => rfl
  | none =>
    have : ¬ c s.id = x := fun e => hf (by rw [e]; exact hx)
    simp [this]
theorem RecM.put {mr : List (Int × Int)} {c : Int → Int} {l : List Spec} {k : Nat} {s : Spec} (h : RecM mr c (l.take k)) (hs : l[k]? = some s) (hf : ((l.take k).find? fun t => decide (c t.id = c s.id)) = none) : RecM (putM mr (c s.id) s.id) c (l.take (k + 1)) := by
  intro x
  rw [lookM_putM, h x, take_snoc' hs, List.find?_append]
  by_cases e : c s.id = x
  · subst e
    rw [if_pos rfl, hf]
    simp
  · rw [if_neg e]
    cases hx : (l.take k).find? fun t => decide (c t.id = x) with
    | some t => rfl
    | none => simp [e]
/-- The records of the first part of a list. -/
def recT (L : List Dec) (l : List Spec) (k : Nat) : List Spec := ((l.take k).filter fun s => decide (recI (nameK L 4) l s.id = s.id)).map (renS L)
theorem recT_end (L : List Dec) (l : List Spec) : recT L l l.length = effL L l := by unfold recT effL recL; rw [List.take_length]
theorem recT_len (L : List Dec) (l : List Spec) (k : Nat) : (recT L l k).length ≤ k := by
  unfold recT
  rw [List.length_map]
  exact Nat.le_trans (List.length_filter_le _ _) (by rw [List.length_take]; omega)
theorem recT_skip {L : List Dec} {l : List Spec} {k : Nat} {s : Spec} (hs : l[k]? = some s) (h : recI (nameK L 4) l s.id ≠ s.id) : recT L l (k + 1) = recT L l k := by
  unfold recT; rw [recL_take_snoc hs, if_neg h, List.append_nil]
theorem recT_take {L : List Dec} {l : List Spec} {k : Nat} {s : Spec} (hs : l[k]? = some s) (h : recI (nameK L 4) l s.id = s.id) : recT L l (k + 1) = recT L l k ++ [renS L s] := by
  unfold recT; rw [recL_take_snoc hs, if_pos h, List.map_append]; rfl
set_option maxHeartbeats 16000000 in
set_option maxRecDepth 100000 in
theorem records_ok (S : List Nat) (p : Nat) (l : List Spec) (D : List Dec) (W : List Mrk) (w : World) (h : CorAt w S p l D W) :
    Calls Tryz.prog 77 #[.pointer (some ⟨p, 0, none⟩)] w fun e w' => ∃ v rb cb mr, e = .returned (.tuple #[v, .map (some rb), .map (some cb)]) ∧ OwnS w.heap.size w' v (effL (standL D W) l) ∧ MapII w' rb mr ∧ RecM mr (nameK (standL D W) 4) l ∧ NamK w' cb (standL D W) 4 1000 ∧ Below w.heap.size w w' := by
  have HRd := Lib.hid (read_ok S p l D W w h)
  obtain ⟨q, mb, wb, vl, hR⟩ := h
  have hLd : ∀ d ∈ standL D W, decB d = true := fun d hd => hR.ok.dec d (List.mem_filter.1 hd).1
  obtain ⟨L, hL⟩ : ∃ z, standL D W = z := ⟨_, rfl⟩
  rw [hL] at hLd HRd ⊢
  have HLd := Lib.hid hLd
  have Hok := Lib.hid hR.ok.lis
  have HR := Lib.hid hR
  obtain ⟨A, c, rfl, hlc, hcm, _⟩ := (show Specs w vl l from hR.own.slOf).cells
  have hmm := @run_makeMap Tryz.prog
  obtain ⟨iS, hiS, hzS, hkS, hbS⟩ := info_parts infoS
  clear hLd hL hR
  go_enter Tryz.func77, Tryz.ntmps77
  go_wp2_with fail
  refine HRd.out.mono ?_
  rintro e w1 ⟨b1, b2, b3, rfl, n1, n2, n3, hbs, hb1⟩
  obtain ⟨w2, hw2⟩ : ∃ z, w1.alloc (.map #[] 0) = z := ⟨_, rfl⟩
  have hb2 : Below w1.heap.size w1 w2 := by rw [← hw2]; exact (Below.refl _ _).alloc (Nat.le_refl _) _
  have hs2 : w2.heap.size = w1.heap.size + 1 := by rw [← hw2]; simp
  have hm0 : MapII w2 w1.heap.size [] := by rw [← hw2]; exact mapII_made w1
  have hwW := below_trans hb1 hb2
  have hR2 := HR.out.below hwW
  obtain ⟨⟨r0, r1⟩, _⟩ := cellsM hR2.row
  obtain ⟨_, _, e0, _, _, hcl⟩ := (show Specs w2 _ l from hR2.own.slOf).cells
  cases e0
  have HCl := Lib.hid hcl
  have hno : NoCell w2 [w1.heap.size] := hm0.nocell
  have HN := Lib.hid (And.intro (n1.below hb2) (And.intro (n2.below hb2) (n3.below hb2)))
  obtain ⟨B, hB⟩ : ∃ z, w1.heap.size = z := ⟨_, rfl⟩
  have hbl : b1 < B ∧ b2 < B ∧ b3 < B ∧ B < w2.heap.size := by have := n1.lt; have := n2.lt; have := n3.lt; omega
  rw [hB] at hm0 hno
  have Hno := Lib.hid hno; have Hm0 := Lib.hid hm0
  have HbB := Lib.hid (show w.heap.size ≤ B by have := hb1.size; omega)
  clear n1 n2 n3 hR2 hcl hno hm0 hs2 hbs HRd
  go_wp2_with fail
  go_loopw [8, 27] (fun t8 t27 wr => ∃ (k : Nat) (v : Value) (mr : List (Int × Int)), k ≤ l.length ∧ t8 = v ∧ t27 = .int .i64 k ∧ OwnS w2.heap.size wr v (recT L l k) ∧ MapII wr B mr ∧ Hid (RecM mr (nameK L 4) (l.take k)) ∧ mr.length ≤ k ∧ Touch w2 wr [B]) (fun _ t _ => l.length - (intOf t).toNat)
  case atStart => exact ⟨0, _, [], Nat.zero_le _, rfl, rfl, by unfold recT; simp; exact own_nil _ _ _ _ _, Hm0.out, (fun x => by simp [lookM]), by simp, Touch.refl _ _⟩
  case round =>
    obtain ⟨k, v, mr, hk, rfl, rfl, hown, hmr, Hrec, hml, ht⟩ := hrel
    have k1 := HN.out.1.off ht (by simp; omega); have k2 := HN.out.2.1.off ht (by simp; omega); have k3 := HN.out.2.2.off ht (by simp; omega)
    by_cases hlt : k < l.length
    · obtain ⟨s, hs⟩ := get_of_lt hlt
      obtain ⟨b, o, rfl, _, hcc⟩ := HCl.out _ (lt_of_get hs)
      obtain ⟨c0, c1, c2, c3, c4, c5, c6⟩ := hcc w2 (Below.refl _ _) k s hs
      replace c0 := cell_touch ht Hno.out c0; replace c1 := cell_touch ht Hno.out c1; replace c2 := cell_touch ht Hno.out c2; replace c3 := cell_touch ht Hno.out c3; replace c4 := cell_touch ht Hno.out c4; replace c5 := cell_touch ht Hno.out c5; replace c6 := cell_touch ht Hno.out c6
      have hsB := Hok.out.ok s (List.mem_of_getElem? hs)
      obtain ⟨g1, g2, g3⟩ := specB_rng hsB
      obtain ⟨V1, V2, hV1, hV2, HzV2, hkV1, hkV2, hbV2, hltV2⟩ := fresh wr [.int .i64 0, .int .i64 0, .int .i64 0, .int .i64 0, .int .i64 0, .int .i64 0, .int .i64 0] [.int .i64 (s).id, .int .i64 (s).obv, .int .i64 (s).rev, .int .i64 (s).os, .int .i64 (s).rs, .int .i64 (s).ax, .int .i64 (s).wt] 31 rfl
      have hsV2 : ((((((V1.setCell ⟨wr.heap.size, 0, none⟩ (.int .i64 (s).id)).setCell ⟨wr.heap.size, 1, none⟩ (.int .i64 (s).obv)).setCell ⟨wr.heap.size, 2, none⟩ (.int .i64 (s).rev)).setCell ⟨wr.heap.size, 3, none⟩ (.int .i64 (s).os)).setCell ⟨wr.heap.size, 4, none⟩ (.int .i64 (s).rs)).setCell ⟨wr.heap.size, 5, none⟩ (.int .i64 (s).ax)).setCell ⟨wr.heap.size, 6, none⟩ (.int .i64 (s).wt) = V2 := hV2
      clear hV2
      obtain ⟨⟨z0, z1, z2, z3, z4, z5, z6⟩, f0, f1, f2, f3, f4, f5, f6⟩ := cellsS hkV1
      clear hkV1
      obtain ⟨⟨s0, s1, s2, s3, s4, s5, s6⟩, _⟩ := cellsS hkV2
      have hl1 : (k : Int) < (l.length : Int) := by omega
      have HO := Lib.hid (hown.below hbV2); have HMr := Lib.hid (hmr.below hbV2)
      have K1 := Lib.hid (k1.below hbV2); have K2 := Lib.hid (k2.below hbV2); have K3 := Lib.hid (k3.below hbV2)
      have htV := ht.trans (touch_below hbV2 [B])
      have Hs := Lib.hid hs
      have HkV := Lib.hid hkV2
      obtain ⟨A8, c8, e8, _⟩ := id hown.slOf
      subst e8
      have HJw : Hid (∀ j, (Value.slice A8 (recT L l k).length c8).ownBlock = some j → j < wr.heap.size) := Lib.hid fun j hj => (hown.lt j hj).2
      have hBw : B < wr.heap.size := hmr.lt
      have hw2r : w2.heap.size ≤ wr.heap.size := ht.size
      clear hcc hown hmr k1 k2 k3 hs hkV2
      go_wp2_with fail
      refine (namK_of b3 L 4 1000 s.id V2 K3.out (wf_small (by omega) (by omega))).mono ?_
      rintro e w5 ⟨rfl, hb5⟩
      have hcr := nameK_rng (ki := 4) HLd.out g1
      obtain ⟨cn, hcn⟩ : ∃ z, nameK L 4 s.id = z := ⟨_, rfl⟩
      rw [hcn] at hcr
      have Hcn := Lib.hid hcn
      have hmr5 := HMr.out.below hb5
      have hlk := hmr5.look_ok (x := cn) (wf_small (by omega) (by omega))
      have hrx := Hrec.out cn
      cases hf : (l.take k).find? (fun t => decide (nameK L 4 t.id = cn)) with
      | some t =>
        rw [hf] at hrx
        rw [hrx] at hlk
        simp only [Option.map_some, Option.getD_some, Option.isSome_some] at hlk
        have hne : recI (nameK L 4) l s.id ≠ s.id := find_take' Hok.out.srt Hs.out (t := t) (by rw [hcn]; exact hf)
        have HT := Lib.hid (recT_skip Hs.out hne)
        have HR2 : Hid (RecM mr (nameK L 4) (l.take (k + 1))) := Hrec.out.skip Hs.out (by rw [hcn, hf]; simp)
        have Hm5 := Lib.hid hmr5
        rw [hcn]
        clear hf hrx hne hmr5 hcn
        go_wp2_with fail
        refine ⟨?rel, ?measure⟩
        case rel => exact ⟨k + 1, _, mr, by omega, rfl, by go_num, by rw [HT.out]; exact HO.out.below hb5, Hm5.out, HR2, by omega, htV.trans (touch_below hb5 _)⟩
        case measure => simp [intOf]; omega
      | none =>
        rw [hf] at hrx
        rw [hrx] at hlk
        simp only [Option.map_none, Option.getD_none, Option.isSome_none] at hlk
        have hne : recI (nameK L 4) l s.id = s.id := find_take Hs.out (by rw [hcn]; exact hf)
        have HT := Lib.hid (recT_take Hs.out hne)
        have HR2 : Hid (RecM (putM mr cn s.id) (nameK L 4) (l.take (k + 1))) := by rw [← hcn]; exact Hrec.out.put Hs.out (by rw [hcn]; exact hf)
        obtain ⟨w6, hrun, hm6, hg6⟩ := hmr5.put (x := cn) (y := s.id) (wf_small (by omega) (by omega)) (wf_small (by omega) (by omega)) (by simp only [maxLen]; omega)
        have hkV5 := heap_below HkV.out hb5 (heap_lt HkV.out)
        obtain ⟨⟨s0', s1', s2', s3', s4', s5', s6'⟩, _⟩ := cellsS hkV5
        have t6 : Touch w5 w6 [B] := grown_touch hg6 (by simp)
        have hk6 : w6.heap[wr.heap.size]? = _ := (t6.block wr.heap.size (heap_lt hkV5) (by simp; omega)).trans hkV5
        obtain ⟨⟨d0, d1, d2, d3, d4, d5, d6⟩, _⟩ := cellsS hk6
        have HO6 := Lib.hid ((HO.out.below hb5).off t6 (fun j hj => by have := (HO.out.lt j hj).1; simp; omega))
        have q1 := (K1.out.below hb5).off t6 (by simp; omega); have q2 := (K2.out.below hb5).off t6 (by simp; omega)
        have Q1 := Lib.hid fun (w9 : World) (hb : Below w6.heap.size w6 w9) => namK_of b1 L 1 1000 s.obv w9 (q1.below hb) (wf_small (by omega) (by omega))
        have Q2 := Lib.hid fun (w9 : World) (hb : Below w6.heap.size w6 w9) => namK_of b2 L 2 1000 s.rev w9 (q2.below hb) (wf_small (by omega) (by omega))
        have ht6 := (htV.trans (touch_below hb5 _)).trans t6
        have Hm6 := Lib.hid hm6; have Hk6 := Lib.hid hk6
        obtain ⟨o', ho'⟩ : ∃ z, nameK L 1 s.obv = z := ⟨_, rfl⟩
        obtain ⟨r', hr'⟩ : ∃ z, nameK L 2 s.rev = z := ⟨_, rfl⟩
        rw [ho'] at Q1; rw [hr'] at Q2
        have Hren : Hid (renS L s = ⟨s.id, o', r', s.os, s.rs, s.ax, s.wt⟩) := by show _ = _; unfold renS; rw [ho', hr']
        rw [hcn]
        have hs6 := hg6.size
        clear hf hrx hne hmr5 hcn hm6 hk6 hkV5 q1 q2 ho' hr' s1' s2' s3' s4' s5' s6' hg6 t6
        go_wp2_with fail
        have hba : Below (w6).heap.size (w6) (w6).drew := (Below.refl _ _).drew
        obtain ⟨wa, hwa⟩ : ∃ W, (w6).drew = W := ⟨_, rfl⟩
        rw [hwa] at hba
        have HSt := Lib.hid fun (w9 : World) (hb : Below wa.heap.size wa w9) => (show (fun w' : World => Below wa.heap.size wa w' ∧ w'.cell? ⟨wr.heap.size, 1, none⟩ = some (.int .i64 s.obv) ∧ w'.cell? ⟨wr.heap.size, 2, none⟩ = some (.int .i64 s.rev)) w9 from ⟨hb, cell_later hb (cell_later hba d1), cell_later hb (cell_later hba d2)⟩)
        have hHeld := HSt.out wa (Below.refl _ _)
        refine wp_region_S 9 (fun w' : World => Below wa.heap.size wa w' ∧ w'.cell? ⟨wr.heap.size, 1, none⟩ = some (.int .i64 s.obv) ∧ w'.cell? ⟨wr.heap.size, 2, none⟩ = some (.int .i64 s.rev)) (by kernel_rfl) (by decide) ?_
        rw [hwa]
        clear hwa
        refine wpAnyS_takeD 0 (some 46) (.map (some b1)) (by rfl) (by rfl) (by kernel_rfl) (by exact fun _ _ _ h => h) (by rfl) (fun w' hS => by go_simp) hHeld ?_
        simp only [Act.put, List.setIfInBounds_toArray, List.set_cons_succ, List.set_cons_zero]
        refine wpAnyS_takeD 1 (some 47) (.pointer (some ⟨wr.heap.size, 1, none⟩)) (by rfl) (by rfl) (by kernel_rfl) (by exact fun _ _ _ h => h) (by rfl) (fun w' hS => by go_simp) hHeld ?_
        simp only [Act.put, List.setIfInBounds_toArray, List.set_cons_succ, List.set_cons_zero]
        refine wpAnyS_takeD 2 (some 48) (.int .i64 s.obv) (by rfl) (by rfl) (by kernel_rfl) (by exact fun _ _ _ h => h) (by rfl) (fun w' hS => by (obtain ⟨_, x0, x1⟩ := hS; go_simp)) hHeld ?_
        simp only [Act.put, List.setIfInBounds_toArray, List.set_cons_succ, List.set_cons_zero]
        refine wpAnyS_takeD 4 (some 50) (.map (some b2)) (by rfl) (by rfl) (by kernel_rfl) (by exact fun _ _ _ h => h) (by rfl) (fun w' hS => by go_simp) hHeld ?_
        simp only [Act.put, List.setIfInBounds_toArray, List.set_cons_succ, List.set_cons_zero]
        refine wpAnyS_takeD 5 (some 51) (.pointer (some ⟨wr.heap.size, 2, none⟩)) (by rfl) (by rfl) (by kernel_rfl) (by exact fun _ _ _ h => h) (by rfl) (fun w' hS => by go_simp) hHeld ?_
        simp only [Act.put, List.setIfInBounds_toArray, List.set_cons_succ, List.set_cons_zero]
        refine wpAnyS_takeD 6 (some 52) (.int .i64 s.rev) (by rfl) (by rfl) (by kernel_rfl) (by exact fun _ _ _ h => h) (by rfl) (fun w' hS => by (obtain ⟨_, x0, x1⟩ := hS; go_simp)) hHeld ?_
        simp only [Act.put, List.setIfInBounds_toArray, List.set_cons_succ, List.set_cons_zero]
        clear hHeld
        refine wpAnyS_one 3 (by kernel_rfl) (by rfl) (by decide) (fun K hK => ?_)
        have HK := Lib.hid hK; clear hK
        rw [if_pos (by rfl)]
        go_simp
        refine (Q1.out wa hba).mono ?_
        rintro e w7 ⟨rfl, hb7⟩
        have hHeld := HSt.out _ hb7
        refine HK.out _ _ (HSt.out _ hb7) ?_
        clear HK
        refine wpAnyS_takeD 8 (some 54) (.pointer (some ⟨wr.heap.size, 1, none⟩)) (by rfl) (by rfl) (by kernel_rfl) (by exact fun _ _ _ h => h) (by rfl) (fun w' hS => by go_simp) hHeld ?_
        simp only [Act.put, List.setIfInBounds_toArray, List.set_cons_succ, List.set_cons_zero]
        clear hHeld
        refine wpAnyS_one 7 (by kernel_rfl) (by rfl) (by decide) (fun K hK => ?_)
        have HK := Lib.hid hK; clear hK
        rw [if_pos (by rfl)]
        go_simp
        refine (Q2.out w7 (below_trans hba hb7)).mono ?_
        rintro e w8 ⟨rfl, hb8⟩
        refine HK.out _ _ (HSt.out _ (below_trans hb7 hb8)) ?_
        clear HK
        have hb68 := below_trans hba (below_trans hb7 hb8)
        have hk8 := heap_below Hk6.out hb68 (heap_lt Hk6.out)
        have hk9 := heap_setCell_same w8 wr.heap.size 1 _ 31 (.int .i64 o') hk8
        have hk10 := heap_setCell_same _ wr.heap.size 2 _ 31 (.int .i64 r') hk9
        have hl8 := heap_lt hk8
        have f9 : w8.frozen? ⟨wr.heap.size, 1, none⟩ = false := heap_free hk8
        have f10 : (w8.setCell ⟨wr.heap.size, 1, none⟩ (.int .i64 o')).frozen? ⟨wr.heap.size, 2, none⟩ = false := heap_free hk9
        have g9 : w8.cell? ⟨wr.heap.size, 1, none⟩ = some (.int .i64 s.obv) := heap_cell hk8
        have g10 : (w8.setCell ⟨wr.heap.size, 1, none⟩ (.int .i64 o')).cell? ⟨wr.heap.size, 2, none⟩ = some (.int .i64 s.rev) := heap_cell hk9
        obtain ⟨wz, hwz⟩ : ∃ z, (w8.setCell ⟨wr.heap.size, 1, none⟩ (.int .i64 o')).setCell ⟨wr.heap.size, 2, none⟩ (.int .i64 r') = z := ⟨_, rfl⟩
        rw [hwz] at hk10
        have tz : Touch w8 wz [wr.heap.size] := by rw [← hwz]; exact (touch_set rfl (by simp)).trans (touch_set rfl (by simp))
        obtain ⟨⟨y0, y1, y2, y3, y4, y5, y6⟩, _⟩ := cellsS (show wz.heap[wr.heap.size]? = some (.cells [.int .i64 s.id, .int .i64 o', .int .i64 r', .int .i64 s.os, .int .i64 s.rs, .int .i64 s.ax, .int .i64 s.wt].toArray 31 (0, 0)) from hk10)
        have hOz := (HO6.out.below hb68).off tz (fun j hj => by have := HJw.out j hj; simp; omega)
        have hmz : MapII wz B (putM mr cn s.id) := MapAt.same (Hm6.out.below hb68) (tz.block B (by have := hb68.size; omega) (by simp; omega))
        have HOz := Lib.hid hOz; have Hmz := Lib.hid hmz
        have htz := (ht6.trans (touch_below hb68 _)).fresh tz (fun b hb => .inr (by simp at hb; omega))
        have hrl := recT_len L l k
        have hll := Hok.out.len
        have hzz : w2.heap.size ≤ wz.heap.size := htz.size
        clear hOz hmz hk8 hk9 hk10
        refine (show tailOf _ _ _ _ _ _ _ _ from ⟨by kernel_rfl, ?_⟩)
        simp only [List.drop_succ_cons, List.drop_zero]
        go_wp2_with (at_builtin; refine wpList_append1 (enc := encS) (size := 7) (B := w2.heap.size) rfl (.tmp 56) (.tmp 58) _ rfl 31 iS _ 56 Tryz.underlying51 hiS hzS hkS hbS rfl (by decide) rfl HOz.out (⟨s.id, o', r', s.os, s.rs, s.ax, s.wt⟩ : Spec) _ rfl lenS oneS _ rfl rfl (by omega) (by omega) (by omega) ?_; intro v' wq hown' hgrow hat)
        obtain ⟨Av, cv9, rfl, _⟩ := id hown'.slOf
        have e9 : (recT L l k ++ [(⟨s.id, o', r', s.os, s.rs, s.ax, s.wt⟩ : Spec)]) = recT L l (k + 1) := by rw [HT.out, Hren.out]
        rw [e9] at hown'
        have HOq := Lib.hid hown'; have HGq := Lib.hid hgrow; have HE9 := Lib.hid e9
        clear hown' hgrow hat e9
        go_wp2_with fail
        refine ⟨?rel, ?measure⟩
        case rel =>
          have tq : Touch w2 wq [B] := htz.trans_own HGq.out (fun j hj => (HOz.out.lt j hj).1)
          refine ⟨k + 1, _, putM mr cn s.id, by omega, rfl, by go_num, ?_, ?_, HR2, by rw [putM_len]; split <;> omega, tq⟩
          · rw [HE9.out]; exact HOq.out
          · exact MapAt.same Hmz.out (HGq.out.block B (MapAt.lt Hmz.out) (fun e => by have := HOz.out.lt B e.symm; omega))
        case measure => simp [intOf]; omega
    · have he : k = l.length := by omega
      subst he
      rw [recT_end] at hown
      rw [List.take_length] at Hrec
      have HO := Lib.hid hown; have HMr := Lib.hid hmr; have K3 := Lib.hid k3
      clear hown hmr k1 k2 k3
      obtain ⟨A8, c8, e8, _⟩ := id HO.out.slOf
      subst e8
      go_wp2_with fail
      go_ret3
      exact ⟨_, B, b3, mr, rfl, HO.out.base hwW.size, HMr.out, Hrec.out, K3.out, hwW.trans (ht.below (fun b hb => by simp at hb; subst hb; exact HbB.out) hwW.size)⟩
end Go.Proofs.YthnckicnnhkkaaaGreat
/- Package corpus: Effective, Claims. Condition: the corpus reads as such. -/
namespace Go.Proofs.YthnckicnnhkkaaaGreat
open Go.RowKit Go.Maps Go.Shelf

set_option maxHeartbeats 2000000 in
theorem Effective_ok (v : Value) (l : List Spec) (D : List Dec) (W : List Mrk) (w : World) (h : CorO w v l D W) :
    Calls Tryz.prog 28 #[v] w fun e w' => ∃ u, e = .returned u ∧ OwnS w.heap.size w' u (effL (standL D W) l) ∧ Below w.heap.size w w' := by
  rcases h with ⟨rfl, rfl, rfl, rfl⟩ | ⟨S, p, rfl, h⟩
  · go_enter Tryz.func28, Tryz.ntmps28
    go_wp2
    go_ret
    exact ⟨_, rfl, own_nil _ _ _ _ _, Below.refl _ _⟩
  have HC := Lib.hid (records_ok S p l D W w h)
  clear h
  go_enter Tryz.func28, Tryz.ntmps28
  go_wp2_with fail
  refine HC.out.mono ?_
  rintro e w1 ⟨u, rb, cb, mr, rfl, ho, _, _, _, hb⟩
  have Ho := Lib.hid ho
  clear ho
  go_wp2_with fail
  go_ret
  exact ⟨u, rfl, Ho.out, hb⟩
set_option maxHeartbeats 1000000 in
theorem cmpQ_ok (x y : Pair) (W : World) : Calls Tryz.prog 81 #[valP x, valP y] W fun e w' => e = .returned (.int .i64 (cmpP x y)) ∧ ∃ q os', w' = Go.Sort.grow (W.drewN q) os' := by
  have hca := fun W' => AnyG.cmp_Compare_int Tryz.layCmp x.a y.a W'
  have hcb := fun W' => AnyG.cmp_Compare_int Tryz.layCmp x.b y.b W'
  change ∀ W', Calls Tryz.prog 83 _ _ _ at hca
  change ∀ W', Calls Tryz.prog 83 _ _ _ at hcb
  unfold cmpP
  generalize Lib.compareInt x.a y.a = r at hca ⊢
  generalize Lib.compareInt x.b y.b = s at hcb ⊢
  go_enter Tryz.func81, Tryz.ntmps81
  go_wp2_with fail
  obtain ⟨W0, hW0, Hz0, hb0, hlt0, hc0⟩ := boxed W #[.int .i64 x.a, .int .i64 x.b] 87
  obtain ⟨W1, hW1, Hz1, hb1, hlt1, hc1⟩ := boxed W0 #[.int .i64 y.a, .int .i64 y.b] 87
  have a0 : W1.drew.cell? _ = _ := cell_later hb1.drew (hc0 0 _ rfl); have a1 : W1.drew.cell? _ = _ := cell_later hb1.drew (hc0 1 _ rfl)
  have b0 : W1.drew.cell? _ = _ := hc1 0 _ rfl; have b1 : W1.drew.cell? _ = _ := hc1 1 _ rfl
  rw [Hz0.out] at b0 b1
  clear hc0 hc1
  have hgrow' : ∃ os', W1 = Go.Sort.grow W os' := ⟨_, by rw [← hW1, ← hW0, Go.Sort.alloc_eq_grow, Go.Sort.alloc_eq_grow, Go.Sort.grow_grow]⟩
  have hgrow := Lib.hid hgrow'; clear hgrow'
  rw [hW0, hW1]
  clear hW0 hW1
  refine wp_region_S 10 (fun w' => w' = W1.drew) (by kernel_rfl) (by decide) ?_
  have hHeld : W1.drew = W1.drew := rfl
  refine wpAnyS_take 0 (.pointer (some ⟨W.heap.size, 0, none⟩)) (by rfl) (by kernel_rfl) (by exact fun _ _ _ h => h) (by rfl) (fun w' hS => by (subst hS; go_simp)) hHeld ?_
  simp only [Act.put]
  refine wpAnyS_take 1 (.int .i64 x.a) (by rfl) (by kernel_rfl) (by exact fun _ _ _ h => h) (by rfl) (fun w' hS => by (subst hS; go_simp)) hHeld ?_
  simp only [Act.put]
  refine wpAnyS_take 2 (.pointer (some ⟨W.heap.size + 1, 0, none⟩)) (by rfl) (by kernel_rfl) (by exact fun _ _ _ h => h) (by rfl) (fun w' hS => by (subst hS; go_simp)) hHeld ?_
  simp only [Act.put]
  refine wpAnyS_take 3 (.int .i64 y.a) (by rfl) (by kernel_rfl) (by exact fun _ _ _ h => h) (by rfl) (fun w' hS => by (subst hS; go_simp)) hHeld ?_
  simp only [Act.put]
  refine wpAnyS_take 5 (.pointer (some ⟨W.heap.size, 1, none⟩)) (by rfl) (by kernel_rfl) (by exact fun _ _ _ h => h) (by rfl) (fun w' hS => by (subst hS; go_simp)) hHeld ?_
  simp only [Act.put]
  refine wpAnyS_take 6 (.int .i64 x.b) (by rfl) (by kernel_rfl) (by exact fun _ _ _ h => h) (by rfl) (fun w' hS => by (subst hS; go_simp)) hHeld ?_
  simp only [Act.put]
  refine wpAnyS_take 7 (.pointer (some ⟨W.heap.size + 1, 1, none⟩)) (by rfl) (by kernel_rfl) (by exact fun _ _ _ h => h) (by rfl) (fun w' hS => by (subst hS; go_simp)) hHeld ?_
  simp only [Act.put]
  refine wpAnyS_take 8 (.int .i64 y.b) (by rfl) (by kernel_rfl) (by exact fun _ _ _ h => h) (by rfl) (fun w' hS => by (subst hS; go_simp)) hHeld ?_
  simp only [Act.put]
  clear hHeld
  refine wpAnyS_one 4 (by kernel_rfl) (by rfl) (by decide) (fun K hK => ?_)
  have HK := Lib.hid hK; clear hK
  rw [if_pos (by rfl)]
  go_simp
  refine (hca _).mono ?_
  rintro e w2 ⟨rfl, rfl⟩
  refine HK.out _ _ rfl ?_
  clear HK
  refine wpAnyS_one 9 (by kernel_rfl) (by rfl) (by decide) (fun K hK => ?_)
  have HK := Lib.hid hK; clear hK
  rw [if_pos (by rfl)]
  go_simp
  refine (hcb _).mono ?_
  rintro e w2 ⟨rfl, rfl⟩
  refine HK.out _ _ rfl ?_
  clear HK
  refine (show tailOf _ _ _ _ _ _ _ _ from ⟨by kernel_rfl, ?_⟩)
  simp only [List.drop_succ_cons, List.drop_zero]
  go_wp2_with fail
  refine (Or_ok _ r s _ (by go_simp) (by go_simp)).mono ?_
  rintro e w3 ⟨rfl, rfl⟩
  go_wp2_with fail
  go_ret
  obtain ⟨os, hq⟩ := hgrow.out
  exact ⟨rfl, 1, _, by rw [hq, Go.Sort.alloc_eq_grow, Go.Sort.grow_grow]; rfl⟩
theorem cmpQ_lays (blk off size : Nat) (w : World) : CmpLays Tryz.prog 81 #[] encP 2 cmpP blk off size w := fun _ _ _ _ x y => cmpQ_ok x y _
set_option maxHeartbeats 2000000 in
theorem sortFuncQ_ok (B : Nat) (v : Value) (zs : List Pair) (w : World) (h : OwnP B w v zs) (hn : zs.length ≤ 1048576) :
    Calls Tryz.prog 80 #[v, .func (.func 81) #[] #[]] w fun e w' => e = .returned (.tuple #[]) ∧ ∃ ys, OwnP B w' v ys ∧ ByPair zs ys ∧ ys.length = zs.length ∧ w.grownBy w' v.ownBlock := by
  have eg : ∀ args w, (callFunc 81 args).run Tryz.prog w = .ok (.enter 81 args) w := enters_of Tryz.func81 (by kernel_rfl) rfl
  rcases h.cases with ⟨rfl, rfl⟩ | ⟨g, cap, rfl, hg, hgw, _, _⟩
  · refine (show Calls Tryz.prog 80 _ w _ from AnyF.slices_SortFunc_none Tryz.laySortP none 0 _ w).mono ?_
    rintro e w' ⟨rfl, rfl⟩
    exact ⟨rfl, [], h, ⟨List.Perm.refl _, List.Pairwise.nil⟩, rfl, World.grownBy.refl _ _⟩
  · have hH := h.holdsK rfl lenP
    refine (show Calls Tryz.prog 80 _ w _ from AnyQ.slices_SortFunc Tryz.laySortP 2 Tryz.isAgg87 Tryz.sizeOf87 encP lenP oneP cmpP cmpP_swo 81 #[] g 0 cap zs.toArray w eg (cmpQ_lays g 0 _ w) hH hgw (by simp; omega)).mono ?_
    rintro e w' ⟨rfl, d', n, os, hp, hs, rfl⟩
    obtain ⟨hby, hl⟩ := byPair_of hp hs
    exact ⟨rfl, d'.toList, h.sorted rfl lenP hl, hby, hl, Own.grown encP 2 (ys := d'.toList)⟩

/-! ### The pairs of records, decision by decision -/
def rawT (c : Int → Int) (l : List Spec) (K : List Dec) : List Pair :=
  ((K.filter fun d => decide (d.ki = 3)).map fun d => (⟨recI c l d.a, recI c l d.b⟩ : Pair)).filter fun p => decide (p.a ≠ 0) && decide (p.b ≠ 0) && decide (p.a ≠ p.b)
theorem rawC_T (L : List Dec) (l : List Spec) : rawC L l = rawT (nameK L 4) l L := rfl
section
variable {c : Int → Int} {l : List Spec} {K : List Dec} {k : Nat} {d : Dec} {mr : List (Int × Int)} {x : Int}
theorem rawT_step (hd : K[k]? = some d) : rawT c l (K.take (k + 1)) = rawT c l (K.take k) ++ (if d.ki = 3 ∧ recI c l d.a ≠ 0 ∧ recI c l d.b ≠ 0 ∧ recI c l d.a ≠ recI c l d.b then [⟨recI c l d.a, recI c l d.b⟩] else []) := by
  unfold rawT
  rw [take_snoc' hd, List.filter_append, List.map_append, List.filter_append]
  congr 1
  by_cases h3 : d.ki = 3
  · by_cases hab : recI c l d.a ≠ 0 ∧ recI c l d.b ≠ 0 ∧ recI c l d.a ≠ recI c l d.b
    · rw [if_pos ⟨h3, hab⟩]
      obtain ⟨h1, h2, h4⟩ := hab
      simp [h3, h1, h2, h4]
    · rw [if_neg fun h => hab h.2]
      have h0 : ([d].filter fun d => decide (d.ki = 3)) = [d] := by simp [h3]
      rw [h0]
      refine List.filter_eq_nil_iff.2 fun p hp => ?_
      simp only [List.map_cons, List.map_nil, List.mem_singleton] at hp
      subst hp
      simp only [Bool.and_eq_true, decide_eq_true_eq, and_assoc]
      exact hab
  · rw [if_neg fun h => h3 h.1]
    simp [h3]
theorem rawT_len : (rawT c l K).length ≤ K.length := by
  unfold rawT
  refine Nat.le_trans (List.length_filter_le _ _) ?_
  rw [List.length_map]
  exact List.length_filter_le _ _
theorem recM_look (h : RecM mr c l) (hid : ∀ s ∈ l, 1 ≤ s.id) (x : Int) : (lookM mr (c x)).getD 0 = recI c l x ∧ (lookM mr (c x)).isSome = decide (recI c l x ≠ 0) := by
  rw [h (c x)]
  unfold recI
  cases hf : l.find? fun t => decide (c t.id = c x) with
  | none => simp
  | some t =>
    have := hid t (List.mem_of_find?_eq_some hf)
    simp
    omega
theorem recI_rng (h : ∀ s ∈ l, 1 ≤ s.id ∧ s.id ≤ 9999) (x : Int) : 0 ≤ recI c l x ∧ recI c l x ≤ 9999 := by
  unfold recI
  split
  · rename_i t hf
    have := h t (List.mem_of_find?_eq_some hf)
    omega
  · omega
end
set_option maxHeartbeats 16000000 in
set_option maxRecDepth 100000 in
theorem Claims_ok (v : Value) (l : List Spec) (D : List Dec) (W : List Mrk) (w : World) (h : CorO w v l D W) :
    Calls Tryz.prog 30 #[v] w fun e w' => ∃ u out, e = .returned u ∧ OwnP w.heap.size w' u out ∧ ClaL (rawC (standL D W) l) out ∧ out.length ≤ 200 ∧ Below w.heap.size w w' := by
  rcases h with ⟨rfl, rfl, rfl, rfl⟩ | ⟨S, p, rfl, h⟩
  · go_enter Tryz.func30, Tryz.ntmps30
    go_wp2
    go_ret
    exact ⟨_, [], rfl, own_nil _ _ _ _ _, ⟨List.Pairwise.nil, fun p => by simp [rawC, standL]⟩, by simp, Below.refl _ _⟩
  have HRd := Lib.hid (records_ok S p l D W w h)
  obtain ⟨q, mb, wb, vl, hR⟩ := h
  have hLd : ∀ d ∈ standL D W, decB d = true := fun d hd => hR.ok.dec d (List.mem_filter.1 hd).1
  have hLl : (standL D W).length ≤ 200 := Nat.le_trans (List.length_filter_le _ _) hR.ok.lenD
  have HStd := Lib.hid fun (w9 : World) (hb : Below w.heap.size w w9) => LStand_ok q mb wb D W w9 (hR.led.below hb) (by have := hR.ok.lenD; omega)
  rw [rawC_T]
  obtain ⟨L, hL⟩ : ∃ z, standL D W = z := ⟨_, rfl⟩
  rw [hL] at hLd hLl HRd HStd ⊢
  have HLd := Lib.hid hLd
  have Hids : Hid (∀ s ∈ l, 1 ≤ s.id ∧ s.id ≤ 9999) := Lib.hid fun s hs => (specB_rng (hR.ok.lis.ok s hs)).1
  obtain ⟨⟨r0, r1⟩, _⟩ := cellsM hR.row
  obtain ⟨iP, hiP, hzP, hkP, hbP⟩ := info_parts infoP
  clear hLd hL hR
  go_enter Tryz.func30, Tryz.ntmps30
  go_wp2_with fail
  refine HRd.out.mono ?_
  rintro e w1 ⟨u, rb, cb, mr, rfl, _, hmr, hrec, hcb, hb1⟩
  replace r1 := cell_later hb1 r1
  have Hm := Lib.hid hmr; have Hrec := Lib.hid hrec; have Hcb := Lib.hid hcb
  clear hmr hrec hcb HRd
  go_wp2_with fail
  refine (HStd.out w1 hb1).mono ?_
  rintro e w2 ⟨v2, rfl, ho2, hb2⟩
  obtain ⟨A, c, rfl, hlc, hcm, hcl⟩ := (show Decs w2 v2 L from ho2.slOf).cells
  have HCl := Lib.hid hcl
  have hw2 := below_trans hb1 hb2
  have Hm2 := Lib.hid (Hm.out.below hb2); have Hcb2 := Lib.hid (Hcb.out.below hb2)
  clear ho2 hcl HStd Hm Hcb
  go_wp2_with fail
  go_loopw [6, 27] (fun t6 t27 wr => ∃ (k : Nat) (v : Value), k ≤ L.length ∧ t6 = v ∧ t27 = .int .i64 k ∧ OwnP w2.heap.size wr v (rawT (nameK L 4) l (L.take k)) ∧ Below w2.heap.size w2 wr) (fun _ t _ => L.length - (intOf t).toNat)
  case atStart => exact ⟨0, _, Nat.zero_le _, rfl, rfl, own_nil _ _ _ _ _, Below.refl _ _⟩
  case round =>
    obtain ⟨k, v, hk, rfl, rfl, hown, hb⟩ := hrel
    obtain ⟨A8, c8, e8, _⟩ := id hown.slOf
    subst e8
    by_cases hlt : k < L.length
    · obtain ⟨d, hd⟩ := get_of_lt hlt
      obtain ⟨b, o, rfl, _, hcc⟩ := HCl.out _ (lt_of_get hd)
      obtain ⟨c0, c1, c2, c3, c4⟩ := hcc wr hb k d hd
      obtain ⟨g1, g2, g3⟩ := decB_rng (HLd.out d (List.mem_of_getElem? hd))
      obtain ⟨V1, V2, hV1, hV2, HzV2, hkV1, hkV2, hbV2, hltV2⟩ := fresh wr [.int .i64 0, .int .i64 0, .int .i64 0, .int .i64 0, .int .i64 0] [.int .i64 (d).au, .int .i64 (d).nu, .int .i64 (d).ki, .int .i64 (d).a, .int .i64 (d).b] 33 rfl
      have hsV2 : ((((V1.setCell ⟨wr.heap.size, 0, none⟩ (.int .i64 (d).au)).setCell ⟨wr.heap.size, 1, none⟩ (.int .i64 (d).nu)).setCell ⟨wr.heap.size, 2, none⟩ (.int .i64 (d).ki)).setCell ⟨wr.heap.size, 3, none⟩ (.int .i64 (d).a)).setCell ⟨wr.heap.size, 4, none⟩ (.int .i64 (d).b) = V2 := hV2
      clear hV2
      obtain ⟨⟨z0, z1, z2, z3, z4⟩, f0, f1, f2, f3, f4⟩ := cellsD5 hkV1
      clear hkV1
      obtain ⟨⟨s0, s1, s2, s3, s4⟩, _⟩ := cellsD5 hkV2
      have hl1 : (k : Int) < (L.length : Int) := by omega
      have HO := Lib.hid (hown.below hbV2)
      have HbV := Lib.hid (below_trans hb hbV2)
      have Hst := Lib.hid (rawT_step (c := nameK L 4) (l := l) hd)
      have hrl : (rawT (nameK L 4) l (L.take k)).length ≤ k := Nat.le_trans rawT_len (by rw [List.length_take]; omega)
      clear hcc hown hd
      by_cases e3 : d.ki = 3
      case neg =>
        have t1 : (d.ki != 3) = true := by simp [e3]
        have t1' : decide (d.ki = 3) = false := by simp [e3]
        have HT : Hid (rawT (nameK L 4) l (L.take (k + 1)) = rawT (nameK L 4) l (L.take k)) := by have := Hst.out; rw [if_neg fun h => e3 h.1, List.append_nil] at this; exact this
        clear e3
        go_wp2_with fail
        refine ⟨?rel, ?measure⟩
        case rel => exact ⟨k + 1, _, by omega, rfl, by go_num, by rw [HT.out]; exact HO.out, HbV.out⟩
        case measure => simp [intOf]; omega
      have t1 : (d.ki != 3) = false := by simp [e3]
      have t1' : decide (d.ki = 3) = true := by simp [e3]
      have E3 := Lib.hid e3
      clear e3
      go_wp2_with fail
      refine (namK_of cb L 4 1000 d.a V2 (Hcb2.out.below HbV.out) (wf_small (by omega) (by omega))).mono ?_
      rintro e w5 ⟨rfl, hb5⟩
      have hcr := nameK_rng (ki := 4) HLd.out g1
      have hcr2 := nameK_rng (ki := 4) HLd.out g2
      have hbw5 := below_trans HbV.out hb5
      have hlk := (Hm2.out.below hbw5).look_ok (x := nameK L 4 d.a) (wf_small (by omega) (by omega))
      obtain ⟨x1, x2⟩ := recM_look Hrec.out (fun s hs => (Hids.out s hs).1) d.a
      rw [x1, x2] at hlk
      obtain ⟨ra, hra⟩ : ∃ z, recI (nameK L 4) l d.a = z := ⟨_, rfl⟩
      obtain ⟨rc, hrc⟩ : ∃ z, recI (nameK L 4) l d.b = z := ⟨_, rfl⟩
      rw [hra] at hlk
      obtain ⟨ta, hta⟩ : ∃ z, decide (ra ≠ 0) = z := ⟨_, rfl⟩
      rw [hta] at hlk
      have s4' := cell_later hb5 s4
      obtain ⟨na, hna⟩ : ∃ z, nameK L 4 d.a = z := ⟨_, rfl⟩
      rw [hna] at hlk ⊢
      have Hra := Lib.hid hra; have Hrc := Lib.hid hrc; have Hta := Lib.hid hta
      clear x1 x2 hra hrc hta hna
      go_wp2_with fail
      refine (namK_of cb L 4 1000 d.b w5 (Hcb2.out.below hbw5) (wf_small (by omega) (by omega))).mono ?_
      rintro e w6 ⟨rfl, hb6⟩
      have hbw6 := below_trans hbw5 hb6
      have hlk2 := (Hm2.out.below hbw6).look_ok (x := nameK L 4 d.b) (wf_small (by omega) (by omega))
      obtain ⟨x1, x2⟩ := recM_look Hrec.out (fun s hs => (Hids.out s hs).1) d.b
      rw [x1, x2, Hrc.out] at hlk2
      obtain ⟨tc, htc⟩ : ∃ z, decide (rc ≠ 0) = z := ⟨_, rfl⟩
      rw [htc] at hlk2
      obtain ⟨nb, hnb⟩ : ∃ z, nameK L 4 d.b = z := ⟨_, rfl⟩
      rw [hnb] at hlk2 ⊢
      have Htc := Lib.hid htc
      have HO6 := Lib.hid ((HO.out.below hb5).below hb6)
      have Hst2 : Hid (rawT (nameK L 4) l (L.take (k + 1)) = rawT (nameK L 4) l (L.take k) ++ (if ra ≠ 0 ∧ rc ≠ 0 ∧ ra ≠ rc then [⟨ra, rc⟩] else [])) := by
        have := Hst.out
        rw [Hra.out, Hrc.out] at this
        show _ = _
        rw [this]
        congr 1
        have := E3.out
        by_cases hc : ra ≠ 0 ∧ rc ≠ 0 ∧ ra ≠ rc
        · rw [if_pos hc, if_pos ⟨this, hc⟩]
        · rw [if_neg hc, if_neg fun h => hc h.2]
      clear x1 x2 htc hnb hcr hcr2 g1 g2 g3
      have HNo : Hid (¬ (ra ≠ 0 ∧ rc ≠ 0 ∧ ra ≠ rc) → rawT (nameK L 4) l (L.take (k + 1)) = rawT (nameK L 4) l (L.take k)) := fun h => by rw [Hst2.out, if_neg h, List.append_nil]
      cases ta
      · have hn : ¬ (ra ≠ 0 ∧ rc ≠ 0 ∧ ra ≠ rc) := fun h => by have := Hta.out; simp at this; exact h.1 this
        have HT := Lib.hid (HNo.out hn)
        clear hn
        go_wp2_with fail
        refine ⟨?rel, ?measure⟩
        case rel => exact ⟨k + 1, _, by omega, rfl, by go_num, by rw [HT.out]; exact HO6.out, hbw6⟩
        case measure => simp [intOf]; omega
      cases tc
      · have hn : ¬ (ra ≠ 0 ∧ rc ≠ 0 ∧ ra ≠ rc) := fun h => by have := Htc.out; simp at this; exact h.2.1 this
        have HT := Lib.hid (HNo.out hn)
        clear hn
        go_wp2_with fail
        refine ⟨?rel, ?measure⟩
        case rel => exact ⟨k + 1, _, by omega, rfl, by go_num, by rw [HT.out]; exact HO6.out, hbw6⟩
        case measure => simp [intOf]; omega
      by_cases hac : ra = rc
      · have u1 : (ra != rc) = false := by simp [hac]
        have u1' : decide (ra = rc) = true := by simp [hac]
        have HT := Lib.hid (HNo.out fun h => h.2.2 hac)
        clear hac
        go_wp2_with fail
        refine ⟨?rel, ?measure⟩
        case rel => exact ⟨k + 1, _, by omega, rfl, by go_num, by rw [HT.out]; exact HO6.out, hbw6⟩
        case measure => simp [intOf]; omega
      have u1 : (ra != rc) = true := by simp [hac]
      have u1' : decide (ra = rc) = false := by simp [hac]
      have HT : Hid (rawT (nameK L 4) l (L.take (k + 1)) = rawT (nameK L 4) l (L.take k) ++ [⟨ra, rc⟩]) := by
        have h1 := Hta.out; have h2 := Htc.out
        simp at h1 h2
        have := Hst2.out
        rw [if_pos ⟨h1, h2, hac⟩] at this
        exact this
      have hzz : w2.heap.size ≤ w6.heap.size := hbw6.size
      clear hac
      go_wp2_with (at_builtin; refine wpList_append1 (enc := encP) (size := 2) (B := w2.heap.size) rfl (.tmp 61) (.tmp 65) _ rfl 87 iP _ 16 Tryz.underlying60 hiP hzP hkP hbP rfl (by decide) rfl HO6.out (⟨ra, rc⟩ : Pair) _ rfl lenP oneP _ rfl rfl (by omega) (by omega) (by omega) ?_; intro v' wq hown' hgrow hat)
      obtain ⟨Av, cv9, rfl, _⟩ := id hown'.slOf
      rw [← HT.out] at hown'
      have HOq := Lib.hid hown'; have HGq := Lib.hid hgrow
      have e9 := congrArg List.length HT.out
      rw [← e9]
      clear hown' hgrow hat e9
      go_wp2_with fail
      refine ⟨?rel, ?measure⟩
      case rel => exact ⟨k + 1, _, by omega, rfl, by go_num, HOq.out, hbw6.grown HGq.out hzz (fun j e => (HO6.out.lt j e).1)⟩
      case measure => simp [intOf]; omega
    · have he : L.take k = L := List.take_of_length_le (by omega)
      rw [he] at hown ⊢
      have hrl : (rawT (nameK L 4) l L).length ≤ L.length := rawT_len
      have hzz : w2.heap.size ≤ wr.heap.size := hb.size
      clear he
      go_wp2_with fail
      refine (sortFuncQ_ok _ _ _ wr hown (by omega)).mono ?_
      rintro e w7 ⟨rfl, ys, ho7, hby, hyl, hg7⟩
      have hb7 := hb.grown hg7 hzz (fun j e => (hown.lt j e).1)
      have Hby := Lib.hid hby; have Hown := Lib.hid hown
      clear hby hown
      go_wp2_with fail
      refine (compactP_ok _ _ ys w7 ho7 (by omega)).mono ?_
      rintro e w8 ⟨u', rfl, ho8, _, hg8⟩
      have hb8 := hb7.grown hg8 hb7.size (fun j e => (ho7.lt j e).1)
      have Ho8 := Lib.hid ho8
      clear ho8
      go_wp2_with fail
      go_ret
      exact ⟨u', Lib.compact ys, rfl, Ho8.out.base hw2.size, claL_compact Hby.out, Nat.le_trans (compact_len ys) (by omega), below_trans hw2 hb8⟩
end Go.Proofs.YthnckicnnhkkaaaGreat
