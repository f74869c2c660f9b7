/- A corpus: its list and its ledger, as blocks. New, Enter, Remove, Make, Withdraw, Specimens, Ledger, Clone, Same. Condition: the corpus reads as such. -/
import Derived.Test.YthnckicnnhkkaaaGreatCorI
import Derived.Test.YthnckicnnhkkaaaGreatLedE
import Derived.Test.YthnckicnnhkkaaaGreatCorP
namespace Go.Proofs.YthnckicnnhkkaaaGreat
open Go.RowKit Go.Maps Go.Shelf

theorem insertAny_ok (v : Value) (l : List Spec) (i : Nat) (s : Spec) (vb : Nat) (w : World) (h : OwnS 0 w v l) (hi : i ≤ l.length) (hl : l.length ≤ 1000) (hne : v.ownBlock ≠ some vb)
    (hv : w.heap[vb]? = some (.cells (encS s).toArray 31 (0, 0))) :
    Calls Tryz.prog 72 #[v, .int .i64 i, .slice (some ⟨vb, 0, none⟩) 1 1] w fun e w' => ∃ u, e = .returned u ∧ OwnS 0 w' u (l.take i ++ s :: l.drop i) ∧ Touch w w' (blk v) ∧ (u.ownBlock = v.ownBlock ∨ u.ownBlock = some w.heap.size) := by
  rcases Nat.lt_or_ge i l.length with hlt | hge
  · rcases h.cases with ⟨rfl, rfl⟩ | ⟨g, cap, rfl, _, _, h1, h2⟩
    · simp at hlt
    · by_cases hroom : l.length + 1 ≤ cap
      · refine (insertShift_ok g cap i l s vb w h hlt hroom (fun e => hne (by rw [e]; rfl)) hv).mono ?_
        rintro e w' ⟨rfl, h3, h4⟩
        exact ⟨_, rfl, h3, h4, .inl rfl⟩
      · refine (insertGrow_ok g cap i l s vb w h hlt hl (by omega) hv).mono ?_
        rintro e w' ⟨G, rfl, h3, h4⟩
        exact ⟨_, rfl, h3, h4.fresh (Touch.refl _ []) (by simp) |> fun t => ⟨t.os, t.tape, t.output, t.size, fun k hk hn => t.block k hk (by simp)⟩, .inr rfl⟩
  · have e : i = l.length := by omega
    subst e
    rw [List.take_length, List.drop_length]
    exact insertEnd_ok v l s vb w h hl hv

/-- What a corpus holds, plain. -/
structure CorW (l : List Spec) (D : List Dec) (W : List Mrk) : Prop where
  lis : LisW l
  dec : ∀ d ∈ D, decB d = true
  lenD : D.length ≤ 200
  lenW : W.length ≤ 200
theorem CorW.nil : CorW [] [] [] := ⟨LisW.nil, by simp, by simp, by simp⟩
/-- A corpus at block p: its list, its ledger; S: all its blocks. -/
structure CorR (w : World) (S : List Nat) (p q mb wb : Nat) (vl : Value) (l : List Spec) (D : List Dec) (W : List Mrk) : Prop where
  row : w.heap[p]? = some (.cells [vl, .pointer (some ⟨q, 0, none⟩)].toArray 89 (0, 0))
  own : OwnS 0 w vl l
  led : LedAt w q mb wb D W
  mem : p ∈ S ∧ q ∈ S ∧ mb ∈ S ∧ wb ∈ S ∧ ∀ j, vl.ownBlock = some j → j ∈ S
  ne : p ≠ q ∧ p ≠ mb ∧ p ≠ wb ∧ ∀ j, vl.ownBlock = some j → j ≠ p ∧ j ≠ q ∧ j ≠ mb ∧ j ≠ wb
  lt : ∀ b ∈ S, b < w.heap.size
  ok : CorW l D W
def CorAt (w : World) (S : List Nat) (p : Nat) (l : List Spec) (D : List Dec) (W : List Mrk) : Prop := ∃ q mb wb vl, CorR w S p q mb wb vl l D W
section
variable {w w' : World} {S T : List Nat} {p q mb wb : Nat} {vl : Value} {l : List Spec} {D : List Dec} {W : List Mrk}
theorem LedAt.same (h : LedAt w q mb wb D W) (h1 : w'.heap[q]? = w.heap[q]?) (h2 : w'.heap[mb]? = w.heap[mb]?) (h3 : w'.heap[wb]? = w.heap[wb]?) : LedAt w' q mb wb D W := by
  obtain ⟨k1, ⟨m, k2, k3⟩, ⟨s, k4, k5⟩, k6, k7, k8⟩ := h
  exact ⟨h1.trans k1, ⟨m, MapAt.same k2 h2, k3⟩, ⟨s, MapAt.same k4 h3, k5⟩, k6, k7, k8⟩
theorem Own.off {α : Type} {enc : α → List Value} {k : Nat} {e : TypeId} {B : Nat} {v : Value} {xs : List α} (h : Own enc k e B w v xs) (ht : Touch w w' T) (hn : ∀ j, v.ownBlock = some j → j ∉ T) : Own enc k e B w' v xs := by
  rcases h with ⟨h0, h1 | ⟨g, cap, cur, rfl, hb, hg, r⟩⟩
  · exact ⟨h0, .inl h1⟩
  · exact ⟨h0, .inr ⟨g, cap, cur, rfl, hb, (ht.block g (heap_lt hg) (hn g rfl)).trans hg, r⟩⟩
theorem CorR.off (h : CorR w S p q mb wb vl l D W) (ht : Touch w w' T) (hn : ∀ b ∈ S, b ∉ T) : CorR w' S p q mb wb vl l D W := by
  obtain ⟨m1, m2, m3, m4, m5⟩ := h.mem
  exact ⟨(ht.block p (h.lt p m1) (hn p m1)).trans h.row, h.own.off ht fun j hj => hn j (m5 j hj), h.led.same (ht.block q (h.lt q m2) (hn q m2)) (ht.block mb (h.lt mb m3) (hn mb m3)) (ht.block wb (h.lt wb m4) (hn wb m4)), h.mem, h.ne, fun b hb => Nat.lt_of_lt_of_le (h.lt b hb) ht.size, h.ok⟩
theorem CorAt.off (h : CorAt w S p l D W) (ht : Touch w w' T) (hn : ∀ b ∈ S, b ∉ T) : CorAt w' S p l D W := by
  obtain ⟨q, mb, wb, vl, h⟩ := h
  exact ⟨q, mb, wb, vl, h.off ht hn⟩
theorem CorR.below (h : CorR w S p q mb wb vl l D W) (hb : Below w.heap.size w w') : CorR w' S p q mb wb vl l D W := h.off (touch_below hb []) (by simp)
theorem CorAt.below (h : CorAt w S p l D W) (hb : Below w.heap.size w w') : CorAt w' S p l D W := h.off (touch_below hb []) (by simp)
theorem CorAt.ok (h : CorAt w S p l D W) : CorW l D W := by obtain ⟨q, mb, wb, vl, h⟩ := h; exact h.ok
theorem CorAt.lt (h : CorAt w S p l D W) : ∀ b ∈ S, b < w.heap.size := by obtain ⟨q, mb, wb, vl, h⟩ := h; exact h.lt
/-- The corpus behind a list that is turned. -/
theorem CorR.list (h : CorR w S p q mb wb vl l D W) {w1 : World} {u : Value} {l' : List Spec} (ht : Touch w w1 (blk vl)) (ho : OwnS 0 w1 u l') (hu : u.ownBlock = vl.ownBlock ∨ ∃ b, u.ownBlock = some b ∧ w.heap.size ≤ b) (hl : LisW l') :
    CorAt (w1.setCell ⟨p, 0, none⟩ u) (blk u ++ S) p l' D W ∧ Touch w (w1.setCell ⟨p, 0, none⟩ u) S ∧ ∀ b ∈ blk u ++ S, b ∈ S ∨ w.heap.size ≤ b := by
  obtain ⟨m1, m2, m3, m4, m5⟩ := h.mem
  obtain ⟨n1, n2, n3, n4⟩ := h.ne
  have hvS : ∀ b ∈ blk vl, b ∈ S := fun b hb => m5 b (mem_blk.1 hb)
  have hrow : w1.heap[p]? = some (.cells [vl, .pointer (some ⟨q, 0, none⟩)].toArray 89 (0, 0)) := (ht.block p (h.lt p m1) fun e => (n4 p (mem_blk.1 e)).1 rfl).trans h.row
  have hup : ∀ j, u.ownBlock = some j → j ≠ p ∧ j ≠ q ∧ j ≠ mb ∧ j ≠ wb ∧ (j ∈ S ∨ w.heap.size ≤ j) := by
    intro j hj
    rcases hu with hu | ⟨b, hb, hle⟩
    · obtain ⟨a, b, c, d⟩ := n4 j (hu ▸ hj)
      exact ⟨a, b, c, d, .inl (m5 j (hu ▸ hj))⟩
    · rw [hb] at hj
      cases hj
      have l1 := h.lt p m1; have l2 := h.lt q m2; have l3 := h.lt mb m3; have l4 := h.lt wb m4
      exact ⟨by omega, by omega, by omega, by omega, .inr hle⟩
  have ht2 : Touch w1 (w1.setCell ⟨p, 0, none⟩ u) [p] := touch_set rfl (by simp)
  have hled : LedAt w1 q mb wb D W := h.led.same (ht.block q (h.lt q m2) fun e => (n4 q (mem_blk.1 e)).2.1 rfl) (ht.block mb (h.lt mb m3) fun e => (n4 mb (mem_blk.1 e)).2.2.1 rfl) (ht.block wb (h.lt wb m4) fun e => (n4 wb (mem_blk.1 e)).2.2.2 rfl)
  have hsz := ht.size
  have lt1 : ∀ b ∈ S, b < w1.heap.size := fun b hb => Nat.lt_of_lt_of_le (h.lt b hb) hsz
  refine ⟨⟨q, mb, wb, u, ⟨?_, ho.off ht2 fun j hj => by simpa using (hup j hj).1, hled.same (ht2.block q (lt1 q m2) (by simpa using Ne.symm n1)) (ht2.block mb (lt1 mb m3) (by simpa using Ne.symm n2)) (ht2.block wb (lt1 wb m4) (by simpa using Ne.symm n3)), ⟨List.mem_append_right _ m1, List.mem_append_right _ m2, List.mem_append_right _ m3, List.mem_append_right _ m4, fun j hj => List.mem_append_left _ (mem_blk.2 hj)⟩, ⟨n1, n2, n3, fun j hj => ⟨(hup j hj).1, (hup j hj).2.1, (hup j hj).2.2.1, (hup j hj).2.2.2.1⟩⟩, fun b hb => ?_, ⟨hl, h.ok.dec, h.ok.lenD, h.ok.lenW⟩⟩⟩, (ht.fresh (Touch.refl _ []) (by simp) |> fun t => (⟨t.os, t.tape, t.output, t.size, fun k hk hn => t.block k hk fun e => hn (hvS k e)⟩ : Touch w w1 S)).trans (touch_set rfl m1), fun b hb => ?_⟩
  · exact heap_setCell_same w1 p 0 _ 89 u hrow
  · rcases List.mem_append.1 hb with hb | hb
    · exact Nat.lt_of_lt_of_le (ho.lt b (mem_blk.1 hb)).2 ht2.size
    · exact Nat.lt_of_lt_of_le (lt1 b hb) ht2.size
  · rcases List.mem_append.1 hb with hb | hb
    · exact (hup b (mem_blk.1 hb)).2.2.2.2
    · exact .inl hb
/-- The corpus behind a ledger that is turned. -/
theorem CorR.ledger (h : CorR w S p q mb wb vl l D W) {D' : List Dec} {W' : List Mrk} (ht : Touch w w' T) (hT : ∀ b ∈ T, b = mb ∨ b = wb) (hl : LedAt w' q mb wb D' W') (hok : CorW l D' W') : CorAt w' S p l D' W' ∧ Touch w w' S ∧ ∀ b ∈ S, b ∈ S ∨ w.heap.size ≤ b := by
  obtain ⟨m1, m2, m3, m4, m5⟩ := h.mem
  obtain ⟨n1, n2, n3, n4⟩ := h.ne
  have hp : p ∉ T := fun e => by rcases hT p e with e | e <;> omega
  refine ⟨⟨q, mb, wb, vl, ⟨(ht.block p (h.lt p m1) hp).trans h.row, h.own.off ht fun j hj e => by obtain ⟨a, b, c, d⟩ := n4 j hj; rcases hT j e with e | e <;> omega, hl, h.mem, h.ne, fun b hb => Nat.lt_of_lt_of_le (h.lt b hb) ht.size, hok⟩⟩, ⟨ht.os, ht.tape, ht.output, ht.size, fun k hk hn => ht.block k hk fun e => ?_⟩, fun b hb => .inl hb⟩
  rcases hT k e with e | e
  · subst e; exact hn m3
  · subst e; exact hn m4
end
theorem makeE_decB {D : List Dec} {d : Dec} (h : makeE D d = 0) : decB d = true := by
  unfold makeE at h
  by_cases hd : decB d = true
  · exact hd
  · rw [if_neg hd] at h; cases h
theorem CorW.make {l : List Spec} {D : List Dec} {W : List Mrk} (h : CorW l D W) (d : Dec) : CorW l (makeL D d) W := by
  unfold makeL
  split
  · rename_i hc
    have hn := find_none.1 hc.2
    refine ⟨h.lis, fun x hx => ?_, ?_, h.lenW⟩
    · rcases (insF_mem mkOf hn x).1 hx with hx | rfl
      · exact h.dec x hx
      · exact makeE_decB hc.1
    · rw [insF_len mkOf hn]
      have h1 := hc.1
      unfold makeE at h1
      rw [if_pos (makeE_decB hc.1), hc.2] at h1
      by_cases h2 : 200 ≤ D.length
      · simp [h2] at h1
      · omega
  · exact h
theorem CorW.draw {l : List Spec} {D : List Dec} {W : List Mrk} (h : CorW l D W) (m : Mrk) : CorW l D (drawL W m) := by
  unfold drawL
  split
  · rename_i hc
    refine ⟨h.lis, h.dec, h.lenD, ?_⟩
    rw [insF_len id (fun x hx e => hc.2 (by rw [← show x = m from e]; exact hx))]
    have h1 := hc.1
    unfold drawE at h1
    split at h1
    · rw [if_neg hc.2] at h1
      by_cases h2 : 200 ≤ W.length
      · simp [h2] at h1
      · omega
    · cases h1
  · exact h
theorem CorW.enter {l : List Spec} {D : List Dec} {W : List Mrk} (h : CorW l D W) (s : Spec) : CorW (enterL l s) D W := ⟨h.lis.enter s, h.dec, h.lenD, h.lenW⟩
theorem CorW.remove {l : List Spec} {D : List Dec} {W : List Mrk} (h : CorW l D W) (i : Int) : CorW (removeL l i) D W := ⟨h.lis.remove i, h.dec, h.lenD, h.lenW⟩

set_option maxHeartbeats 2000000 in
theorem CNew_ok (w : World) : Calls Tryz.prog 12 #[] w fun e w' => ∃ p S, e = .returned (.pointer (some ⟨p, 0, none⟩)) ∧ CorAt w' S p [] [] [] ∧ (∀ b ∈ S, w.heap.size ≤ b) ∧ Below w.heap.size w w' := by
  have HF : Hid (∀ w1 w2 q mb wb, Below w.heap.size w w1 → LedAt w1 q mb wb [] [] → w.heap.size ≤ q → w.heap.size ≤ mb → w.heap.size ≤ wb → w1.alloc (.cells #[.slice none 0 0, .pointer (some ⟨q, 0, none⟩)] 89) = w2 → CorAt w2 [w1.heap.size, q, mb, wb] w1.heap.size [] [] [] ∧ Below w.heap.size w w2) := Lib.hid (by
    intro w1 w2 q mb wb hb hL h1 h2 h3 hw2
    have hb3 : Below w1.heap.size w1 w2 := by rw [← hw2]; exact (Below.refl _ _).alloc (Nat.le_refl _) _
    have hs : w2.heap.size = w1.heap.size + 1 := by rw [← hw2]; simp
    have l1 := heap_lt hL.row
    obtain ⟨m, hm, _⟩ := hL.made; obtain ⟨s, hs', _⟩ := hL.gone
    have l2 := MapAt.lt hm; have l3 := MapAt.lt hs'
    refine ⟨⟨q, mb, wb, .slice none 0 0, ⟨by rw [← hw2]; exact heap_alloc_new _ _, own_nil _ _ _ _ _, hL.below hb3, ⟨by simp, by simp, by simp, by simp, fun j hj => by cases hj⟩, ⟨by omega, by omega, by omega, fun j hj => by cases hj⟩, fun b hb => ?_, CorW.nil⟩⟩, below_trans hb hb3⟩
    simp at hb
    omega)
  go_enter Tryz.func12, Tryz.ntmps12
  go_wp2_with fail
  refine (dnew_ok w).mono ?_
  rintro e w1 ⟨q, mb, wb, rfl, hL, h1, h2, h3, hb⟩
  have HL := Lib.hid hL
  clear hL
  go_wp2_with fail
  go_ret
  obtain ⟨k1, k2⟩ := HF.out w1 _ q mb wb hb HL.out h1 h2 h3 rfl
  refine ⟨_, _, rfl, k1, fun b hb' => ?_, k2⟩
  have := hb.size
  simp at hb'
  omega
end Go.Proofs.YthnckicnnhkkaaaGreat
/- Package corpus: Enter, Remove, Make, Withdraw. Condition: the corpus reads as such. -/
namespace Go.Proofs.YthnckicnnhkkaaaGreat
open Go.RowKit Go.Maps Go.Shelf

theorem cells7_ {w : World} {g : Nat} {a b c d e f i : Value} {t : TypeId} (h : w.heap[g]? = some (.cells [a, b, c, d, e, f, i].toArray t (0, 0))) :
    w.cell? ⟨g, 0, none⟩ = some a ∧ w.cell? ⟨g, 1, none⟩ = some b ∧ w.cell? ⟨g, 2, none⟩ = some c ∧ w.cell? ⟨g, 3, none⟩ = some d ∧ w.cell? ⟨g, 4, none⟩ = some e ∧ w.cell? ⟨g, 5, none⟩ = some f ∧ w.cell? ⟨g, 6, none⟩ = some i :=
  ⟨heap_cell h, heap_cell h, heap_cell h, heap_cell h, heap_cell h, heap_cell h, heap_cell h⟩
set_option maxHeartbeats 8000000 in
set_option maxRecDepth 100000 in
theorem Enter_ok (S : List Nat) (p : Nat) (l : List Spec) (D : List Dec) (W : List Mrk) (s : Spec) (w : World) (h : CorAt w S p l D W) :
    Calls Tryz.prog 24 #[.pointer (some ⟨p, 0, none⟩), .agg #[.int .i64 s.id, .int .i64 s.obv, .int .i64 s.rev, .int .i64 s.os, .int .i64 s.rs, .int .i64 s.ax, .int .i64 s.wt]] w fun e w' =>
      e = .returned (.int .i64 (enterE l s)) ∧ ∃ S', CorAt w' S' p (enterL l s) D W ∧ Touch w w' S ∧ ∀ b ∈ S', b ∈ S ∨ w.heap.size ≤ b := by
  obtain ⟨q, mb, wb, vl, hR⟩ := h
  have HN : Hid (∀ w1, Below w.heap.size w w1 → enterE l s ≠ 0 → ∃ S', CorAt w1 S' p (enterL l s) D W ∧ Touch w w1 S ∧ ∀ b ∈ S', b ∈ S ∨ w.heap.size ≤ b) := Lib.hid (fun w1 hb he => ⟨S, by rw [enterL_no he]; exact ⟨q, mb, wb, vl, hR.below hb⟩, touch_below hb S, fun b hb => .inl hb⟩)
  obtain ⟨X, hX, HzX, hbX, hltX, _⟩ := boxed w #[.int .i64 (s).id, .int .i64 (s).obv, .int .i64 (s).rev, .int .i64 (s).os, .int .i64 (s).rs, .int .i64 (s).ax, .int .i64 (s).wt] 31
  have hkX : (X).heap[(w).heap.size]? = some (.cells [.int .i64 (s).id, .int .i64 (s).obv, .int .i64 (s).rev, .int .i64 (s).os, .int .i64 (s).rs, .int .i64 (s).ax, .int .i64 (s).wt].toArray 31 (0, 0)) := by rw [← hX]; exact heap_alloc_new _ _
  have HX := Lib.hid (hR.below hbX)
  have hV := SValid_ok s X
  have Hk := Lib.hid hkX
  have Hls := Lib.hid hR.ok.lis
  obtain ⟨V, hVd⟩ : ∃ z, specB s = z := ⟨_, rfl⟩
  rw [hVd] at hV
  obtain ⟨c0, c1, c2, c3, c4, c5, c6⟩ := cells7_ hkX
  have HV := Lib.hid hV; have HVd := Lib.hid hVd; have HR := Lib.hid hR
  clear hkX hV hVd hR
  cases V
  · have HE : Hid (enterE l s = 1) := Lib.hid (by rw [enterE, if_neg (by rw [HVd.out]; simp)])
    go_enter Tryz.func24, Tryz.ntmps24
    go_wp2_with fail
    refine HV.out.mono ?_
    rintro e w1 ⟨rfl, hb1⟩
    go_wp2_with fail
    go_ret
    exact ⟨ret_i64 HE.out.symm, HN.out _ (below_trans hbX hb1) (by rw [HE.out]; decide)⟩
  go_enter Tryz.func24, Tryz.ntmps24
  go_wp2_with fail
  refine HV.out.mono ?_
  rintro e w1 ⟨rfl, hb1⟩
  have hR1 := HX.out.below hb1
  have hk1 := heap_below Hk.out hb1 (heap_lt Hk.out)
  clear c0 c1 c2 c3 c4 c5 c6 HX HV
  obtain ⟨c0, c1, c2, c3, c4, c5, c6⟩ := cells7_ hk1
  obtain ⟨⟨r0, r1⟩, _⟩ := cellsM hR1.row
  have hHS := fun y : Later w1 => search_ok vl l s.id y.to ((hR1.own.later y).slOf) Hls.out.srt (by have := Hls.out.len; omega)
  obtain ⟨A, c, hvl, hlc, hcm, _⟩ := (show Specs w1 vl l from hR1.own.slOf).cells
  obtain ⟨T, hT⟩ : ∃ T, decide (s.id ∈ l.map Spec.id) = T := ⟨_, rfl⟩
  obtain ⟨n, hN⟩ : ∃ n, posI l s.id = n := ⟨_, rfl⟩
  rw [hT, hN] at hHS
  have HS := Lib.hid hHS; have HT := Lib.hid hT; have HNn := Lib.hid hN
  have hw1 := below_trans hbX hb1
  have HR1 := Lib.hid hR1; have Hk1 := Lib.hid hk1
  have C0 := Later.cell_all c0; have R0 := Later.cell_all r0
  clear hHS hT hN hR1 hk1 c0 c1 c2 c3 c4 c5 c6 r0 r1
  subst hvl
  go_wp2_with fail
  refine wp_region_later (by kernel_rfl) (by kernel_rfl) ?_
  repeat (go_big_quiet_step (first | (go_at_call 70; with_reducible exact calls_later (HS.out _))))
  refine wpQuiet_nil ?_
  intro _ hw'
  obtain ⟨xq, hw''⟩ := hw'
  subst hw''
  have hbc := xq.h
  generalize xq.to = wc at hbc ⊢
  clear C0 R0 HS
  have hRc := HR1.out.below hbc
  have hkc := heap_below Hk1.out hbc (heap_lt Hk1.out)
  obtain ⟨c0, c1, c2, c3, c4, c5, c6⟩ := cells7_ hkc
  obtain ⟨⟨r0, r1⟩, _⟩ := cellsM hRc.row
  have hwc := below_trans hw1 hbc
  have HRc := Lib.hid hRc; have Hkc := Lib.hid hkc
  clear hRc hkc HR1 Hk1
  cases T
  case true =>
    have hin : s.id ∈ l.map Spec.id := by simpa using HT.out
    have HE : Hid (enterE l s = 8) := Lib.hid (by rw [enterE, if_pos HVd.out, if_pos hin])
    clear hin
    go_wp2_with fail
    go_ret
    exact ⟨ret_i64 HE.out.symm, HN.out _ hwc (by rw [HE.out]; decide)⟩
  have hout : s.id ∉ l.map Spec.id := by simpa using HT.out
  by_cases hf : 64 ≤ l.length
  · have HE : Hid (enterE l s = 6) := Lib.hid (by rw [enterE, if_pos HVd.out, if_neg hout, if_pos hf])
    have t : decide ((64 : Int) ≤ (l.length : Int)) = true := by simp; omega
    clear hout
    go_wp2_with fail
    go_ret
    exact ⟨ret_i64 HE.out.symm, HN.out _ hwc (by rw [HE.out]; decide)⟩
  have HE : Hid (enterE l s = 0) := Lib.hid (by rw [enterE, if_pos HVd.out, if_neg hout, if_neg hf])
  have t : decide ((64 : Int) ≤ (l.length : Int)) = false := by simp; omega
  have Hout := Lib.hid hout
  have Hf := Lib.hid hf
  clear hout hf
  go_wp2_with fail
  have hltw : w.heap.size < wc.heap.size := heap_lt Hkc.out
  have hgne : ∀ j, (Value.slice A l.length c).ownBlock = some j → j ≠ p ∧ j < w.heap.size := fun j hj => ⟨(HRc.out.ne.2.2.2 j hj).1, HR.out.lt j (HR.out.mem.2.2.2.2 j hj)⟩
  have hnp : p ∉ blk (.slice A l.length c) := fun e => (hgne p (mem_blk.1 e)).1 rfl
  have hnw : w.heap.size ∉ blk (.slice A l.length c) := fun e => by have := (hgne _ (mem_blk.1 e)).2; omega
  obtain ⟨wa, hwa⟩ : ∃ z, wc.drew = z := ⟨_, rfl⟩
  have hta : Touch wc wa (blk (.slice A l.length c)) := by rw [← hwa]; exact drew_touch _ _
  have hba : Below wc.heap.size wc wa := by rw [← hwa]; exact (Below.refl _ _).drew
  have q0 := cell_later hba r0
  have z0 := cell_later hba c0; have z1 := cell_later hba c1; have z2 := cell_later hba c2; have z3 := cell_later hba c3; have z4 := cell_later hba c4; have z5 := cell_later hba c5; have z6 := cell_later hba c6
  have HSt := Lib.hid fun (w9 : World) (ht : Touch wa w9 (blk (.slice A l.length c))) => (show (fun w' : World => Touch wa w' (blk (.slice A l.length c)) ∧ w'.cell? ⟨p, 0, none⟩ = some (.slice A l.length c) ∧ w'.cell? ⟨w.heap.size, 0, none⟩ = some (.int .i64 s.id) ∧ w'.cell? ⟨w.heap.size, 1, none⟩ = some (.int .i64 s.obv) ∧ w'.cell? ⟨w.heap.size, 2, none⟩ = some (.int .i64 s.rev) ∧ w'.cell? ⟨w.heap.size, 3, none⟩ = some (.int .i64 s.os) ∧ w'.cell? ⟨w.heap.size, 4, none⟩ = some (.int .i64 s.rs) ∧ w'.cell? ⟨w.heap.size, 5, none⟩ = some (.int .i64 s.ax) ∧ w'.cell? ⟨w.heap.size, 6, none⟩ = some (.int .i64 s.wt)) w9 from
    ⟨ht, cell_off ht hnp q0, cell_off ht hnw z0, cell_off ht hnw z1, cell_off ht hnw z2, cell_off ht hnw z3, cell_off ht hnw z4, cell_off ht hnw z5, cell_off ht hnw z6⟩)
  have hHeld := HSt.out wa (Touch.refl _ _)
  refine wp_region_S 9 (fun w' : World => Touch wa w' (blk (.slice A l.length c)) ∧ w'.cell? ⟨p, 0, none⟩ = some (.slice A l.length c) ∧ w'.cell? ⟨w.heap.size, 0, none⟩ = some (.int .i64 s.id) ∧ w'.cell? ⟨w.heap.size, 1, none⟩ = some (.int .i64 s.obv) ∧ w'.cell? ⟨w.heap.size, 2, none⟩ = some (.int .i64 s.rev) ∧ w'.cell? ⟨w.heap.size, 3, none⟩ = some (.int .i64 s.os) ∧ w'.cell? ⟨w.heap.size, 4, none⟩ = some (.int .i64 s.rs) ∧ w'.cell? ⟨w.heap.size, 5, none⟩ = some (.int .i64 s.ax) ∧ w'.cell? ⟨w.heap.size, 6, none⟩ = some (.int .i64 s.wt)) (by kernel_rfl) (by decide) ?_
  rw [hwa]
  clear hwa
  refine wpAnyS_takeD 0 (some 33) (.pointer (some ⟨p, 0, none⟩)) (by rfl) (by rfl) (by kernel_rfl) (by exact fun _ _ _ h => h) (by rfl) (fun w' hS => by go_simp) hHeld ?_
  simp only [Act.put, List.setIfInBounds_toArray, List.set_cons_succ, List.set_cons_zero]
  refine wpAnyS_takeD 1 (some 34) (.pointer (some ⟨p, 0, none⟩)) (by rfl) (by rfl) (by kernel_rfl) (by exact fun _ _ _ h => h) (by rfl) (fun w' hS => by go_simp) hHeld ?_
  simp only [Act.put, List.setIfInBounds_toArray, List.set_cons_succ, List.set_cons_zero]
  refine wpAnyS_takeD 2 (some 35) (.pointer (some ⟨p, 0, none⟩)) (by rfl) (by rfl) (by kernel_rfl) (by exact fun _ _ _ h => h) (by rfl) (fun w' hS => by go_simp) hHeld ?_
  simp only [Act.put, List.setIfInBounds_toArray, List.set_cons_succ, List.set_cons_zero]
  refine wpAnyS_takeD 3 (some 36) (.pointer (some ⟨p, 0, none⟩)) (by rfl) (by rfl) (by kernel_rfl) (by exact fun _ _ _ h => h) (by rfl) (fun w' hS => by go_simp) hHeld ?_
  simp only [Act.put, List.setIfInBounds_toArray, List.set_cons_succ, List.set_cons_zero]
  refine wpAnyS_takeD 4 (some 37) (.slice A l.length c) (by rfl) (by rfl) (by kernel_rfl) (by exact fun _ _ _ h => h) (by rfl) (fun w' hS => by (obtain ⟨_, x0, _⟩ := hS; go_simp)) hHeld ?_
  simp only [Act.put, List.setIfInBounds_toArray, List.set_cons_succ, List.set_cons_zero]
  refine wpAnyS_takeD 5 (some 38) (.int .i64 n) (by rfl) (by rfl) (by kernel_rfl) (by exact fun _ _ _ h => h) (by rfl) (fun w' hS => by go_simp) hHeld ?_
  simp only [Act.put, List.setIfInBounds_toArray, List.set_cons_succ, List.set_cons_zero]
  refine wpAnyS_takeD 6 (some 39) (.agg #[.int .i64 s.id, .int .i64 s.obv, .int .i64 s.rev, .int .i64 s.os, .int .i64 s.rs, .int .i64 s.ax, .int .i64 s.wt]) (by rfl) (by rfl) (by kernel_rfl) (by exact fun _ _ _ h => h) (by rfl) (fun w' hS => by (obtain ⟨_, _, x0, x1, x2, x3, x4, x5, x6⟩ := hS; go_simp)) hHeld ?_
  simp only [Act.put, List.setIfInBounds_toArray, List.set_cons_succ, List.set_cons_zero]
  clear hHeld
  refine wpAnyS_one 7 (by kernel_rfl) (by rfl) (by decide) (fun K hK => ?_)
  have HK := Lib.hid hK; clear hK
  rw [if_pos (by rfl)]
  go_simp
  obtain ⟨w5, hw5⟩ : ∃ z, World.alloc wa (.cells #[.int .i64 s.id, .int .i64 s.obv, .int .i64 s.rev, .int .i64 s.os, .int .i64 s.rs, .int .i64 s.ax, .int .i64 s.wt] 31) = z := ⟨_, rfl⟩
  have hb5 : Below wa.heap.size wa w5 := by rw [← hw5]; exact (Below.refl _ _).alloc (Nat.le_refl _) _
  have hk5 : w5.heap[wa.heap.size]? = some (.cells (encS s).toArray 31 (0, 0)) := by rw [← hw5]; exact heap_alloc_new _ _
  rw [hw5]
  refine HK.out _ _ (HSt.out _ (touch_below hb5 _)) ?_
  clear HK hw5
  have hab := below_trans hba hb5
  have hR5 := HRc.out.below hab
  have hnv : (Value.slice A l.length c).ownBlock ≠ some wa.heap.size := fun e => by
    have := (hgne _ e).2; have := hba.size; omega
  have hI := insertAny_ok (.slice A l.length c) l n s wa.heap.size w5 hR5.own (by rw [← HNn.out]; exact pos_le _ _) (by have := Hls.out.len; omega) hnv hk5
  have HI := Lib.hid hI; have HR5 := Lib.hid hR5
  clear hI hR5 hk5
  refine wpAnyS_one 8 (by kernel_rfl) (by rfl) (by decide) (fun K hK => ?_)
  have HK := Lib.hid hK; clear hK
  rw [if_pos (by rfl)]
  go_simp
  refine HI.out.mono ?_
  rintro e w6 ⟨u, rfl, ho6, ht6, hu6⟩
  obtain ⟨A6, c6', e6, _⟩ := id ho6.slOf
  obtain ⟨n6, hn6⟩ : ∃ z, (List.take n l ++ s :: List.drop n l).length = z := ⟨_, rfl⟩
  rw [hn6] at e6
  clear hn6
  subst e6
  have Ho6 := Lib.hid ho6; have Ht6 := Lib.hid ht6; have Hu6 := Lib.hid hu6
  refine HK.out _ _ (HSt.out _ ((touch_below hb5 _).trans ht6)) ?_
  clear HK ho6 hu6
  have hf6 : w6.frozen? ⟨p, 0, none⟩ = false := by
    have m1 := HR5.out.mem.1
    exact heap_free ((ht6.block p (HR5.out.lt p m1) hnp).trans HR5.out.row)
  have hq6 : w6.cell? ⟨p, 0, none⟩ = some (.slice A l.length c) := cell_off ht6 hnp (cell_later hb5 q0)
  clear ht6
  refine (show tailOf _ _ _ _ _ _ _ _ from ⟨by kernel_rfl, ?_⟩)
  simp only [List.drop_succ_cons, List.drop_zero]
  go_wp2_with fail
  go_ret
  have hw5 := below_trans hwc hab
  obtain ⟨k1, k2, k3⟩ := HR5.out.list (l' := enterL l s) Ht6.out (by rw [enterL, if_pos HE.out, insS, HNn.out]; exact Ho6.out) (Hu6.out.imp id fun e => ⟨_, e, Nat.le_refl _⟩) (Hls.out.enter s)
  exact ⟨ret_i64 HE.out.symm, _, k1, (touch_below hw5 S).trans k2, fun b hb => (k3 b hb).imp id fun h => by have := hw5.size; omega⟩
end Go.Proofs.YthnckicnnhkkaaaGreat
/- Package corpus: Remove, Make, Withdraw, Specimens, Ledger, Clone, Same; nil too. Condition: the corpus reads as such. -/
namespace Go.Proofs.YthnckicnnhkkaaaGreat
open Go.RowKit Go.Maps Go.Shelf

set_option maxHeartbeats 4000000 in
set_option maxRecDepth 100000 in
theorem Remove_ok (S : List Nat) (p : Nat) (l : List Spec) (D : List Dec) (W : List Mrk) (i : Int) (w : World) (h : CorAt w S p l D W) :
    Calls Tryz.prog 46 #[.pointer (some ⟨p, 0, none⟩), .int .i64 i] w fun e w' =>
      e = .returned (.int .i64 (removeE l i)) ∧ ∃ S', CorAt w' S' p (removeL l i) D W ∧ Touch w w' S ∧ ∀ b ∈ S', b ∈ S ∨ w.heap.size ≤ b := by
  obtain ⟨q, mb, wb, vl, hR⟩ := h
  have Hls := Lib.hid hR.ok.lis
  obtain ⟨⟨r0, r1⟩, _⟩ := cellsM hR.row
  have hHS := search_ok vl l i w hR.own.slOf Hls.out.srt (by have := Hls.out.len; omega)
  obtain ⟨T, hT⟩ : ∃ T, decide (i ∈ l.map Spec.id) = T := ⟨_, rfl⟩
  obtain ⟨n, hN⟩ : ∃ n, posI l i = n := ⟨_, rfl⟩
  rw [hT, hN] at hHS
  obtain ⟨A, c, hvl, hlc, hcm, _⟩ := (show Specs w vl l from hR.own.slOf).cells
  have HS := Lib.hid hHS; have HT := Lib.hid hT; have HNn := Lib.hid hN; have HR := Lib.hid hR
  clear hHS hT hN hR
  subst hvl
  go_enter Tryz.func46, Tryz.ntmps46
  go_wp2_with fail
  refine HS.out.mono ?_
  rintro e w1 ⟨rfl, hb1⟩
  cases T
  · have hout : i ∉ l.map Spec.id := by simpa using HT.out
    have HE : Hid (removeE l i = 7 ∧ removeL l i = l) := Lib.hid ⟨by rw [removeE, if_neg hout], removeL_no hout⟩
    clear hout
    go_wp2_with fail
    go_ret
    exact ⟨ret_i64 HE.out.1.symm, S, by rw [HE.out.2]; exact ⟨q, mb, wb, _, HR.out.below hb1⟩, touch_below hb1 S, fun b hb => .inl hb⟩
  have hin : i ∈ l.map Spec.id := by simpa using HT.out
  have HE : Hid (removeE l i = 0) := Lib.hid (by rw [removeE, if_pos hin])
  have hR1 := HR.out.below hb1
  have hn : n < l.length := by
    obtain ⟨s, h1, _⟩ := pos_there Hls.out.srt hin
    have := lt_of_get h1
    rw [HNn.out] at this
    exact this
  have hcut := removeL_cut Hls.out.srt hin
  rw [HNn.out] at hcut
  have Hcut := Lib.hid hcut
  replace r0 := cell_later hb1 r0
  rcases hR1.own.cases with ⟨_, h0⟩ | ⟨g, cap, eg, _, hg, _, _⟩
  · rw [h0] at hn; simp at hn
  cases eg
  have hD := deleteAt_ok g c n l w1 hR1.own hn (by have := Hls.out.len; omega)
  have HD := Lib.hid hD; have HR1 := Lib.hid hR1
  clear hD hR1 hin hcut
  go_wp2_with fail
  refine HD.out.mono ?_
  rintro e w2 ⟨rfl, ho, ht⟩
  have hnp : p ∉ [g] := by have := (HR1.out.ne.2.2.2 g rfl).1; simp; omega
  have m1 := HR1.out.mem.1
  have hf2 : w2.frozen? ⟨p, 0, none⟩ = false := heap_free ((ht.block p (HR1.out.lt p m1) hnp).trans HR1.out.row)
  have hq2 : w2.cell? ⟨p, 0, none⟩ = some (.slice (some ⟨g, 0, none⟩) l.length c) := cell_off ht hnp r0
  have Ho := Lib.hid ho; have Ht := Lib.hid ht
  clear ho ht
  go_wp2_with fail
  go_ret
  obtain ⟨k1, k2, k3⟩ := HR1.out.list (l' := removeL l i) (u := .slice (some ⟨g, 0, none⟩) (l.length - 1) c) Ht.out (by rw [← Hcut.out]; exact Ho.out) (.inl rfl) (Hls.out.remove i)
  exact ⟨ret_i64 HE.out.symm, _, k1, (touch_below hb1 S).trans k2, fun b hb => (k3 b hb).imp id fun h => by have := hb1.size; omega⟩
set_option maxHeartbeats 2000000 in
theorem Remove_nil (i : Int) (w : World) : Calls Tryz.prog 46 #[.pointer none, .int .i64 i] w fun e w' => e = .returned (.int .i64 1) ∧ Below w.heap.size w w' := by
  go_enter Tryz.func46, Tryz.ntmps46
  go_wp2
  go_ret
  exact ⟨rfl, Below.refl _ _⟩
set_option maxHeartbeats 4000000 in
set_option maxRecDepth 100000 in
theorem CMake_ok (S : List Nat) (p : Nat) (l : List Spec) (D : List Dec) (W : List Mrk) (d : Dec) (w : World) (h : CorAt w S p l D W) (hw : wfDc d) :
    Calls Tryz.prog 22 #[.pointer (some ⟨p, 0, none⟩), .agg #[.int .i64 d.au, .int .i64 d.nu, .int .i64 d.ki, .int .i64 d.a, .int .i64 d.b]] w fun e w' =>
      e = .returned (.int .i64 (makeE D d)) ∧ ∃ S', CorAt w' S' p l (makeL D d) W ∧ Touch w w' S ∧ ∀ b ∈ S', b ∈ S ∨ w.heap.size ≤ b := by
  obtain ⟨q, mb, wb, vl, hR⟩ := h
  obtain ⟨X, hX, HzX, hbX, hltX, _⟩ := boxed w #[.int .i64 (d).au, .int .i64 (d).nu, .int .i64 (d).ki, .int .i64 (d).a, .int .i64 (d).b] 33
  have hkX : (X).heap[(w).heap.size]? = some (.cells [.int .i64 (d).au, .int .i64 (d).nu, .int .i64 (d).ki, .int .i64 (d).a, .int .i64 (d).b].toArray 33 (0, 0)) := by rw [← hX]; exact heap_alloc_new _ _
  have hRX := hR.below hbX
  obtain ⟨⟨r0, r1⟩, _⟩ := cellsM hRX.row
  obtain ⟨⟨c0, c1, c2, c3, c4⟩, _⟩ := cellsD5 hkX
  have HRX := Lib.hid hRX; have HR := Lib.hid hR
  clear hRX hR hkX
  go_enter Tryz.func22, Tryz.ntmps22
  go_wp2_with fail
  have hba : Below (X).heap.size (X) (X).drew := (Below.refl _ _).drew
  obtain ⟨wa, hwa⟩ : ∃ W, (X).drew = W := ⟨_, rfl⟩
  rw [hwa] at hba
  have HSt := Lib.hid fun (w9 : World) (hb : Below wa.heap.size wa w9) => (show (fun w' : World => Below wa.heap.size wa w' ∧ w'.cell? ⟨p, 1, none⟩ = some (.pointer (some ⟨q, 0, none⟩)) ∧ w'.cell? ⟨w.heap.size, 0, none⟩ = some (.int .i64 d.au) ∧ w'.cell? ⟨w.heap.size, 1, none⟩ = some (.int .i64 d.nu) ∧ w'.cell? ⟨w.heap.size, 2, none⟩ = some (.int .i64 d.ki) ∧ w'.cell? ⟨w.heap.size, 3, none⟩ = some (.int .i64 d.a) ∧ w'.cell? ⟨w.heap.size, 4, none⟩ = some (.int .i64 d.b)) w9 from ⟨hb, cell_later hb (cell_later hba r1), cell_later hb (cell_later hba c0), cell_later hb (cell_later hba c1), cell_later hb (cell_later hba c2), cell_later hb (cell_later hba c3), cell_later hb (cell_later hba c4)⟩)
  have hHeld := HSt.out wa (Below.refl _ _)
  refine wp_region_S 5 (fun w' : World => Below wa.heap.size wa w' ∧ w'.cell? ⟨p, 1, none⟩ = some (.pointer (some ⟨q, 0, none⟩)) ∧ w'.cell? ⟨w.heap.size, 0, none⟩ = some (.int .i64 d.au) ∧ w'.cell? ⟨w.heap.size, 1, none⟩ = some (.int .i64 d.nu) ∧ w'.cell? ⟨w.heap.size, 2, none⟩ = some (.int .i64 d.ki) ∧ w'.cell? ⟨w.heap.size, 3, none⟩ = some (.int .i64 d.a) ∧ w'.cell? ⟨w.heap.size, 4, none⟩ = some (.int .i64 d.b)) (by kernel_rfl) (by decide) ?_
  rw [hwa]
  clear hwa
  refine wpAnyS_takeD 0 (some 7) (.pointer (some ⟨p, 0, none⟩)) (by rfl) (by rfl) (by kernel_rfl) (by exact fun _ _ _ h => h) (by rfl) (fun w' hS => by go_simp) hHeld ?_
  simp only [Act.put, List.setIfInBounds_toArray, List.set_cons_succ, List.set_cons_zero]
  refine wpAnyS_takeD 1 (some 8) (.pointer (some ⟨p, 0, none⟩)) (by rfl) (by rfl) (by kernel_rfl) (by exact fun _ _ _ h => h) (by rfl) (fun w' hS => by go_simp) hHeld ?_
  simp only [Act.put, List.setIfInBounds_toArray, List.set_cons_succ, List.set_cons_zero]
  refine wpAnyS_takeD 2 (some 9) (.pointer (some ⟨p, 1, none⟩)) (by rfl) (by rfl) (by kernel_rfl) (by exact fun _ _ _ h => h) (by rfl) (fun w' hS => by go_simp) hHeld ?_
  simp only [Act.put, List.setIfInBounds_toArray, List.set_cons_succ, List.set_cons_zero]
  refine wpAnyS_takeD 3 (some 10) (.pointer (some ⟨q, 0, none⟩)) (by rfl) (by rfl) (by kernel_rfl) (by exact fun _ _ _ h => h) (by rfl) (fun w' hS => by (obtain ⟨_, x0, x1, x2, x3, x4, x5⟩ := hS; go_simp)) hHeld ?_
  simp only [Act.put, List.setIfInBounds_toArray, List.set_cons_succ, List.set_cons_zero]
  refine wpAnyS_takeD 4 (some 11) (.agg #[.int .i64 d.au, .int .i64 d.nu, .int .i64 d.ki, .int .i64 d.a, .int .i64 d.b]) (by rfl) (by rfl) (by kernel_rfl) (by exact fun _ _ _ h => h) (by rfl) (fun w' hS => by (obtain ⟨_, x0, x1, x2, x3, x4, x5⟩ := hS; go_simp)) hHeld ?_
  simp only [Act.put, List.setIfInBounds_toArray, List.set_cons_succ, List.set_cons_zero]
  clear hHeld
  refine (show tailOf _ _ _ _ _ _ _ _ from ⟨by kernel_rfl, ?_⟩)
  simp only [List.drop_succ_cons, List.drop_zero]
  go_wp2_with fail
  refine (dmake_ok q mb wb D W d wa (HRX.out.led.below hba) hw (by have := HR.out.ok.lenD; omega)).mono ?_
  rintro e w2 ⟨rfl, hl2, ht2⟩
  have Hl2 := Lib.hid hl2
  clear hl2
  go_wp2_with fail
  go_ret
  have hwa := below_trans hbX hba
  obtain ⟨k1, k2, k3⟩ := (HR.out.below hwa).ledger ht2 (fun b hb => .inl (by simpa using hb)) Hl2.out (HR.out.ok.make d)
  exact ⟨rfl, S, k1, (touch_below hwa S).trans k2, fun b hb => .inl hb⟩
set_option maxHeartbeats 4000000 in
set_option maxRecDepth 100000 in
theorem CDraw_ok (S : List Nat) (p : Nat) (l : List Spec) (D : List Dec) (W : List Mrk) (m : Mrk) (w : World) (h : CorAt w S p l D W) (hw : wfMk m) :
    Calls Tryz.prog 20 #[.pointer (some ⟨p, 0, none⟩), .agg #[.int .i64 m.au, .int .i64 m.nu]] w fun e w' =>
      e = .returned (.int .i64 (drawE W m)) ∧ ∃ S', CorAt w' S' p l D (drawL W m) ∧ Touch w w' S ∧ ∀ b ∈ S', b ∈ S ∨ w.heap.size ≤ b := by
  obtain ⟨q, mb, wb, vl, hR⟩ := h
  obtain ⟨X, hX, HzX, hbX, hltX, _⟩ := boxed w #[.int .i64 (m).au, .int .i64 (m).nu] 35
  have hkX : (X).heap[(w).heap.size]? = some (.cells [.int .i64 (m).au, .int .i64 (m).nu].toArray 35 (0, 0)) := by rw [← hX]; exact heap_alloc_new _ _
  have hRX := hR.below hbX
  obtain ⟨⟨r0, r1⟩, _⟩ := cellsM hRX.row
  obtain ⟨⟨c0, c1⟩, _⟩ := cellsM hkX
  have HRX := Lib.hid hRX; have HR := Lib.hid hR
  clear hRX hR hkX
  go_enter Tryz.func20, Tryz.ntmps20
  go_wp2_with fail
  have hba : Below (X).heap.size (X) (X).drew := (Below.refl _ _).drew
  obtain ⟨wa, hwa⟩ : ∃ W, (X).drew = W := ⟨_, rfl⟩
  rw [hwa] at hba
  have HSt := Lib.hid fun (w9 : World) (hb : Below wa.heap.size wa w9) => (show (fun w' : World => Below wa.heap.size wa w' ∧ w'.cell? ⟨p, 1, none⟩ = some (.pointer (some ⟨q, 0, none⟩)) ∧ w'.cell? ⟨w.heap.size, 0, none⟩ = some (.int .i64 m.au) ∧ w'.cell? ⟨w.heap.size, 1, none⟩ = some (.int .i64 m.nu)) w9 from ⟨hb, cell_later hb (cell_later hba r1), cell_later hb (cell_later hba c0), cell_later hb (cell_later hba c1)⟩)
  have hHeld := HSt.out wa (Below.refl _ _)
  refine wp_region_S 5 (fun w' : World => Below wa.heap.size wa w' ∧ w'.cell? ⟨p, 1, none⟩ = some (.pointer (some ⟨q, 0, none⟩)) ∧ w'.cell? ⟨w.heap.size, 0, none⟩ = some (.int .i64 m.au) ∧ w'.cell? ⟨w.heap.size, 1, none⟩ = some (.int .i64 m.nu)) (by kernel_rfl) (by decide) ?_
  rw [hwa]
  clear hwa
  refine wpAnyS_takeD 0 (some 7) (.pointer (some ⟨p, 0, none⟩)) (by rfl) (by rfl) (by kernel_rfl) (by exact fun _ _ _ h => h) (by rfl) (fun w' hS => by go_simp) hHeld ?_
  simp only [Act.put, List.setIfInBounds_toArray, List.set_cons_succ, List.set_cons_zero]
  refine wpAnyS_takeD 1 (some 8) (.pointer (some ⟨p, 0, none⟩)) (by rfl) (by rfl) (by kernel_rfl) (by exact fun _ _ _ h => h) (by rfl) (fun w' hS => by go_simp) hHeld ?_
  simp only [Act.put, List.setIfInBounds_toArray, List.set_cons_succ, List.set_cons_zero]
  refine wpAnyS_takeD 2 (some 9) (.pointer (some ⟨p, 1, none⟩)) (by rfl) (by rfl) (by kernel_rfl) (by exact fun _ _ _ h => h) (by rfl) (fun w' hS => by go_simp) hHeld ?_
  simp only [Act.put, List.setIfInBounds_toArray, List.set_cons_succ, List.set_cons_zero]
  refine wpAnyS_takeD 3 (some 10) (.pointer (some ⟨q, 0, none⟩)) (by rfl) (by rfl) (by kernel_rfl) (by exact fun _ _ _ h => h) (by rfl) (fun w' hS => by (obtain ⟨_, x0, x1, x2⟩ := hS; go_simp)) hHeld ?_
  simp only [Act.put, List.setIfInBounds_toArray, List.set_cons_succ, List.set_cons_zero]
  refine wpAnyS_takeD 4 (some 11) (.agg #[.int .i64 m.au, .int .i64 m.nu]) (by rfl) (by rfl) (by kernel_rfl) (by exact fun _ _ _ h => h) (by rfl) (fun w' hS => by (obtain ⟨_, x0, x1, x2⟩ := hS; go_simp)) hHeld ?_
  simp only [Act.put, List.setIfInBounds_toArray, List.set_cons_succ, List.set_cons_zero]
  clear hHeld
  refine (show tailOf _ _ _ _ _ _ _ _ from ⟨by kernel_rfl, ?_⟩)
  simp only [List.drop_succ_cons, List.drop_zero]
  go_wp2_with fail
  refine (ddraw_ok q mb wb D W m wa (HRX.out.led.below hba) hw (by have := HR.out.ok.lenW; omega)).mono ?_
  rintro e w2 ⟨rfl, hl2, ht2⟩
  have Hl2 := Lib.hid hl2
  clear hl2
  go_wp2_with fail
  go_ret
  have hwa := below_trans hbX hba
  obtain ⟨k1, k2, k3⟩ := (HR.out.below hwa).ledger ht2 (fun b hb => .inr (by simpa using hb)) Hl2.out (HR.out.ok.draw m)
  exact ⟨rfl, S, k1, (touch_below hwa S).trans k2, fun b hb => .inl hb⟩
set_option maxHeartbeats 4000000 in
set_option maxRecDepth 100000 in
theorem cloneS_ok (v : Value) (xs : List Spec) (w : World) (h : SlOf encS 7 w v xs) (hn : xs.length ≤ 1048576) :
    Calls Tryz.prog 68 #[v] w fun e w' => ∃ u, e = .returned u ∧ OwnS w.heap.size w' u xs ∧ Below w.heap.size w w' := by
  obtain ⟨A, c, rfl, h1, h2, h3⟩ := h
  have hS := h3
  have hnil := fun (A : Option Addr) (w : World) => Lib.run_eql_slice_nil (P := Tryz.prog) w 51 31 A xs.length c 0 0 Tryz.underlying51
  cases A with
  | none =>
    have h0 : xs = [] := by
      rcases Nat.eq_zero_or_pos xs.length with h0 | h0
      · exact List.eq_nil_of_length_eq_zero h0
      · obtain ⟨b, o, e, _⟩ := h3.2 h0
        cases e
    subst h0
    have hE : ∀ w, (binOp .eql 51 (.slice none 0 c) (.slice none 0 0)).run Tryz.prog w = .ok (.bool true) w := fun w => hnil none w
    clear hnil hS h3 h1 hn
    go_enter Tryz.func68, Tryz.ntmps68
    go_wp2
    go_ret
    exact ⟨_, rfl, own_nil _ _ _ _ _, Below.refl _ _⟩
  | some a =>
    have hE : ∀ w, (binOp .eql 51 (.slice (some a) xs.length c) (.slice none 0 0)).run Tryz.prog w = .ok (.bool false) w := fun w => hnil (some a) w
    clear hnil
    obtain ⟨i0, hi0, hz0, hk0, hb0⟩ := info_parts infoS
    have hS1 := Lib.hid (fun (o : Obj) => Sl.below hS ((Below.refl w.heap.size w).alloc (Nat.le_refl _) o))
    clear hS h3
    go_enter Tryz.func68, Tryz.ntmps68
    go_wp2_with (at_builtin; refine wpList_append_sl rfl (.tmp 5) (.tmp 6) _ rfl i0 _ 56 Tryz.underlying51 hi0 hz0 hk0 hb0 rfl (by decide) oneS rfl (own_empty (B := w.heap.size) (heap_alloc_new _ _) (Nat.le_refl _)) _ _ _ xs rfl rfl (hS1.out _) (by simp; omega) (by simp; omega) (by simp) ?_; intro v1 w1 ho1 hg1 _)
    go_ret
    exact ⟨_, rfl, by simpa using ho1, ((Below.refl w.heap.size w).alloc (Nat.le_refl _) _).grown hg1 (by simp) (fun k e => by have e' : some w.heap.size = some k := e; cases e'; exact Nat.le_refl _)⟩
/-- A corpus, or none. -/
def CorO (w : World) (v : Value) (l : List Spec) (D : List Dec) (W : List Mrk) : Prop := (v = .pointer none ∧ l = [] ∧ D = [] ∧ W = []) ∨ ∃ S p, v = .pointer (some ⟨p, 0, none⟩) ∧ CorAt w S p l D W
theorem CorO.below {w w' : World} {v : Value} {l : List Spec} {D : List Dec} {W : List Mrk} (h : CorO w v l D W) (hb : Below w.heap.size w w') : CorO w' v l D W :=
  h.imp id fun ⟨S, p, e, h⟩ => ⟨S, p, e, h.below hb⟩
theorem CorO.ok {w : World} {v : Value} {l : List Spec} {D : List Dec} {W : List Mrk} (h : CorO w v l D W) : CorW l D W := by
  rcases h with ⟨_, rfl, rfl, rfl⟩ | ⟨S, p, _, h⟩
  · exact CorW.nil
  · exact h.ok
theorem CorAt.O {w : World} {S : List Nat} {p : Nat} {l : List Spec} {D : List Dec} {W : List Mrk} (h : CorAt w S p l D W) : CorO w (.pointer (some ⟨p, 0, none⟩)) l D W := .inr ⟨S, p, rfl, h⟩
set_option maxHeartbeats 2000000 in
theorem Specs_ok (v : Value) (l : List Spec) (D : List Dec) (W : List Mrk) (w : World) (h : CorO w v l D W) :
    Calls Tryz.prog 23 #[v] w fun e w' => ∃ u, e = .returned u ∧ OwnS w.heap.size w' u l ∧ Below w.heap.size w w' := by
  rcases h with ⟨rfl, rfl, rfl, rfl⟩ | ⟨S, p, rfl, q, mb, wb, vl, hR⟩
  · go_enter Tryz.func23, Tryz.ntmps23
    go_wp2
    go_ret
    exact ⟨_, rfl, own_nil _ _ _ _ _, Below.refl _ _⟩
  obtain ⟨⟨r0, r1⟩, _⟩ := cellsM hR.row
  have HC := Lib.hid (cloneS_ok vl l w hR.own.slOf (by have := hR.ok.lis.len; omega))
  obtain ⟨A, c, rfl, _⟩ := (show Specs w vl l from hR.own.slOf).cells
  clear hR
  go_enter Tryz.func23, Tryz.ntmps23
  go_wp2_with fail
  refine HC.out.mono ?_
  rintro e w1 ⟨u, rfl, ho, hb⟩
  go_wp2_with fail
  go_ret
  exact ⟨u, rfl, ho, hb⟩
set_option maxHeartbeats 2000000 in
theorem CLedger_ok (v : Value) (l : List Spec) (D : List Dec) (W : List Mrk) (w : World) (h : CorO w v l D W) :
    Calls Tryz.prog 18 #[v] w fun e w' => ∃ u, e = .returned u ∧ LedO w' u D W ∧ (v ≠ .pointer none → ∃ q mb wb, u = .pointer (some ⟨q, 0, none⟩) ∧ LedAt w' q mb wb D W ∧ w.heap.size ≤ q ∧ w.heap.size ≤ mb ∧ w.heap.size ≤ wb) ∧ Below w.heap.size w w' := by
  rcases h with ⟨rfl, rfl, rfl, rfl⟩ | ⟨S, p, rfl, q, mb, wb, vl, hR⟩
  · go_enter Tryz.func18, Tryz.ntmps18
    go_wp2
    go_ret
    exact ⟨_, rfl, .inl ⟨rfl, rfl, rfl⟩, fun h => absurd rfl h, Below.refl _ _⟩
  obtain ⟨⟨r0, r1⟩, _⟩ := cellsM hR.row
  have HC := Lib.hid (LClone_ok q mb wb D W w hR.led)
  clear hR
  go_enter Tryz.func18, Tryz.ntmps18
  go_wp2_with fail
  refine HC.out.mono ?_
  rintro e w1 ⟨q', mb', wb', rfl, hl, h1, h2, h3, hb⟩
  have Hl := Lib.hid hl
  clear hl
  go_wp2_with fail
  go_ret
  exact ⟨_, rfl, .inr ⟨q', mb', wb', rfl, Hl.out⟩, fun _ => ⟨q', mb', wb', rfl, Hl.out, h1, h2, h3⟩, hb⟩
set_option maxHeartbeats 4000000 in
set_option maxRecDepth 100000 in
theorem CSame_ok (v u : Value) (l l' : List Spec) (D D' : List Dec) (W W' : List Mrk) (w : World) (h : CorO w v l D W) (h' : CorO w u l' D' W') :
    Calls Tryz.prog 26 #[v, u] w fun e w' => e = .returned (.bool (decide (l = l') && (decide (D = D') && decide (W = W')))) ∧ Below w.heap.size w w' := by
  have H := Lib.hid h; have H' := Lib.hid h'
  clear h h'
  go_enter Tryz.func26, Tryz.ntmps26
  go_wp2_with fail
  refine (Specs_ok v l D W w H.out).mono ?_
  rintro e w1 ⟨z1, rfl, ho1, hb1⟩
  go_wp2_with fail
  refine (Specs_ok u l' D' W' w1 (H'.out.below hb1)).mono ?_
  rintro e w2 ⟨z2, rfl, ho2, hb2⟩
  go_wp2_with fail
  refine (equalSpecs_ok z1 z2 l l' w2 (ho1.slOf.below hb2) ho2.slOf).mono ?_
  rintro e w3 ⟨rfl, hb3⟩
  have hw3 := below_trans hb1 (below_trans hb2 hb3)
  clear ho1 ho2
  by_cases hd : l = l'
  · have hdd : decide (l = l') = true := by simp [hd]
    have Hd := Lib.hid hdd
    rw [hdd]
    clear hd hdd
    go_wp2_with fail
    refine (CLedger_ok v l D W w3 (H.out.below hw3)).mono ?_
    rintro e w4 ⟨z3, rfl, ho3, _, hb4⟩
    have Ho3 := Lib.hid ho3
    clear ho3
    go_wp2_with fail
    refine (CLedger_ok u l' D' W' w4 (H'.out.below (below_trans hw3 hb4))).mono ?_
    rintro e w5 ⟨z4, rfl, ho4, _, hb5⟩
    have Ho4 := Lib.hid ho4
    clear ho4
    go_wp2_with fail
    refine (LSame_ok z3 z4 D D' W W' w5 (Ho3.out.below hb5) Ho4.out (by have := H.out.ok.lenD; omega) (by have := H'.out.ok.lenD; omega) (by have := H.out.ok.lenW; omega) (by have := H'.out.ok.lenW; omega)).mono ?_
    rintro e w6 ⟨rfl, hb6⟩
    go_wp2_with fail
    go_ret
    exact ⟨ret_bool (by rw [Hd.out]; simp), below_trans hw3 (below_trans hb4 (below_trans hb5 hb6))⟩
  · have hdd : decide (l = l') = false := by simp [hd]
    have Hd := Lib.hid hdd
    rw [hdd]
    clear hd hdd
    go_wp2_with fail
    go_ret
    exact ⟨ret_bool (by rw [Hd.out]; simp), hw3⟩
end Go.Proofs.YthnckicnnhkkaaaGreat
/- Package corpus: Clone; names: of, join. Condition: the corpus reads as such; the map holds names. -/
namespace Go.Proofs.YthnckicnnhkkaaaGreat
open Go.RowKit Go.Maps Go.Shelf

set_option maxHeartbeats 4000000 in
set_option maxRecDepth 100000 in
theorem CClone_ok (S : List Nat) (p : Nat) (l : List Spec) (D : List Dec) (W : List Mrk) (w : World) (h : CorAt w S p l D W) :
    Calls Tryz.prog 41 #[.pointer (some ⟨p, 0, none⟩)] w fun e w' => ∃ p' S', e = .returned (.pointer (some ⟨p', 0, none⟩)) ∧ CorAt w' S' p' l D W ∧ (∀ b ∈ S', w.heap.size ≤ b) ∧ Below w.heap.size w w' := by
  obtain ⟨q, mb, wb, vl, hR⟩ := h
  obtain ⟨⟨r0, r1⟩, _⟩ := cellsM hR.row
  have HS := Lib.hid fun (w9 : World) (hb : Below w.heap.size w w9) => cloneS_ok vl l w9 ((hR.own.below hb).slOf) (by have := hR.ok.lis.len; omega)
  have HL := Lib.hid fun (w9 : World) (hb : Below w.heap.size w w9) => LClone_ok q mb wb D W w9 (hR.led.below hb)
  have Hok := Lib.hid hR.ok
  obtain ⟨A, c, rfl, _⟩ := (show Specs w vl l from hR.own.slOf).cells
  have HF : Hid (∀ w1 w2 u q' mb' wb', Below w.heap.size w w1 → OwnS w.heap.size w1 u l → LedAt w1 q' mb' wb' D W → (∀ j, u.ownBlock = some j → j < q' ∧ j < mb' ∧ j < wb') → w.heap.size ≤ q' → w.heap.size ≤ mb' → w.heap.size ≤ wb' → w1.alloc (.cells #[u, .pointer (some ⟨q', 0, none⟩)] 89) = w2 →
      CorAt w2 (blk u ++ [w1.heap.size, q', mb', wb']) w1.heap.size l D W ∧ (∀ b ∈ blk u ++ [w1.heap.size, q', mb', wb'], w.heap.size ≤ b) ∧ Below w.heap.size w w2) := Lib.hid (by
    intro w1 w2 u q' mb' wb' hb hu hL hlt h1 h2 h3 hw2
    have hb3 : Below w1.heap.size w1 w2 := by rw [← hw2]; exact (Below.refl _ _).alloc (Nat.le_refl _) _
    have hs : w2.heap.size = w1.heap.size + 1 := by rw [← hw2]; simp
    have l1 := heap_lt hL.row
    obtain ⟨m, hm, _⟩ := hL.made; obtain ⟨s, hs', _⟩ := hL.gone
    have l2 := MapAt.lt hm; have l3 := MapAt.lt hs'
    have hsz := hb.size
    refine ⟨⟨q', mb', wb', u, ⟨by rw [← hw2]; exact heap_alloc_new _ _, (hu.base (Nat.zero_le _)).below hb3, hL.below hb3, ⟨by simp, by simp, by simp, by simp, fun j hj => List.mem_append_left _ (mem_blk.2 hj)⟩, ⟨by omega, by omega, by omega, fun j hj => ?_⟩, fun b hb => ?_, Hok.out⟩⟩, fun b hb => ?_, below_trans hb hb3⟩
    · have := hlt j hj; have := (hu.lt j hj).2; omega
    · rcases List.mem_append.1 hb with hb | hb
      · have := (hu.lt b (mem_blk.1 hb)).2; omega
      · simp at hb; omega
    · rcases List.mem_append.1 hb with hb | hb
      · exact (hu.lt b (mem_blk.1 hb)).1
      · simp at hb; omega)
  clear hR
  go_enter Tryz.func41, Tryz.ntmps41
  go_wp2_with fail
  have hba : Below (w).heap.size (w) (w).drew := (Below.refl _ _).drew
  obtain ⟨wa, hwa⟩ : ∃ W, (w).drew = W := ⟨_, rfl⟩
  rw [hwa] at hba
  have HSt := Lib.hid fun (w9 : World) (hb : Below wa.heap.size wa w9) => (show (fun w' : World => Below wa.heap.size wa w' ∧ w'.cell? ⟨p, 0, none⟩ = some (.slice A l.length c) ∧ w'.cell? ⟨p, 1, none⟩ = some (.pointer (some ⟨q, 0, none⟩))) w9 from ⟨hb, cell_later hb (cell_later hba r0), cell_later hb (cell_later hba r1)⟩)
  have hHeld := HSt.out wa (Below.refl _ _)
  refine wp_region_S 10 (fun w' : World => Below wa.heap.size wa w' ∧ w'.cell? ⟨p, 0, none⟩ = some (.slice A l.length c) ∧ w'.cell? ⟨p, 1, none⟩ = some (.pointer (some ⟨q, 0, none⟩))) (by kernel_rfl) (by decide) ?_
  rw [hwa]
  clear hwa
  refine wpAnyS_takeD 0 (some 5) (.pointer (some ⟨p, 0, none⟩)) (by rfl) (by rfl) (by kernel_rfl) (by exact fun _ _ _ h => h) (by rfl) (fun w' hS => by go_simp) hHeld ?_
  simp only [Act.put, List.setIfInBounds_toArray, List.set_cons_succ, List.set_cons_zero]
  refine wpAnyS_takeD 1 (some 6) (.pointer (some ⟨p, 0, none⟩)) (by rfl) (by rfl) (by kernel_rfl) (by exact fun _ _ _ h => h) (by rfl) (fun w' hS => by go_simp) hHeld ?_
  simp only [Act.put, List.setIfInBounds_toArray, List.set_cons_succ, List.set_cons_zero]
  refine wpAnyS_takeD 2 (some 7) (.pointer (some ⟨p, 0, none⟩)) (by rfl) (by rfl) (by kernel_rfl) (by exact fun _ _ _ h => h) (by rfl) (fun w' hS => by go_simp) hHeld ?_
  simp only [Act.put, List.setIfInBounds_toArray, List.set_cons_succ, List.set_cons_zero]
  refine wpAnyS_takeD 3 (some 8) (.slice A l.length c) (by rfl) (by rfl) (by kernel_rfl) (by exact fun _ _ _ h => h) (by rfl) (fun w' hS => by (obtain ⟨_, x0, x1⟩ := hS; go_simp)) hHeld ?_
  simp only [Act.put, List.setIfInBounds_toArray, List.set_cons_succ, List.set_cons_zero]
  refine wpAnyS_takeD 5 (some 10) (.pointer (some ⟨p, 0, none⟩)) (by rfl) (by rfl) (by kernel_rfl) (by exact fun _ _ _ h => h) (by rfl) (fun w' hS => by go_simp) hHeld ?_
  simp only [Act.put, List.setIfInBounds_toArray, List.set_cons_succ, List.set_cons_zero]
  refine wpAnyS_takeD 6 (some 11) (.pointer (some ⟨p, 0, none⟩)) (by rfl) (by rfl) (by kernel_rfl) (by exact fun _ _ _ h => h) (by rfl) (fun w' hS => by go_simp) hHeld ?_
  simp only [Act.put, List.setIfInBounds_toArray, List.set_cons_succ, List.set_cons_zero]
  refine wpAnyS_takeD 7 (some 12) (.pointer (some ⟨p, 1, none⟩)) (by rfl) (by rfl) (by kernel_rfl) (by exact fun _ _ _ h => h) (by rfl) (fun w' hS => by go_simp) hHeld ?_
  simp only [Act.put, List.setIfInBounds_toArray, List.set_cons_succ, List.set_cons_zero]
  refine wpAnyS_takeD 8 (some 13) (.pointer (some ⟨q, 0, none⟩)) (by rfl) (by rfl) (by kernel_rfl) (by exact fun _ _ _ h => h) (by rfl) (fun w' hS => by (obtain ⟨_, x0, x1⟩ := hS; go_simp)) hHeld ?_
  simp only [Act.put, List.setIfInBounds_toArray, List.set_cons_succ, List.set_cons_zero]
  clear hHeld
  refine wpAnyS_one 4 (by kernel_rfl) (by rfl) (by decide) (fun K hK => ?_)
  have HK := Lib.hid hK; clear hK
  rw [if_pos (by rfl)]
  go_simp
  refine (HS.out wa hba).mono ?_
  rintro e w5 ⟨u, rfl, ho5, hb5⟩
  have Ho5 := Lib.hid ho5
  obtain ⟨A5, c5, e5, _⟩ := id ho5.slOf
  clear ho5
  subst e5
  refine HK.out _ _ (HSt.out _ hb5) ?_
  clear HK
  refine wpAnyS_one 9 (by kernel_rfl) (by rfl) (by decide) (fun K hK => ?_)
  have HK := Lib.hid hK; clear hK
  rw [if_pos (by rfl)]
  go_simp
  refine (HL.out w5 (below_trans hba hb5)).mono ?_
  rintro e w6 ⟨q', mb', wb', rfl, hl6, g1, g2, g3, hb6⟩
  have Hl6 := Lib.hid hl6
  clear hl6
  refine HK.out _ _ (HSt.out _ (below_trans hb5 hb6)) ?_
  clear HK
  refine (show tailOf _ _ _ _ _ _ _ _ from ⟨by kernel_rfl, ?_⟩)
  simp only [List.drop_succ_cons, List.drop_zero]
  go_wp2_with fail
  go_ret
  have hz := hba.size; have hz5 := hb5.size
  obtain ⟨k1, k2, k3⟩ := HF.out w6 _ (.slice A5 l.length c5) q' mb' wb' (below_trans hba (below_trans hb5 hb6)) (Ho5.out.below hb6 |>.base hz) Hl6.out (fun j hj => by have := (Ho5.out.lt j hj).2; omega) (by omega) (by omega) (by omega) rfl
  exact ⟨_, rfl, _, k1, k2, k3⟩
set_option maxHeartbeats 2000000 in
theorem CClone_nil (w : World) : Calls Tryz.prog 41 #[.pointer none] w fun e w' => e = .returned (.pointer none) ∧ Below w.heap.size w w' := by
  go_enter Tryz.func41, Tryz.ntmps41
  go_wp2
  go_ret
  exact ⟨rfl, Below.refl _ _⟩

/-! ### Names -/
set_option maxHeartbeats 4000000 in
set_option maxRecDepth 100000 in
theorem nof_ok (b : Nat) (m : List (Int × Int)) (r : Int → Int) (x : Int) (w : World) (h : MapII w b m) (hI : NamI m r) (hx : wfI x) :
    Calls Tryz.prog 79 #[.map (some b), .int .i64 x] w fun e w' => e = .returned (.int .i64 (r x)) ∧ Below w.heap.size w w' := by
  have H := Lib.hid h; have HI := Lib.hid hI
  obtain ⟨R, hR⟩ : ∃ z, r x = z := ⟨_, rfl⟩
  rw [hR]
  have HR := Lib.hid hR
  clear h hI hR
  go_enter Tryz.func79, Tryz.ntmps79
  go_wp2
  go_loopw [1] (fun t wr => ∃ y : Int, t = .int .i64 y ∧ Hid (r y = R) ∧ Hid (wfI y) ∧ Below w.heap.size w wr) (fun t _ => (intOf t).toNat)
  case atStart => exact ⟨x, rfl, HR.out, hx, Below.refl _ _⟩
  case round =>
    obtain ⟨y, rfl, Hy, Hw, hb⟩ := hrel
    have hL := MapAt.look_ok (MapAt.below (show MapAt _ _ w b m from H.out) hb) Tryz.underlying116 (x := y) Hw.out
    have hL' : (Instr.lookup 116 (.map (some b)) (.int .i64 y) true).run Tryz.prog wr = .ok (.tuple #[.int .i64 ((lookM m y).getD 0), .bool (lookM m y).isSome]) wr := hL
    clear hL
    cases hl : lookM m y with
    | none =>
      rw [hl] at hL'
      simp only [Option.getD_none, Option.isSome_none] at hL'
      have he : R = y := by rw [← Hy.out]; exact HI.out.none y hl
      have He := Lib.hid he
      clear hl he
      go_wp2
      go_ret
      exact ⟨ret_i64 He.out.symm, hb⟩
    | some n =>
      rw [hl] at hL'
      simp only [Option.getD_some, Option.isSome_some] at hL'
      obtain ⟨h1, h2, h3⟩ := HI.out.some y n hl
      have hwn : wfI n := (MapII.good H.out (y, n) (lookM_some hl)).2
      have H3 : Hid (r n = R) := by show _ = _; rw [← h3]; exact Hy.out
      clear hl h3
      have Hwn := Lib.hid hwn
      clear hwn
      go_wp2
      refine ⟨?rel, ?measure⟩
      case rel => exact ⟨n, rfl, H3, Hwn, hb⟩
      case measure => simp [intOf]; omega
theorem joinN_same {r : Int → Int} {e : Int × Int} (h : r e.1 = r e.2) : joinN r e = r := by
  funext x
  unfold joinN
  rw [h]
  split <;> omega
theorem NamI.join {m : List (Int × Int)} {r : Int → Int} {a c : Int} (h : NamI m r) (hi : ∀ x, r (r x) = r x) (ha : 1 ≤ r a) (hc : 1 ≤ r c) (hne : r a ≠ r c) : NamI (putM m (max (r a) (r c)) (min (r a) (r c))) (joinN r (a, c)) := by
  have h1 := hi a; have h2 := hi c
  refine ⟨fun k n hk => ?_, fun k hk => ?_⟩
  · rw [lookM_putM] at hk
    unfold joinN
    by_cases e : max (r a) (r c) = k
    · rw [if_pos e] at hk
      cases hk
      subst e
      rcases Int.le_total (r a) (r c) with hle | hle
      · simp only [Int.min_eq_left hle, Int.max_eq_right hle]
        rw [if_pos h2, h1, if_neg hne]
        omega
      · simp only [Int.min_eq_right hle, Int.max_eq_left hle]
        rw [if_pos h1, h2, if_neg (Ne.symm hne)]
        omega
    · rw [if_neg e] at hk
      obtain ⟨k1, k2, k3⟩ := h.some k n hk
      rw [k3]
      exact ⟨k1, k2, rfl⟩
  · rw [lookM_putM] at hk
    by_cases e : max (r a) (r c) = k
    · rw [if_pos e] at hk; cases hk
    · rw [if_neg e] at hk
      unfold joinN
      simp only
      rw [h.none k hk, if_neg (Ne.symm e)]
set_option maxHeartbeats 4000000 in
set_option maxRecDepth 100000 in
theorem njoin_ok (b : Nat) (m : List (Int × Int)) (E : List (Int × Int)) (a c : Int) (w : World) (h : MapII w b m) (hI : NamI m (nameF E)) (hE : ∀ e ∈ E, 1 ≤ e.1 ∧ 1 ≤ e.2) (ha : 1 ≤ a ∧ a ≤ 9999) (hc : 1 ≤ c ∧ c ≤ 9999) (hm : m.length ≤ 10000) :
    Calls Tryz.prog 163 #[.map (some b), .int .i64 a, .int .i64 c] w fun e w' => e = .returned (.tuple #[]) ∧ ∃ m', MapII w' b m' ∧ NamI m' (nameF (E ++ [(a, c)])) ∧ m'.length ≤ m.length + 1 ∧ Touch w w' [b] := by
  have e1 := nameF_le E a; have e2 := nameF_le E c
  have p1 := nameF_pos E hE a ha.1; have p2 := nameF_pos E hE c hc.1
  have H1 := Lib.hid fun (w9 : World) (hb : Below w.heap.size w w9) => nof_ok b m (nameF E) a w9 (h.below hb) hI (wf_small (by omega) (by omega))
  have H2 := Lib.hid fun (w9 : World) (hb : Below w.heap.size w w9) => nof_ok b m (nameF E) c w9 (h.below hb) hI (wf_small (by omega) (by omega))
  have H := Lib.hid h
  have HJ : Hid (nameF (E ++ [(a, c)]) = joinN (nameF E) (a, c)) := Lib.hid (nameF_snoc E (a, c))
  have HJs : Hid (nameF E a = nameF E c → NamI m (joinN (nameF E) (a, c))) := Lib.hid fun h => by rw [joinN_same (e := (a, c)) h]; exact hI
  have HJn : Hid (nameF E a ≠ nameF E c → NamI (putM m (max (nameF E a) (nameF E c)) (min (nameF E a) (nameF E c))) (joinN (nameF E) (a, c))) := Lib.hid fun h => hI.join (nameF_idem E) p1 p2 h
  rw [HJ.out]
  generalize hra : nameF E a = ra at *
  generalize hrc : nameF E c = rc at *
  clear h hI hra hrc
  go_enter Tryz.func163, Tryz.ntmps163
  go_wp2_with fail
  refine (H1.out w (Below.refl _ _)).mono ?_
  rintro e w1 ⟨rfl, hb1⟩
  go_wp2_with fail
  refine (H2.out w1 hb1).mono ?_
  rintro e w2 ⟨rfl, hb2⟩
  have hw2 := below_trans hb1 hb2
  by_cases hne : ra = rc
  · have d : (ra != rc) = false := by simp [hne]
    have d' : decide (ra = rc) = true := by simp [hne]
    have Hne := Lib.hid hne
    clear hne
    go_wp2_with fail
    go_end0
    exact ⟨rfl, m, H.out.below hw2, HJs.out Hne.out, by omega, touch_below hw2 _⟩
  · have d : (ra != rc) = true := by simp [hne]
    have d' : decide (ra = rc) = false := by simp [hne]
    have Hne := Lib.hid hne
    clear hne
    obtain ⟨w3, hrun, hm3, hg3⟩ := MapAt.put (t := 116) (show MapAt _ _ w2 b m from H.out.below hw2) Tryz.underlying116 (x := max ra rc) (y := min ra rc) (wf_small (by omega) (by omega)) (wf_small (by omega) (by omega)) (by simp only [maxLen]; omega)
    have hrun' : (Instr.mapUpdate 116 (.map (some b)) (.int .i64 (max ra rc)) (.int .i64 (min ra rc))).run Tryz.prog w2 = .ok () w3 := hrun
    have HM := Lib.hid hm3; have HG := Lib.hid hg3
    clear hrun hm3 hg3
    go_wp2_with fail
    go_end0
    exact ⟨rfl, _, HM.out, HJn.out Hne.out, by rw [putM_len]; split <;> omega, (touch_below hw2 _).trans (grown_touch HG.out (by simp))⟩
end Go.Proofs.YthnckicnnhkkaaaGreat
