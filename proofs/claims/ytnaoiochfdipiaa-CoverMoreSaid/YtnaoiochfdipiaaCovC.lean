/- A call that touches blocks of maps; the lengths that a search leaves. No program in sight, no condition. -/
import Derived.Test.YtnaoiochfdipiaaCovA
namespace Go.Proofs.Ytnaoiochfdipiaa
open Go.RowKit Go.Maps

/-- Of what was there nothing has turned but the blocks S. -/
structure Touch (w w' : World) (S : List Nat) : Prop where
  os : w'.os = w.os
  tape : w'.tape = w.tape
  output : w'.output = w.output
  size : w.heap.size ≤ w'.heap.size
  block : ∀ k, k < w.heap.size → k ∉ S → w'.heap[k]? = w.heap[k]?
section
variable {w w' w'' : World} {S : List Nat}
theorem Touch.refl (w : World) (S : List Nat) : Touch w w S := ⟨rfl, rfl, rfl, Nat.le_refl _, fun _ _ _ => rfl⟩
theorem Touch.trans (h : Touch w w' S) (k : Touch w' w'' S) : Touch w w'' S :=
  ⟨k.os.trans h.os, k.tape.trans h.tape, k.output.trans h.output, Nat.le_trans h.size k.size, fun i hi hn => (k.block i (Nat.lt_of_lt_of_le hi h.size) hn).trans (h.block i hi hn)⟩
theorem touch_below (h : Below w.heap.size w w') (S : List Nat) : Touch w w' S := ⟨h.os, h.tape, h.output, h.size, fun i hi _ => h.block i hi⟩
theorem grown_touch {b : Nat} (h : w.grownBy w' (some b)) (hb : b ∈ S) : Touch w w' S := ⟨h.os, h.tape, h.output, h.size, fun i hi hn => h.block i hi fun e => hn (by cases e; exact hb)⟩
theorem Touch.below {B : Nat} (h : Touch w w' S) (hS : ∀ b ∈ S, B ≤ b) (hB : B ≤ w.heap.size) : Below B w w' := ⟨h.os, h.tape, h.output, h.size, fun i hi => h.block i (by omega) fun hm => by have := hS i hm; omega⟩
/-- A block that holds a map has no cells. -/
def NoCell (w : World) (S : List Nat) : Prop := ∀ b ∈ S, ∀ o p, w.cell? ⟨b, o, p⟩ = none
theorem cell_touch (h : Touch w w' S) (hn : NoCell w S) {a : Addr} {v : Value} (hc : w.cell? a = some v) : w'.cell? a = some v := by
  have hlt : a.block < w.heap.size := by
    unfold World.cell? at hc
    split at hc
    · exact (Array.getElem?_eq_some_iff.1 (by assumption)).1
    · cases hc
  rw [World.cell?_of_block (h.block a.block hlt fun hm => by
    have := hn a.block hm a.off a.spot
    rw [show (⟨a.block, a.off, a.spot⟩ : Addr) = a from rfl, hc] at this
    cases this)]
  exact hc
theorem SlOf.touch {α : Type} {enc : α → List Value} {k : Nat} {v : Value} {xs : List α} (h : SlOf enc k w v xs) (ht : Touch w w' S) (hn : NoCell w S) : SlOf enc k w' v xs := by
  obtain ⟨A, c, e, h1, h2, h3, h4⟩ := h
  refine ⟨A, c, e, h1, h2, h3, fun hp => ?_⟩
  obtain ⟨b, o, e, hb, hc⟩ := h4 hp
  exact ⟨b, o, e, Nat.lt_of_lt_of_le hb ht.size, fun j u hu => cell_touch ht hn (hc j u hu)⟩
theorem GraphAt.touch {v : Value} {g : Graph} (h : GraphAt w v g) (ht : Touch w w' S) (hn : NoCell w S) : GraphAt w' v g := by
  obtain ⟨v1, v2, v3, e, h1, h2, h3⟩ := h
  exact ⟨v1, v2, v3, e, SlOf.touch h1 ht hn, SlOf.touch h2 ht hn, SlOf.touch h3 ht hn⟩
theorem MapII.nocell {b : Nat} {m : List (Int × Int)} (h : MapII w b m) : NoCell w [b] := by
  obtain ⟨⟨D, ⟨es, clock, hb, _⟩, _⟩, _, _⟩ := h
  intro c hc o p
  rw [List.mem_singleton] at hc
  subst hc
  simp [World.cell?, hb]
theorem SetI.nocell {b : Nat} {l : List Int} (h : SetI w b l) : NoCell w [b] := by
  obtain ⟨_, ⟨D, ⟨es, clock, hb, _⟩, _⟩, _, _⟩ := h
  intro c hc o p
  rw [List.mem_singleton] at hc
  subst hc
  simp [World.cell?, hb]
end
/-- A matching and the set of what was looked at, in their three maps. -/
structure AugAt (w : World) (bo br bs : Nat) (s : St) : Prop where
  st : StAt w bo br s
  sn : SetI w bs s.seen
  n1 : bs ≠ bo
  n2 : bs ≠ br
section
variable {w w' : World} {bo br bs : Nat} {s : St}
theorem AugAt.nocell (h : AugAt w bo br bs s) : NoCell w [bo, br, bs] := by
  intro c hc o p
  simp only [List.mem_cons, List.not_mem_nil, or_false] at hc
  rcases hc with rfl | rfl | rfl
  · exact h.st.o.nocell _ (by simp) o p
  · exact h.st.r.nocell _ (by simp) o p
  · exact h.sn.nocell _ (by simp) o p
theorem AugAt.below (h : AugAt w bo br bs s) (hb : Below w.heap.size w w') : AugAt w' bo br bs s := ⟨h.st.below hb, h.sn.below hb, h.n1, h.n2⟩
theorem AugAt.see (h : AugAt w bo br bs s) {r : Int} (hr : wfI r) (hs : r ∉ s.seen) (hn : s.seen.length < maxLen) :
    ∃ w', (Instr.mapUpdate 69 (.map (some bs)) (.int .i64 r) (.bool true)).run Try.prog w = .ok () w' ∧ AugAt w' bo br bs (s.see r) ∧ Touch w w' [bo, br, bs] := by
  obtain ⟨w1, a1, a2, a3⟩ := h.sn.put hr hs hn
  exact ⟨w1, a1, ⟨⟨h.st.o.kept a3 (fun e => h.n1 (Option.some.inj e).symm), h.st.r.kept a3 (fun e => h.n2 (Option.some.inj e).symm), h.st.ne⟩, a2, h.n1, h.n2⟩, grown_touch a3 (by simp)⟩
theorem AugAt.set (h : AugAt w bo br bs s) {o r : Int} (ho : wfI o) (hr : wfI r) (h1 : s.obv.length < maxLen) (h2 : s.rev.length < maxLen) :
    ∃ w1 w2, (Instr.mapUpdate 60 (.map (some bo)) (.int .i64 o) (.int .i64 r)).run Try.prog w = .ok () w1 ∧ (Instr.mapUpdate 60 (.map (some br)) (.int .i64 r) (.int .i64 o)).run Try.prog w1 = .ok () w2 ∧
      AugAt w2 bo br bs (s.set o r) ∧ w.grownBy w1 (some bo) ∧ w1.grownBy w2 (some br) := by
  obtain ⟨w1, w2, a1, a2, a3, g1, g2⟩ := h.st.set ho hr h1 h2
  exact ⟨w1, w2, a1, a2, ⟨a3, (h.sn.kept g1 (fun e => h.n1 (Option.some.inj e))).kept g2 (fun e => h.n2 (Option.some.inj e)), h.n1, h.n2⟩, g1, g2⟩
end

/-! ### Lengths -/
theorem augL_len {N : Int → List Int} {R : List Int} (hR : ∀ o, ∀ r ∈ N o, r ∈ R) {n : Nat} {rec : Int → St → Bool × St} (hrec : ∀ o s, (rec o s).2.obv.length ≤ s.obv.length + n ∧ (rec o s).2.rev.length ≤ s.rev.length + n ∧ (rec o s).2.seen.length + unseen R (rec o s).2 ≤ s.seen.length + unseen R s)
    (hkeep : ∀ o s s', rec o s = (false, s') → s'.rev = s.rev ∧ s'.obv = s.obv) (o : Int) : ∀ (L : List Int) (s : St), (∀ r ∈ L, r ∈ R) →
      (augL rec o L s).2.obv.length ≤ s.obv.length + (n + 1) ∧ (augL rec o L s).2.rev.length ≤ s.rev.length + (n + 1) ∧ (augL rec o L s).2.seen.length + unseen R (augL rec o L s).2 ≤ s.seen.length + unseen R s
  | [], s, _ => ⟨by simp only [augL]; omega, by simp only [augL]; omega, Nat.le_refl _⟩
  | r :: rs, s, hL => by
    have hL' : ∀ x ∈ rs, x ∈ R := fun x hx => hL x (List.mem_cons_of_mem _ hx)
    rw [augL]
    by_cases hs : r ∈ s.seen
    · rw [if_pos hs]; exact augL_len hR hrec hkeep o rs s hL'
    · rw [if_neg hs]
      have hsee : (s.see r).seen.length + unseen R (s.see r) ≤ s.seen.length + unseen R s := by
        have := unseen_see (hL r (by simp)) hs
        simp only [St.see, List.length_append, List.length_singleton] at this ⊢
        omega
      cases hl : lookM s.rev r with
      | none =>
        have := set_len (s.see r) o r
        refine ⟨?_, ?_, ?_⟩
        · have := this.1; simp only [St.see] at this ⊢; omega
        · have := this.2; simp only [St.see] at this ⊢; omega
        · exact hsee
      | some o2 =>
        have h1 := hrec o2 (s.see r)
        cases hq : rec o2 (s.see r) with
        | mk b s2 =>
          rw [hq] at h1
          simp only [hq]
          cases b
          · obtain ⟨k1, k2⟩ := hkeep _ _ _ hq
            have h2 := augL_len hR hrec hkeep o rs s2 hL'
            rw [k1, k2] at h2
            exact ⟨h2.1, h2.2.1, Nat.le_trans h2.2.2 (Nat.le_trans h1.2.2 hsee)⟩
          · have h2 := set_len s2 o r
            refine ⟨?_, ?_, ?_⟩
            · have := h2.1; have := h1.1; simp only [St.see] at *; omega
            · have := h2.2; have := h1.2.1; simp only [St.see] at *; omega
            · exact Nat.le_trans h1.2.2 hsee
theorem augF_len {N : Int → List Int} {R : List Int} (hR : ∀ o, ∀ r ∈ N o, r ∈ R) : ∀ (n : Nat) (o : Int) (s : St),
    (augF N n o s).2.obv.length ≤ s.obv.length + n ∧ (augF N n o s).2.rev.length ≤ s.rev.length + n ∧ (augF N n o s).2.seen.length + unseen R (augF N n o s).2 ≤ s.seen.length + unseen R s
  | 0, _, _ => ⟨Nat.le_refl _, Nat.le_refl _, Nat.le_refl _⟩
  | n + 1, o, s => augL_len hR (augF_len hR n) (fun o s s' h => augF_keep n o s s' h) o (N o) s (hR o)
end Go.Proofs.Ytnaoiochfdipiaa
/- cover.augment. Condition: the arguments' maps and graph. -/
namespace Go.Proofs.Ytnaoiochfdipiaa
open Go.RowKit Go.Shelf

theorem drop_at {α : Type} {l : List α} {k : Nat} {x : α} (h : l[k]? = some x) : l.drop k = x :: l.drop (k + 1) := by
  obtain ⟨hk, rfl⟩ := List.getElem?_eq_some_iff.1 h
  exact List.drop_eq_getElem_cons hk
set_option maxHeartbeats 8000000 in
set_option maxRecDepth 100000 in
theorem augment_ok (g : Graph) (hg : graphB g = true) (hwr : ∀ x ∈ g.rev, wfI x) (v : Value) (bo br bs : Nat) (n : Nat) : ∀ (o : Int) (s : St) (w : World), GraphAt w v g → AugAt w bo br bs s → unseen g.rev s < n → wfI o → s.obv.length + n ≤ 1000 → s.rev.length + n ≤ 1000 → s.seen.length + unseen g.rev s ≤ 1000 →
    Calls Try.prog 57 #[.agg #[.map (some bo), .map (some br)], v, .int .i64 o, .map (some bs)] w fun e w' => e = .returned (.bool (augF (nbr g) n o s).1) ∧ AugAt w' bo br bs (augF (nbr g) n o s).2 ∧ Touch w w' [bo, br, bs] := by
  induction n with
  | zero => intro o s w _ _ h; exact absurd h (by omega)
  | succ n ih =>
    intro o s w h hA hu hwfo l1 l2 l3
    obtain ⟨R, hR⟩ : ∃ R, augF (nbr g) (n + 1) o s = R := ⟨_, rfl⟩
    rw [hR]
    have hE0 : augL (augF (nbr g) n) o (nbr g o) s = R := hR
    clear hR
    have h0 := h
    obtain ⟨v1, v2, v3, rfl, ho, hr, hl⟩ := h
    obtain ⟨A1, c1, rfl, _, _, _⟩ := ho.cells
    obtain ⟨A2, c2, rfl, _, _, _⟩ := hr.cells
    obtain ⟨A3, c3, rfl, _, _, _⟩ := hl.cells
    obtain ⟨W0, hW0, Hz0, hb0, hlt0, hc0⟩ := boxed w #[.map (some bo), .map (some br)] 62
    obtain ⟨W, hW, Hz, hb1, hlt1, hc1⟩ := boxed W0 #[.slice A1 g.obv.length c1, .slice A2 g.rev.length c2, .slice A3 g.links.length c3] 25
    have hwW := below_trans hb0 hb1
    have hblk0 : W0.heap[w.heap.size]? = some (.cells #[.map (some bo), .map (some br)] 62 (0, 0)) := by rw [← hW0]; exact heap_alloc_new _ _
    have hblk : W.heap[w.heap.size]? = some (.cells #[.map (some bo), .map (some br)] 62 (0, 0)) := heap_below hblk0 hb1 (heap_lt hblk0)
    have a0 := hc1 0 _ rfl; have a1 := hc1 1 _ rfl; have a2 := hc1 2 _ rfl
    clear hc0 hc1 ho hr hl hblk0
    have hbo := hA.st.o.lt
    have hbr := hA.st.r.lt
    have hbs := hA.sn.lt
    go_enter Try.func57, Try.ntmps57
    go_wp2_with fail
    refine (Partners_ok _ _ _ _ _ (h0.below hwW)).mono ?_
    rintro e w1 ⟨u, rfl, hu, hb2⟩
    change Ints w1 u (nbr g o) at hu
    clear hW0 hW
    have hw1 := below_trans hwW hb2
    have hblk1 := heap_below hblk hb2 (heap_lt hblk)
    have a0' := cell_later hb2 a0; have a1' := cell_later hb2 a1; have a2' := cell_later hb2 a2
    clear a0 a1 a2 hblk
    have hg1 := h0.below hw1
    have hA1 := hA.below hw1
    have hno := hA1.nocell
    obtain ⟨A, c, rfl, _, _, hc⟩ := hu.cells
    clear hu
    go_wp2_with fail
    go_loopw [24] (fun i wr => ∃ (k : Nat) (t : St), k ≤ (nbr g o).length ∧ i = .int .i64 k ∧ AugAt wr bo br bs t ∧ Touch w1 wr [bo, br, bs] ∧ augL (augF (nbr g) n) o ((nbr g o).drop k) t = R ∧ t.obv = s.obv ∧ t.rev = s.rev ∧ t.seen.length + unseen g.rev t ≤ 1000 ∧ unseen g.rev t ≤ unseen g.rev s) (fun i _ => (nbr g o).length - (intOf i).toNat)
    case atStart => exact ⟨0, s, Nat.zero_le _, rfl, hA1, Touch.refl _ _, hE0, rfl, rfl, l3, Nat.le_refl _⟩
    case round =>
      obtain ⟨k, t, hk, rfl, hAt, hT, hE, e1, e2, hsum, hun⟩ := hrel
      have ht1 : t.obv.length + (n + 1) ≤ 1000 := by rw [e1]; exact l1
      have ht2 : t.rev.length + (n + 1) ≤ 1000 := by rw [e2]; exact l2
      have hTw := (touch_below hw1 [bo, br, bs]).trans hT
      have hblkr : wr.heap[w.heap.size]? = some (.cells #[.map (some bo), .map (some br)] 62 (0, 0)) := (hT.block _ (heap_lt hblk1) (by simp; omega)).trans hblk1
      have m0 := heap_cell (i := 0) hblkr; have m1 := heap_cell (i := 1) hblkr
      have a0 := cell_touch hT hno a0'; have a1 := cell_touch hT hno a1'; have a2 := cell_touch hT hno a2'
      by_cases hlt : k < (nbr g o).length
      · obtain ⟨b, of', rfl, _, hcb⟩ := hc k hlt
        obtain ⟨r, hr⟩ := get_of_lt hlt
        have hc0 := cell_touch hT hno (hcb w1 (Below.refl _ _) k r hr)
        have hmem := nbr_rev hg o r (List.mem_of_getElem? hr)
        have hwfr := hwr r hmem
        rw [drop_at hr, augL] at hE
        clear hc hcb hr
        by_cases hs : r ∈ t.seen
        · rw [if_pos hs] at hE
          have k1 := hAt.sn.look hwfr
          rw [decide_eq_true hs] at k1
          go_wp2_with fail
          refine ⟨?rel, ?measure⟩
          case rel => exact ⟨k + 1, t, by omega, by go_num, hAt, hT, hE, e1, e2, hsum, hun⟩
          case measure => first | (simp [intOf]; done) | (simp [intOf]; omega)
        · rw [if_neg hs] at hE
          have k1 := hAt.sn.look hwfr
          rw [decide_eq_false hs] at k1
          obtain ⟨w2, u0, hA2, hT2⟩ := hAt.see hwfr hs (by simp only [maxLen]; omega)
          have hblk2 : w2.heap[w.heap.size]? = some (.cells #[.map (some bo), .map (some br)] 62 (0, 0)) := (hT2.block _ (heap_lt hblkr) (by simp; omega)).trans hblkr
          have p0 := heap_cell (i := 0) hblk2; have p1 := heap_cell (i := 1) hblk2
          have hnr := hAt.nocell
          have d0 := cell_touch hT2 hnr a0; have d1 := cell_touch hT2 hnr a1; have d2 := cell_touch hT2 hnr a2
          have k2 := hA2.st.r.look_ok hwfr
          have hus := unseen_see hmem hs
          have HG := Lib.hid ((hg1.touch hT hno).touch hT2 hnr)
          have HA2 := Lib.hid hA2; have HT2 := Lib.hid (hT.trans hT2); have HT2w := Lib.hid (hTw.trans hT2)
          have h2w : W.heap.size ≤ w2.heap.size := by have := hT2.size; have := hT.size; have := hb2.size; omega
          have hun2 : (t.see r).seen.length + unseen g.rev (t.see r) ≤ 1000 := by simp only [St.see, List.length_append, List.length_singleton] at hus ⊢; omega
          have hE' := Lib.hid hE; have hus' := Lib.hid hus; have hun2' := Lib.hid hun2
          clear hT2 hA2 hnr hs hE hus hun2
          cases hl : lookM t.rev r with
          | none =>
            rw [show lookM (t.see r).rev r = none from hl] at k2
            have hE := hE'.out
            simp only [hl] at hE
            have HE := Lib.hid hE; clear hE hE'
            go_wp2_with fail
            have hs1 : (t.see r).obv.length ≤ 1000 := show t.obv.length ≤ 1000 by omega
            have hs2 : (t.see r).rev.length ≤ 1000 := show t.rev.length ≤ 1000 by omega
            refine wp_region_S 9 (fun w' => w'.heap[w.heap.size]? = some (.cells #[.map (some bo), .map (some br)] 62 (0, 0))) (by kernel_rfl) (by decide) ?_
            have hba : Below (w2).heap.size (w2) (w2).drew := (Below.refl _ _).drew
            obtain ⟨wa, hwa⟩ : ∃ W, (w2).drew = W := ⟨_, rfl⟩
            rw [hwa] at hba ⊢
            have hHeld : wa.heap[w.heap.size]? = some (.cells #[.map (some bo), .map (some br)] 62 (0, 0)) := heap_below (hblk2) hba (heap_lt (hblk2))
            clear hwa
            have hAa := (HA2.out).below hba
            obtain ⟨wb, wc, u1, u2, hAc, g1, g2⟩ := hAa.set hwfo hwfr (by simp only [maxLen]; exact Nat.lt_of_le_of_lt hs1 (by decide)) (by simp only [maxLen]; exact Nat.lt_of_le_of_lt hs2 (by decide))
            refine wpAnyS_take 0 (.pointer (some ⟨w.heap.size, 0, none⟩)) (by rfl) (by kernel_rfl) (by exact fun _ _ _ h => h) (by rfl) (fun w' hS => by go_simp) hHeld ?_
            simp only [Act.put]
            refine wpAnyS_take 1 (.map (some bo)) (by rfl) (by kernel_rfl) (by exact fun _ _ _ h => h) (by rfl) (fun w' hS => by (have g0 := heap_cell (i := 0) hS; go_simp)) hHeld ?_
            simp only [Act.put]
            refine wpAnyS_take 2 (.int .i64 o) (by rfl) (by kernel_rfl) (by exact fun _ _ _ h => h) (by rfl) (fun w' hS => by go_simp) hHeld ?_
            simp only [Act.put]
            refine wpAnyS_take 3 (.pointer (some ⟨w.heap.size, 1, none⟩)) (by rfl) (by kernel_rfl) (by exact fun _ _ _ h => h) (by rfl) (fun w' hS => by go_simp) hHeld ?_
            simp only [Act.put]
            refine wpAnyS_take 4 (.map (some br)) (by rfl) (by kernel_rfl) (by exact fun _ _ _ h => h) (by rfl) (fun w' hS => by (have g0 := heap_cell (i := 1) hS; go_simp)) hHeld ?_
            simp only [Act.put]
            refine wpAnyS_take 5 (.int .i64 r) (by rfl) (by kernel_rfl) (by exact fun _ _ _ h => h) (by rfl) (fun w' hS => by go_simp) hHeld ?_
            simp only [Act.put]
            refine wpAnyS_take 6 (.int .i64 r) (by rfl) (by kernel_rfl) (by exact fun _ _ _ h => h) (by rfl) (fun w' hS => by go_simp) hHeld ?_
            simp only [Act.put]
            refine wpAnyS_take 7 (.int .i64 o) (by rfl) (by kernel_rfl) (by exact fun _ _ _ h => h) (by rfl) (fun w' hS => by go_simp) hHeld ?_
            simp only [Act.put]
            refine wpAnyS_one 8 (by kernel_rfl) (by rfl) (by decide) (fun K hK => ?_)
            have HK := Lib.hid hK; clear hK
            rw [if_pos (by rfl)]
            go_simp
            refine HK.out _ _ ((g1.block _ (heap_lt hHeld) (fun e => absurd (Option.some.inj e) (by omega))).trans hHeld) ?_
            clear HK hHeld
            refine (show tailOf _ _ _ _ _ _ _ _ from ⟨by kernel_rfl, ?_⟩)
            simp only [List.drop_succ_cons, List.drop_zero]
            have HAc := Lib.hid hAc
            have Htc := Lib.hid (((touch_below hba [bo, br, bs]).trans (grown_touch g1 (by simp))).trans (grown_touch g2 (by simp)))
            clear hAc g1 g2 u1 hAa hba
            go_wp2_with fail
            go_ret
            rw [← HE.out]
            exact ⟨rfl, HAc.out, HT2w.out.trans Htc.out⟩
          | some o2 =>
            rw [show lookM (t.see r).rev r = some o2 from hl] at k2
            have hwf2 := (HA2.out.st.r.good _ (lookM_some (show lookM (t.see r).rev r = some o2 from hl))).2
            have hE := hE'.out
            simp only [hl] at hE
            have HC := Lib.hid (ih o2 (t.see r) w2 HG.out HA2.out (by have := hus'.out; omega) hwf2 (show t.obv.length + n ≤ 1000 by omega) (show t.rev.length + n ≤ 1000 by omega) hun2'.out)
            obtain ⟨bb, s2, hq⟩ : ∃ bb s2, augF (nbr g) n o2 (t.see r) = (bb, s2) := ⟨_, _, rfl⟩
            rw [hq] at HC
            simp only [hq] at hE
            have hlen := augF_len (nbr_rev hg) n o2 (t.see r)
            have hkeep : Hid (bb = false → s2.rev = t.rev ∧ s2.obv = t.obv ∧ ∀ x ∈ (t.see r).seen, x ∈ s2.seen) := Lib.hid fun e => by
              rw [e] at hq
              have h1 := augF_fail (nbr_rev hg) n o2 (t.see r) s2 hq
              exact ⟨h1.rev, h1.obv, h1.sub⟩
            have hsub := Lib.hid hlen.2.2
            have hs1 : s2.obv.length ≤ 1000 := by
              rw [hq] at hlen
              have h1 : s2.obv.length ≤ t.obv.length + n := hlen.1
              omega
            have hs2 : s2.rev.length ≤ 1000 := by
              rw [hq] at hlen
              have h1 : s2.rev.length ≤ t.rev.length + n := hlen.2.1
              omega
            rw [hq] at hsub
            clear hlen hE' hq
            have HE := Lib.hid hE; clear hE
            go_wp2_with fail
            refine HC.out.mono ?_
            rintro e w3 ⟨rfl, hA3, hT3⟩
            have hn2 := HA2.out.nocell
            have hblk3 : w3.heap[w.heap.size]? = some (.cells #[.map (some bo), .map (some br)] 62 (0, 0)) := (hT3.block _ (heap_lt hblk2) (by simp; omega)).trans hblk2
            have f0 := cell_touch hT3 hn2 d0; have f1 := cell_touch hT3 hn2 d1; have f2 := cell_touch hT3 hn2 d2
            have q0 := heap_cell (i := 0) hblk3; have q1 := heap_cell (i := 1) hblk3
            clear HC
            cases bb
            · have H1 := Lib.hid (hkeep.out rfl); clear hkeep
              have HA3 := Lib.hid hA3; have HT3 := Lib.hid hT3; clear hA3 hT3 hn2
              go_wp2_with fail
              refine ⟨?rel, ?measure⟩
              case rel => exact ⟨k + 1, s2, by omega, by go_num, HA3.out, HT2.out.trans HT3.out, HE.out, H1.out.2.1.trans e1, H1.out.1.trans e2, Nat.le_trans hsub.out hun2'.out, Nat.le_trans (unseen_mono H1.out.2.2) (Nat.le_trans (Nat.le_of_lt hus'.out) hun)⟩
              case measure => first | (simp [intOf]; done) | (simp [intOf]; omega)
            · have HA3 := Lib.hid hA3; have HT3 := Lib.hid hT3; clear hA3 hT3 hn2
              have h3w : w2.heap.size ≤ w3.heap.size := HT3.out.size
              go_wp2_with fail
              refine wp_region_S 9 (fun w' => w'.heap[w.heap.size]? = some (.cells #[.map (some bo), .map (some br)] 62 (0, 0))) (by kernel_rfl) (by decide) ?_
              have hba : Below (w3).heap.size (w3) (w3).drew := (Below.refl _ _).drew
              obtain ⟨wa, hwa⟩ : ∃ W, (w3).drew = W := ⟨_, rfl⟩
              rw [hwa] at hba ⊢
              have hHeld : wa.heap[w.heap.size]? = some (.cells #[.map (some bo), .map (some br)] 62 (0, 0)) := heap_below (hblk3) hba (heap_lt (hblk3))
              clear hwa
              have hAa := (HA3.out).below hba
              obtain ⟨wb, wc, u1, u2, hAc, g1, g2⟩ := hAa.set hwfo hwfr (by simp only [maxLen]; exact Nat.lt_of_le_of_lt hs1 (by decide)) (by simp only [maxLen]; exact Nat.lt_of_le_of_lt hs2 (by decide))
              refine wpAnyS_take 0 (.pointer (some ⟨w.heap.size, 0, none⟩)) (by rfl) (by kernel_rfl) (by exact fun _ _ _ h => h) (by rfl) (fun w' hS => by go_simp) hHeld ?_
              simp only [Act.put]
              refine wpAnyS_take 1 (.map (some bo)) (by rfl) (by kernel_rfl) (by exact fun _ _ _ h => h) (by rfl) (fun w' hS => by (have g0 := heap_cell (i := 0) hS; go_simp)) hHeld ?_
              simp only [Act.put]
              refine wpAnyS_take 2 (.int .i64 o) (by rfl) (by kernel_rfl) (by exact fun _ _ _ h => h) (by rfl) (fun w' hS => by go_simp) hHeld ?_
              simp only [Act.put]
              refine wpAnyS_take 3 (.pointer (some ⟨w.heap.size, 1, none⟩)) (by rfl) (by kernel_rfl) (by exact fun _ _ _ h => h) (by rfl) (fun w' hS => by go_simp) hHeld ?_
              simp only [Act.put]
              refine wpAnyS_take 4 (.map (some br)) (by rfl) (by kernel_rfl) (by exact fun _ _ _ h => h) (by rfl) (fun w' hS => by (have g0 := heap_cell (i := 1) hS; go_simp)) hHeld ?_
              simp only [Act.put]
              refine wpAnyS_take 5 (.int .i64 r) (by rfl) (by kernel_rfl) (by exact fun _ _ _ h => h) (by rfl) (fun w' hS => by go_simp) hHeld ?_
              simp only [Act.put]
              refine wpAnyS_take 6 (.int .i64 r) (by rfl) (by kernel_rfl) (by exact fun _ _ _ h => h) (by rfl) (fun w' hS => by go_simp) hHeld ?_
              simp only [Act.put]
              refine wpAnyS_take 7 (.int .i64 o) (by rfl) (by kernel_rfl) (by exact fun _ _ _ h => h) (by rfl) (fun w' hS => by go_simp) hHeld ?_
              simp only [Act.put]
              refine wpAnyS_one 8 (by kernel_rfl) (by rfl) (by decide) (fun K hK => ?_)
              have HK := Lib.hid hK; clear hK
              rw [if_pos (by rfl)]
              go_simp
              refine HK.out _ _ ((g1.block _ (heap_lt hHeld) (fun e => absurd (Option.some.inj e) (by omega))).trans hHeld) ?_
              clear HK hHeld
              refine (show tailOf _ _ _ _ _ _ _ _ from ⟨by kernel_rfl, ?_⟩)
              simp only [List.drop_succ_cons, List.drop_zero]
              have HAc := Lib.hid hAc
              have Htc := Lib.hid (((touch_below hba [bo, br, bs]).trans (grown_touch g1 (by simp))).trans (grown_touch g2 (by simp)))
              clear hAc g1 g2 u1 hAa hba
              go_wp2_with fail
              go_ret
              rw [← HE.out]
              exact ⟨rfl, HAc.out, (HT2w.out.trans HT3.out).trans Htc.out⟩
      · have hd : (nbr g o).drop k = [] := List.drop_eq_nil_of_le (by omega)
        rw [hd, augL] at hE
        subst hE
        go_wp2_with fail
        go_ret
        exact ⟨rfl, hAt, hTw⟩
end Go.Proofs.Ytnaoiochfdipiaa
