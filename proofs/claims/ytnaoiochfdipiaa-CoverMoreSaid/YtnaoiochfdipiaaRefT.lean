/- The reference's try. Condition: the arguments' graph and slices. -/
import Derived.Test.YtnaoiochfdipiaaRefK
import Derived.Test.YtnaoiochfdipiaaTail
namespace Go.Proofs.Ytnaoiochfdipiaa
open Go.RowKit Go.Shelf Go.Maps

/-- What the reference's two slices say. -/
structure TryAt (g : Graph) (P : List Int) (S : List Bool) (s : St) : Prop where
  lp : P.length = g.rev.length
  ls : S.length = g.rev.length
  sn : ∀ (j : Nat) (r : Int), g.rev[j]? = some r → S[j]? = some (decide (r ∈ s.seen))
  no : ∀ (j : Nat) (r : Int), g.rev[j]? = some r → lookM s.rev r = none → P[j]? = some (-1)
  yes : ∀ (j : Nat) (r o : Int), g.rev[j]? = some r → lookM s.rev r = some o → ∃ i : Nat, P[j]? = some (i : Int) ∧ g.obv[i]? = some o
theorem rev_nodup {g : Graph} (hg : graphB g = true) : g.rev.Pairwise (· < ·) := ascB_asc ((graphB_iff g).1 hg).ar
theorem get_inj {l : List Int} (h : l.Pairwise (· < ·)) {i j : Nat} {x y : Int} (hi : l[i]? = some x) (hj : l[j]? = some y) (hn : i ≠ j) : x ≠ y := by
  obtain ⟨l1, e1⟩ := List.getElem?_eq_some_iff.1 hi
  obtain ⟨l2, e2⟩ := List.getElem?_eq_some_iff.1 hj
  rw [List.pairwise_iff_getElem] at h
  rcases Nat.lt_or_gt_of_ne hn with hlt | hlt
  · have := h i j l1 l2 hlt; omega
  · have := h j i l2 l1 hlt; omega
section
variable {g : Graph} {P : List Int} {S : List Bool} {s : St} {i j : Nat} {o r : Int}
theorem TryAt.see (hg : graphB g = true) (h : TryAt g P S s) (hr : g.rev[j]? = some r) : TryAt g P (S.set j true) (s.see r) where
  lp := h.lp
  ls := by rw [List.length_set]; exact h.ls
  sn k x hx := by
    by_cases e : j = k
    · subst e
      rw [hr] at hx; cases hx
      rw [List.getElem?_set_self (by rw [h.ls]; exact lt_of_get hr)]
      simp [St.see]
    · rw [List.getElem?_set_ne e, h.sn k x hx]
      have := get_inj (rev_nodup hg) hr hx e
      simp [St.see, this.symm]
  no := h.no
  yes := h.yes
theorem TryAt.set (hg : graphB g = true) (h : TryAt g P S s) (hr : g.rev[j]? = some r) (ho : g.obv[i]? = some o) : TryAt g (P.set j (i : Int)) S (s.set o r) where
  lp := by rw [List.length_set]; exact h.lp
  ls := h.ls
  sn := h.sn
  no k x hx hl := by
    by_cases e : j = k
    · subst e
      rw [hr] at hx; cases hx
      simp [St.set, lookM_putM] at hl
    · have := get_inj (rev_nodup hg) hr hx e
      rw [List.getElem?_set_ne e]
      refine h.no k x hx ?_
      simpa [St.set, lookM_putM, this] using hl
  yes k x o' hx hl := by
    by_cases e : j = k
    · subst e
      rw [hr] at hx; cases hx
      simp only [St.set, lookM_putM, if_pos] at hl
      cases hl
      exact ⟨i, List.getElem?_set_self (by rw [h.lp]; exact lt_of_get hr), ho⟩
    · have := get_inj (rev_nodup hg) hr hx e
      rw [List.getElem?_set_ne e]
      refine h.yes k x o' hx ?_
      simpa [St.set, lookM_putM, this] using hl
end
/-- The partners of an obverse, as the reference goes through them. -/
theorem nbr_filter {g : Graph} (hg : graphB g = true) (o : Int) : nbr g o = g.rev.filter fun r => linkB g o r := by
  have h1 : (nbr g o).Pairwise (· < ·) := by unfold nbr partG; rw [if_pos hg]; exact withs_asc _
  refine asc_unique (fun n : Int => n) h1 ((rev_nodup hg).filter _) fun n => ?_
  rw [nbr_mem hg, List.mem_filter, linkB_iff]
  refine ⟨fun h => ⟨?_, h⟩, fun h => h.2⟩
  obtain ⟨x, hx, _, rfl⟩ := h
  exact (graphB_ends hg).2 x hx
/-- The reference's two slices in their blocks. -/
structure TryMem (w : World) (bp bs : Nat) (P : List Int) (S : List Bool) : Prop where
  p : w.heap[bp]? = some (.cells (P.map (Value.int .i64)).toArray 3 (0, 0))
  s : w.heap[bs]? = some (.cells (S.map Value.bool).toArray 4 (0, 0))
  ne : bp ≠ bs
section
variable {w w' : World} {bp bs : Nat} {P : List Int} {S : List Bool}
theorem TryMem.below (h : TryMem w bp bs P S) (hb : Below w.heap.size w w') : TryMem w' bp bs P S := ⟨heap_below h.p hb (heap_lt h.p), heap_below h.s hb (heap_lt h.s), h.ne⟩
theorem TryMem.cp (h : TryMem w bp bs P S) {j : Nat} {x : Int} (hx : P[j]? = some x) : w.cell? ⟨bp, j, none⟩ = some (.int .i64 x) ∧ w.frozen? ⟨bp, j, none⟩ = false := ⟨by rw [heap_cell h.p]; simp [hx], heap_free h.p⟩
theorem TryMem.cs (h : TryMem w bp bs P S) {j : Nat} {x : Bool} (hx : S[j]? = some x) : w.cell? ⟨bs, j, none⟩ = some (.bool x) ∧ w.frozen? ⟨bs, j, none⟩ = false := ⟨by rw [heap_cell h.s]; simp [hx], heap_free h.s⟩
theorem TryMem.setS (h : TryMem w bp bs P S) (j : Nat) : TryMem (w.setCell ⟨bs, j, none⟩ (.bool true)) bp bs P (S.set j true) := by
  refine ⟨?_, ?_, h.ne⟩
  · exact ((setCells_grown bs [.bool true] w j).block bp (heap_lt h.p) (fun e => h.ne (Option.some.inj e))).trans h.p
  · have := heap_setCell_same w bs j _ _ (.bool true) h.s
    rw [this]; simp
theorem TryMem.setP (h : TryMem w bp bs P S) (j : Nat) (x : Int) : TryMem (w.setCell ⟨bp, j, none⟩ (.int .i64 x)) bp bs (P.set j x) S := by
  refine ⟨?_, ?_, h.ne⟩
  · have := heap_setCell_same w bp j _ _ (.int .i64 x) h.p
    rw [this]; simp
  · exact ((setCells_grown bp [.int .i64 x] w j).block bs (heap_lt h.s) (fun e => h.ne (Option.some.inj e).symm)).trans h.s
theorem touch_set {a : Addr} {x : Value} {S : List Nat} (ha : a.spot = none) (hS : a.block ∈ S) : Touch w (w.setCell a x) S := by
  obtain ⟨b, o, p⟩ := a
  simp only at ha hS
  subst ha
  exact grown_touch (setCells_grown b [x] w o) hS
theorem cell_off {S : List Nat} (h : Touch w w' S) {a : Addr} {v : Value} (ha : a.block ∉ S) (hc : w.cell? a = some v) : w'.cell? a = some v := by
  have hlt : a.block < w.heap.size := by
    unfold World.cell? at hc
    split at hc
    · exact (Array.getElem?_eq_some_iff.1 (by assumption)).1
    · cases hc
  rw [World.cell?_of_block (h.block a.block hlt ha)]
  exact hc
end
set_option maxHeartbeats 8000000 in
set_option maxRecDepth 100000 in
theorem try_ok (g : Graph) (hg : graphB g = true) (w0 : World) (v : Value) (h : GraphAt w0 v g) (bp bs cp cs : Nat) (_ : (cp : Int) ≤ 9223372036854775807) (_ : (cs : Int) ≤ 9223372036854775807) (_ : g.rev.length ≤ cp) (_ : g.rev.length ≤ cs) (h1 : w0.heap.size ≤ bp) (h2 : w0.heap.size ≤ bs) (n : Nat) : ∀ (i : Nat) (o : Int) (P : List Int) (S : List Bool) (s : St) (w : World), g.obv[i]? = some o → Below w0.heap.size w0 w → TryMem w bp bs P S → TryAt g P S s → unseen g.rev s < n →
    Calls Try.prog 44 #[v, .int .i64 i, .slice (some ⟨bp, 0, none⟩) g.rev.length cp, .slice (some ⟨bs, 0, none⟩) g.rev.length cs] w fun e w' => e = .returned (.bool (augF (nbr g) n o s).1) ∧ (∃ P' S', TryMem w' bp bs P' S' ∧ TryAt g P' S' (augF (nbr g) n o s).2) ∧ Touch w w' [bp, bs] := by
  obtain ⟨v1, v2, v3, rfl, ho, hr, hl⟩ := id h
  obtain ⟨A1, c1, rfl, _, _, hco⟩ := ho.cells
  obtain ⟨A2, c2, rfl, _, _, hcr⟩ := hr.cells
  obtain ⟨A3, c3, rfl, _, _, _⟩ := hl.cells
  have hok := (graphB_iff g).1 hg
  have hlo := hok.lo; have hlr := hok.lr
  clear hok ho hr hl
  induction n with
  | zero => intro i o P S s w _ _ _ _ h; exact absurd h (by omega)
  | succ n ih =>
    intro i o P S s w hio hw0 hM hT hu
    obtain ⟨R, hR⟩ : ∃ R, augF (nbr g) (n + 1) o s = R := ⟨_, rfl⟩
    rw [hR]
    have hE0 : augL (augF (nbr g) n) o ((g.rev.drop 0).filter fun r => linkB g o r) s = R := by rw [List.drop_zero, ← nbr_filter hg]; exact hR
    have hil := lt_of_get hio
    have HE0 := Lib.hid hE0
    clear hR hE0
    obtain ⟨W, hW, Hz, hwW, hlt0, hc0⟩ := boxed w #[.slice A1 g.obv.length c1, .slice A2 g.rev.length c2, .slice A3 g.links.length c3] 25
    have a0' := hc0 0 _ rfl; have a1' := hc0 1 _ rfl; have a2' := hc0 2 _ rfl
    clear hc0
    have hbp := heap_lt hM.p; have hbs := heap_lt hM.s
    have hne : Hid (w.heap.size ∉ [bp, bs]) := Lib.hid (by simp; omega)
    have HIO := Lib.hid hio; have Hu := Lib.hid hu
    have HM1 := Lib.hid (hM.below hwW)
    have HT0 := Lib.hid hT
    clear hio hu hM hT
    go_enter Try.func44, Try.ntmps44
    go_wp2_with fail
    clear hW
    go_loopw [9] (fun jv wr => ∃ (j : Nat) (P : List Int) (S : List Bool) (t : St), j ≤ g.rev.length ∧ jv = .int .i64 j ∧ Hid (TryMem wr bp bs P S ∧ TryAt g P S t ∧ augL (augF (nbr g) n) o ((g.rev.drop j).filter fun r => linkB g o r) t = R ∧ unseen g.rev t ≤ unseen g.rev s) ∧ Touch W wr [bp, bs]) (fun jv _ => g.rev.length - (intOf jv).toNat)
    case atStart => exact ⟨0, P, S, s, Nat.zero_le _, rfl, ⟨HM1.out, HT0.out, HE0.out, Nat.le_refl _⟩, Touch.refl _ _⟩
    case round =>
      obtain ⟨j, P, S, t, hj, rfl, Hr, hTr⟩ := hrel
      have a0 := cell_off hTr hne.out a0'; have a1 := cell_off hTr hne.out a1'; have a2 := cell_off hTr hne.out a2'
      have hTw := (touch_below hwW [bp, bs]).trans hTr
      have hwr0 : Below w0.heap.size w0 wr := hw0.trans (hTw.below (by simp; omega) hw0.size)
      by_cases hlt : j < g.rev.length
      · obtain ⟨br, or, rfl, _, hcb⟩ := hcr j hlt
        obtain ⟨r, hr⟩ := get_of_lt hlt
        obtain ⟨bo, oo, rfl, _, hcc⟩ := hco i hil
        have e0 := hcb wr hwr0 j r hr
        have e1 := hcc wr hwr0 i o HIO.out
        obtain ⟨hM, hT, hE, hun⟩ := Hr.out
        have hS := hT.sn j r hr
        obtain ⟨s0, s1⟩ := hM.cs hS
        rw [drop_at hr, List.filter_cons] at hE
        have hl1 : (j : Int) < (g.rev.length : Int) := by omega
        have hl0 : (0 : Int) ≤ (j : Int) := by omega
        have hi1 : (i : Int) < (g.obv.length : Int) := by omega
        have hi0 : (0 : Int) ≤ (i : Int) := by omega
        have HL := Lib.hid (fun y : Later wr => Linked_ok g (.agg #[.slice (some ⟨bo, oo, none⟩) g.obv.length c1, .slice (some ⟨br, or, none⟩) g.rev.length c2, .slice A3 g.links.length c3]) o r y.to (h.below (hwr0.trans (y.h.mono hwr0.size))))
        have m0 := Later.cell_all a0; have m1 := Later.cell_all a1; have m2 := Later.cell_all a2
        have n0 := Later.cell_all e0; have n1 := Later.cell_all e1
        have q0 := Later.cell_all s0
        have Hrg := Lib.hid hr
        by_cases hs : r ∈ t.seen
        · rw [decide_eq_true hs] at q0
          have Hnx : Hid (TryMem wr bp bs P S ∧ TryAt g P S t ∧ augL (augF (nbr g) n) o ((g.rev.drop (j + 1)).filter fun r => linkB g o r) t = R ∧ unseen g.rev t ≤ unseen g.rev s) := Lib.hid ⟨hM, hT, by
            by_cases hk : linkB g o r = true
            · rw [if_pos hk, augL, if_pos hs] at hE; exact hE
            · rw [if_neg hk] at hE; exact hE, hun⟩
          clear hE hM hT hs hr hS hcb hcc s0 s1 e0 e1
          go_wp2_with fail
          refine wp_region_later (by kernel_rfl) (by kernel_rfl) ?_
          repeat (go_big_quiet_step (first | (go_at_call 43; with_reducible exact calls_later (HL.out _))))
          refine wpQuiet_nil ?_
          intro _ hw'
          obtain ⟨xq, hw''⟩ := hw'
          subst hw''
          have hba := xq.h
          generalize xq.to = wa at hba ⊢
          go_wp2_with fail
          refine ⟨?rel, ?measure⟩
          case rel => exact ⟨j + 1, P, S, t, by omega, by go_num, ⟨Hnx.out.1.below hba, Hnx.out.2⟩, hTr.trans (touch_below hba _)⟩
          case measure => first | (simp [intOf]; done) | (simp [intOf]; omega)
        rw [decide_eq_false hs] at q0 s0
        cases hk : linkB g o r
        · rw [hk] at HL
          have Hnx : Hid (TryMem wr bp bs P S ∧ TryAt g P S t ∧ augL (augF (nbr g) n) o ((g.rev.drop (j + 1)).filter fun r => linkB g o r) t = R ∧ unseen g.rev t ≤ unseen g.rev s) := Lib.hid ⟨hM, hT, by
            rw [hk, if_neg (by simp)] at hE; exact hE, hun⟩
          clear hE hM hT hs hr hS hcb hcc s0 s1 e0 e1 hk
          go_wp2_with fail
          refine wp_region_later (by kernel_rfl) (by kernel_rfl) ?_
          repeat (go_big_quiet_step (first | (go_at_call 43; with_reducible exact calls_later (HL.out _))))
          refine wpQuiet_nil ?_
          intro _ hw'
          obtain ⟨xq, hw''⟩ := hw'
          subst hw''
          have hba := xq.h
          generalize xq.to = wa at hba ⊢
          go_wp2_with fail
          refine ⟨?rel, ?measure⟩
          case rel => exact ⟨j + 1, P, S, t, by omega, by go_num, ⟨Hnx.out.1.below hba, Hnx.out.2⟩, hTr.trans (touch_below hba _)⟩
          case measure => first | (simp [intOf]; done) | (simp [intOf]; omega)
        rw [hk] at HL
        rw [hk, if_pos rfl, augL, if_neg hs] at hE
        have HE := Lib.hid hE
        have HMr := Lib.hid hM; have HTr := Lib.hid hT
        have hus := unseen_see (R := g.rev) (s := t) (List.mem_of_getElem? hr) hs
        have Hus := Lib.hid hus
        clear hE hM hT hs hS hcb hcc hr hk hus
        go_wp2_with fail
        refine wp_region_later (by kernel_rfl) (by kernel_rfl) ?_
        repeat (go_big_quiet_step (first | (go_at_call 43; with_reducible exact calls_later (HL.out _))))
        refine wpQuiet_nil ?_
        intro _ hw'
        obtain ⟨xq, hw''⟩ := hw'
        subst hw''
        have hba := xq.h
        generalize xq.to = wa at hba ⊢
        have hMa := HMr.out.below hba
        obtain ⟨s0', s1'⟩ := hMa.cs (HTr.out.sn j r Hrg.out)
        obtain ⟨w2, hw2⟩ : ∃ z, wa.setCell ⟨bs, j, none⟩ (.bool true) = z := ⟨_, rfl⟩
        have hM2 : TryMem w2 bp bs P (S.set j true) := by rw [← hw2]; exact hMa.setS j
        have hT2 := HTr.out.see hg Hrg.out
        have hTa : Touch wr w2 [bp, bs] := by rw [← hw2]; exact (touch_below hba _).trans (touch_set rfl (by simp))
        have hTw2 := hTr.trans hTa
        have b0 := cell_off hTw2 hne.out a0'; have b1 := cell_off hTw2 hne.out a1'; have b2 := cell_off hTw2 hne.out a2'
        have HM2 := Lib.hid hM2; have HT2 := Lib.hid hT2
        have hw20 : Below w0.heap.size w0 w2 := hwr0.trans (hTa.below (by simp; omega) hwr0.size)
        clear m0 m1 m2 n0 n1 q0 s0 s1 e0 e1 a0 a1 a2 HL hMa hM2 hT2
        cases hlk : lookM t.rev r with
        | none =>
          have hP := HT2.out.no j r Hrg.out hlk
          obtain ⟨p0, p1⟩ := HM2.out.cp hP
          have P0 := Later.cell_all p0
          have hE := HE.out
          simp only [hlk] at hE
          have HR := Lib.hid hE
          have HP := Lib.hid hP
          clear hE hlk hP
          go_wp2_with fail
          try rw [hw2]
          clear hw2
          refine wp_region_later (by kernel_rfl) (by kernel_rfl) ?_
          repeat (go_big_quiet_step (first | fail))
          refine wpQuiet_nil ?_
          intro _ hw'
          obtain ⟨xq, hw''⟩ := hw'
          subst hw''
          have hbb := xq.h
          generalize xq.to = wb at hbb ⊢
          have hM3 := HM2.out.below hbb
          obtain ⟨p0', p1'⟩ := hM3.cp HP.out
          clear p0 p1 P0 b0 b1 b2
          go_wp2_with fail
          go_ret
          rw [← HR.out]
          exact ⟨rfl, ⟨_, _, hM3.setP j i, HT2.out.set hg Hrg.out HIO.out⟩, hTw.trans (hTa.trans ((touch_below hbb _).trans (touch_set rfl (by simp))))⟩
        | some o2 =>
          obtain ⟨i2, hP, hi2⟩ := HT2.out.yes j r o2 Hrg.out hlk
          obtain ⟨p0, p1⟩ := HM2.out.cp hP
          have hE := HE.out
          simp only [hlk] at hE
          obtain ⟨bb, s2, hq⟩ : ∃ bb s2, augF (nbr g) n o2 (t.see r) = (bb, s2) := ⟨_, _, rfl⟩
          simp only [hq] at hE
          have HC := Lib.hid (fun W' (hb : Below w2.heap.size w2 W') => ih i2 o2 P (S.set j true) (t.see r) W' hi2 (hw20.trans (hb.mono hw20.size)) (HM2.out.below hb) HT2.out (by have := Hus.out; have := Hu.out; omega))
          rw [hq] at HC
          have hkeep : Hid (bb = false → unseen g.rev s2 ≤ unseen g.rev (t.see r)) := Lib.hid fun e => by
            rw [e] at hq
            exact unseen_mono (augF_fail (nbr_rev hg) n o2 (t.see r) s2 hq).sub
          have HR := Lib.hid hE
          have d0 : decide (((i2 : Nat) : Int) < 0) = false := by simp
          clear hE hlk hP hi2 hq ih
          go_wp2_with fail
          try rw [hw2]
          clear hw2
          have hba2 : Below w2.heap.size w2 w2.drew := (Below.refl _ _).drew
          obtain ⟨wb, hwb⟩ : ∃ W, w2.drew = W := ⟨_, rfl⟩
          rw [hwb] at hba2
          have Fc := Lib.hid (fun (w' : World) (hS : Below wb.heap.size wb w') => (⟨cell_later hS (cell_later hba2 b0), cell_later hS (cell_later hba2 b1), cell_later hS (cell_later hba2 b2), cell_later hS (cell_later hba2 p0)⟩ :
            w'.cell? ⟨w.heap.size, 0, none⟩ = some (.slice (some ⟨bo, oo, none⟩) g.obv.length c1) ∧ w'.cell? ⟨w.heap.size, 1, none⟩ = some (.slice (some ⟨br, or, none⟩) g.rev.length c2) ∧ w'.cell? ⟨w.heap.size, 2, none⟩ = some (.slice A3 g.links.length c3) ∧ w'.cell? ⟨bp, j, none⟩ = some (.int .i64 i2)))
          have hHeld : Below wb.heap.size wb wb := Below.refl _ _
          refine wp_region_S 13 (fun w' => Below wb.heap.size wb w') (by kernel_rfl) (by decide) ?_
          rw [hwb]
          clear b0 b1 b2 p0 p1 hwb
          refine wpAnyS_takeD 0 (some 39) (.slice (some ⟨bp, 0, none⟩) g.rev.length cp) (by rfl) (by rfl) (by kernel_rfl) (by exact fun _ _ _ h => h) (by rfl) (fun w' hS => by go_simp) hHeld ?_
          simp only [Act.put, List.setIfInBounds_toArray, List.set_cons_succ, List.set_cons_zero]
          refine wpAnyS_takeD 1 (some 40) (.int .i64 j) (by rfl) (by rfl) (by kernel_rfl) (by exact fun _ _ _ h => h) (by rfl) (fun w' hS => by go_simp) hHeld ?_
          simp only [Act.put, List.setIfInBounds_toArray, List.set_cons_succ, List.set_cons_zero]
          refine wpAnyS_takeD 2 (some 41) (.pointer (some ⟨bp, j, none⟩)) (by rfl) (by rfl) (by kernel_rfl) (by exact fun _ _ _ h => h) (by rfl) (fun w' hS => by go_simp) hHeld ?_
          simp only [Act.put, List.setIfInBounds_toArray, List.set_cons_succ, List.set_cons_zero]
          refine wpAnyS_takeD 3 (some 42) (.int .i64 i2) (by rfl) (by rfl) (by kernel_rfl) (by exact fun _ _ _ h => h) (by rfl) (fun w' hS => by (obtain ⟨x0, x1, x2, x3⟩ := Fc.out w' hS; go_simp)) hHeld ?_
          simp only [Act.put, List.setIfInBounds_toArray, List.set_cons_succ, List.set_cons_zero]
          refine wpAnyS_takeD 4 (some 43) (.bool false) (by rfl) (by rfl) (by kernel_rfl) (by exact fun _ _ _ h => h) (by rfl) (fun w' hS => by go_simp) hHeld ?_
          simp only [Act.put, List.setIfInBounds_toArray, List.set_cons_succ, List.set_cons_zero]
          refine wpAnyS_takeD 5 (some 44) (.bool false) (by rfl) (by rfl) (by kernel_rfl) (by exact fun _ _ _ h => h) (by rfl) (fun w' hS => by go_simp) hHeld ?_
          simp only [Act.put, List.setIfInBounds_toArray, List.set_cons_succ, List.set_cons_zero]
          refine wpAnyS_takeG 6 (some 45) (.agg #[.slice (some ⟨bo, oo, none⟩) g.obv.length c1, .slice (some ⟨br, or, none⟩) g.rev.length c2, .slice A3 g.links.length c3]) (by rfl) (by rfl) (by kernel_rfl) (by exact fun _ _ _ h => h) (by rfl) (fun w' hS => by (obtain ⟨x0, x1, x2, x3⟩ := Fc.out w' hS; go_simp)) hHeld ?_
          simp only [Act.put, List.setIfInBounds_toArray, List.set_cons_succ, List.set_cons_zero]
          refine wpAnyS_takeG 7 (some 46) (.slice (some ⟨bp, 0, none⟩) g.rev.length cp) (by rfl) (by rfl) (by kernel_rfl) (by exact fun _ _ _ h => h) (by rfl) (fun w' hS => by go_simp) hHeld ?_
          simp only [Act.put, List.setIfInBounds_toArray, List.set_cons_succ, List.set_cons_zero]
          refine wpAnyS_takeG 8 (some 47) (.int .i64 j) (by rfl) (by rfl) (by kernel_rfl) (by exact fun _ _ _ h => h) (by rfl) (fun w' hS => by go_simp) hHeld ?_
          simp only [Act.put, List.setIfInBounds_toArray, List.set_cons_succ, List.set_cons_zero]
          refine wpAnyS_takeG 9 (some 48) (.pointer (some ⟨bp, j, none⟩)) (by rfl) (by rfl) (by kernel_rfl) (by exact fun _ _ _ h => h) (by rfl) (fun w' hS => by go_simp) hHeld ?_
          simp only [Act.put, List.setIfInBounds_toArray, List.set_cons_succ, List.set_cons_zero]
          refine wpAnyS_takeG 10 (some 49) (.int .i64 i2) (by rfl) (by rfl) (by kernel_rfl) (by exact fun _ _ _ h => h) (by rfl) (fun w' hS => by (obtain ⟨x0, x1, x2, x3⟩ := Fc.out w' hS; go_simp)) hHeld ?_
          simp only [Act.put, List.setIfInBounds_toArray, List.set_cons_succ, List.set_cons_zero]
          refine wpAnyS_takeG 11 (some 50) (.slice (some ⟨bp, 0, none⟩) g.rev.length cp) (by rfl) (by rfl) (by kernel_rfl) (by exact fun _ _ _ h => h) (by rfl) (fun w' hS => by go_simp) hHeld ?_
          simp only [Act.put, List.setIfInBounds_toArray, List.set_cons_succ, List.set_cons_zero]
          refine wpAnyS_takeG 12 (some 51) (.slice (some ⟨bs, 0, none⟩) g.rev.length cs) (by rfl) (by rfl) (by kernel_rfl) (by exact fun _ _ _ h => h) (by rfl) (fun w' hS => by go_simp) hHeld ?_
          simp only [Act.put, List.setIfInBounds_toArray, List.set_cons_succ, List.set_cons_zero]
          clear hHeld
          refine (show tailOf _ _ _ _ _ _ _ _ from ⟨by kernel_rfl, ?_⟩)
          simp only [List.drop_succ_cons, List.drop_zero]
          clear Fc
          go_wp2_with fail
          refine (HC.out _ hba2).mono ?_
          rintro e w3 ⟨rfl, ⟨P', S', hM3, hT3⟩, hTc⟩
          obtain ⟨x, hx⟩ := get_of_lt (show j < P'.length by rw [hT3.lp]; exact hlt)
          obtain ⟨p0, p1⟩ := hM3.cp hx
          have HM3 := Lib.hid hM3; have HT3 := Lib.hid hT3
          have HTc := Lib.hid (hTw2.trans ((touch_below hba2 [bp, bs]).trans hTc))
          clear HC hx hM3 hT3 hTc
          cases bb
          · have HK := Lib.hid (hkeep.out rfl)
            have HR := HR.out
            simp only at HR
            have HR' := Lib.hid HR
            clear HR hkeep
            go_wp2_with fail
            refine ⟨?rel, ?measure⟩
            case rel => exact ⟨j + 1, P', S', s2, by omega, by go_num, ⟨HM3.out, HT3.out, HR'.out, Nat.le_trans HK.out (by have := Hus.out; have := Hr.out.2.2.2; omega)⟩, HTc.out⟩
            case measure => first | (simp [intOf]; done) | (simp [intOf]; omega)
          · have HR := HR.out
            simp only at HR
            have HR' := Lib.hid HR
            clear HR hkeep
            go_wp2_with fail
            go_ret
            rw [← HR'.out]
            exact ⟨rfl, ⟨_, _, HM3.out.setP j i, HT3.out.set hg Hrg.out HIO.out⟩, (touch_below hwW [bp, bs]).trans (HTc.out.trans (touch_set rfl (by simp)))⟩
      · have hd : g.rev.drop j = [] := List.drop_eq_nil_of_le (by omega)
        obtain ⟨hM, hT, hE, hun⟩ := Hr.out
        rw [hd, List.filter_nil, augL] at hE
        have HR := Lib.hid hE
        have HM := Lib.hid hM; have HT := Lib.hid hT
        clear hd hM hT hE hun
        go_wp2_with fail
        go_ret
        rw [← HR.out]
        exact ⟨rfl, ⟨_, _, HM.out, HT.out⟩, hTw⟩
end Go.Proofs.Ytnaoiochfdipiaa
