/- cover.more, greatest, Matching, Size. Condition: the argument reads as a graph of wellformed numbers. -/
import Derived.Test.YtnaoiochfdipiaaCovB
import Derived.Test.YtnaoiochfdipiaaCovD
namespace Go.Proofs.Ytnaoiochfdipiaa
open Go.RowKit Go.Shelf Go.Maps

theorem Touch.fresh {w w' w'' : World} {S S' : List Nat} (h : Touch w w' S) (k : Touch w' w'' S') (hS : ∀ b ∈ S', b ∈ S ∨ w.heap.size ≤ b) : Touch w w'' S :=
  ⟨k.os.trans h.os, k.tape.trans h.tape, k.output.trans h.output, Nat.le_trans h.size k.size, fun i hi hn => (k.block i (Nat.lt_of_lt_of_le hi h.size) fun hm => by rcases hS i hm with h1 | h1; exact hn h1; omega).trans (h.block i hi hn)⟩
theorem StAt.nocell {w : World} {bo br : Nat} {s : St} (h : StAt w bo br s) : NoCell w [bo, br] := by
  intro c hc o p
  simp only [List.mem_cons, List.not_mem_nil, or_false] at hc
  rcases hc with rfl | rfl
  · exact h.o.nocell _ (by simp) o p
  · exact h.r.nocell _ (by simp) o p
def mapLen (w : World) (b : Nat) : Nat := match w.heap[b]? with | some (.map es _) => es.size | _ => 0
theorem mapLen_of {w : World} {b : Nat} {m : List (Int × Int)} (h : MapII w b m) : mapLen w b = m.length := by
  obtain ⟨⟨D, ⟨es, clock, hb, _, _, rfl⟩, _, hs, _⟩, _, _⟩ := h
  simp only [Maps.size, length_sorted] at hs
  simp only [mapLen, hb]
  simpa using hs
/-- The numbers of a graph are numbers of the machine. -/
structure WfG (g : Graph) : Prop where
  o : ∀ x ∈ g.obv, wfI x
  r : ∀ x ∈ g.rev, wfI x

set_option maxHeartbeats 8000000 in
set_option maxRecDepth 100000 in
theorem more_ok (g : Graph) (hg : graphB g = true) (hwf : WfG g) (v : Value) (bo br : Nat) (s : St) (w : World) (h : GraphAt w v g) (hS : StAt w bo br s) (l1 : s.obv.length ≤ 100) (l2 : s.rev.length ≤ 100) :
    Calls Try.prog 41 #[.agg #[.map (some bo), .map (some br)], v] w fun e w' => e = .returned (.bool (moreL (nbr g) (g.rev.length + 1) g.obv s).1) ∧ StAt w' bo br (moreL (nbr g) (g.rev.length + 1) g.obv s).2 ∧ Touch w w' [bo, br] := by
  obtain ⟨R, hR⟩ : ∃ R, moreL (nbr g) (g.rev.length + 1) g.obv s = R := ⟨_, rfl⟩
  rw [hR]
  have hok := (graphB_iff g).1 hg
  have hlr := hok.lr
  have Hok := Lib.hid hok; clear hok
  have h0 := h
  obtain ⟨v1, v2, v3, rfl, ho, hr, hl⟩ := h
  obtain ⟨A1, c1, rfl, _, _, hc⟩ := ho.cells
  obtain ⟨A2, c2, rfl, _, _, _⟩ := hr.cells
  obtain ⟨A3, c3, rfl, _, _, _⟩ := hl.cells
  obtain ⟨W0, hW0, Hz0, hb0, hlt0, hc0⟩ := boxed w #[.map (some bo), .map (some br)] 62
  obtain ⟨W, hW, Hz, hb1, hlt1, hc1⟩ := boxed W0 #[.slice A1 g.obv.length c1, .slice A2 g.rev.length c2, .slice A3 g.links.length c3] 25
  have hwW := below_trans hb0 hb1
  have m0' := cell_later hb1 (hc0 0 _ rfl); have m1' := cell_later hb1 (hc0 1 _ rfl)
  have a0' := hc1 0 _ rfl; have a1' := hc1 1 _ rfl; have a2' := hc1 2 _ rfl
  clear hc0 hc1 ho hr hl
  have hbo := hS.o.lt
  have hbr := hS.r.lt
  have hS1 := hS.below hwW
  have hno := hS1.nocell
  have hmm := @run_makeMap Try.prog
  go_enter Try.func41, Try.ntmps41
  go_wp2_with fail
  go_loopw [12] (fun i wr => ∃ (k : Nat) (t : St), k ≤ g.obv.length ∧ i = .int .i64 k ∧ StAt wr bo br t ∧ Touch W wr [bo, br] ∧ moreL (nbr g) (g.rev.length + 1) (g.obv.drop k) t = R ∧ t.obv = s.obv ∧ t.rev = s.rev) (fun i _ => g.obv.length - (intOf i).toNat)
  case atStart => exact ⟨0, s, Nat.zero_le _, rfl, hS1, Touch.refl _ _, hR, rfl, rfl⟩
  case round =>
    obtain ⟨k, t, hk, rfl, hSt, hT, hE, e1, e2⟩ := hrel
    have ht1 : t.obv.length ≤ 100 := by rw [e1]; exact l1
    have ht2 : t.rev.length ≤ 100 := by rw [e2]; exact l2
    have hTw := (touch_below hwW [bo, br]).trans hT
    have m0 := cell_touch hT hno m0'; have m1 := cell_touch hT hno m1'
    have a0 := cell_touch hT hno a0'; have a1 := cell_touch hT hno a1'; have a2 := cell_touch hT hno a2'
    by_cases hlt : k < g.obv.length
    · obtain ⟨b, of', rfl, _, hcb⟩ := hc k hlt
      obtain ⟨o, ho⟩ := get_of_lt hlt
      have hc0 := cell_touch hTw hS.nocell (hcb w (Below.refl _ _) k o ho)
      have hwfo := hwf.o o (List.mem_of_getElem? ho)
      rw [drop_at ho, moreL] at hE
      clear hc hcb ho
      have k1 := hSt.o.look_ok hwfo
      cases hl : lookM t.obv o with
      | some x =>
        rw [hl] at k1
        rw [hl, if_pos (show (some x).isSome = true from rfl)] at hE
        clear hmm
        go_wp2_with fail
        refine ⟨?rel, ?measure⟩
        case rel => exact ⟨k + 1, t, by omega, by go_num, hSt, hT, hE, e1, e2⟩
        case measure => first | (simp [intOf]; done) | (simp [intOf]; omega)
      | none =>
        rw [hl] at k1
        rw [hl, if_neg (by simp)] at hE
        obtain ⟨W2, hW2⟩ : ∃ X, wr.alloc (.map #[] 0) = X := ⟨_, rfl⟩
        have hb2 : Below wr.heap.size wr W2 := by rw [← hW2]; exact (Below.refl _ _).alloc (Nat.le_refl _) _
        have hset : SetI W2 wr.heap.size [] := by rw [← hW2]; exact setI_made wr
        have hA : AugAt W2 bo br wr.heap.size ⟨t.obv, t.rev, []⟩ := ⟨⟨(hSt.below hb2).o, (hSt.below hb2).r, hSt.ne⟩, hset, by have := hSt.o.lt; omega, by have := hSt.r.lt; omega⟩
        have hn2 := hSt.nocell
        have hT2 := hT.trans (touch_below hb2 _)
        have hTw2 := hTw.trans (touch_below hb2 _)
        obtain ⟨bb, s2, hq⟩ : ∃ bb s2, augF (nbr g) (g.rev.length + 1) o ⟨t.obv, t.rev, []⟩ = (bb, s2) := ⟨_, _, rfl⟩
        have HC := Lib.hid (augment_ok g hg hwf.r (.agg #[.slice (some ⟨b, of', none⟩) g.obv.length c1, .slice A2 g.rev.length c2, .slice A3 g.links.length c3]) bo br wr.heap.size (g.rev.length + 1) o ⟨t.obv, t.rev, []⟩ W2 (h0.touch hTw2 hS.nocell) hA (Nat.lt_succ_of_le (List.length_filter_le _ _)) hwfo (by simp only; omega) (by simp only; omega) (by have := List.length_filter_le (fun r => decide (r ∉ ([] : List Int))) g.rev; simp only [unseen, List.length_nil]; omega))
        rw [hq] at HC
        simp only [hq] at hE
        have hkeep : Hid (bb = false → s2.rev = t.rev ∧ s2.obv = t.obv) := Lib.hid fun e => by
          rw [e] at hq
          have h1 := augF_fail (nbr_rev hg) _ o _ s2 hq
          exact ⟨h1.rev, h1.obv⟩
        have HE := Lib.hid hE
        have Hz2 := Lib.hid (show W2.heap.size = wr.heap.size + 1 by rw [← hW2]; simp)
        clear hE hq hA hset
        go_wp2_with fail
        clear hW2
        refine HC.out.mono ?_
        rintro e w3 ⟨rfl, hA3, hT3⟩
        have hsz := hT.size
        have HT3 := Lib.hid (hT2.fresh hT3 (by intro x hx; simp only [List.mem_cons, List.not_mem_nil, or_false] at hx ⊢; omega))
        have HT3w := Lib.hid (hTw2.fresh hT3 (by have := hTw.size; intro x hx; simp only [List.mem_cons, List.not_mem_nil, or_false] at hx ⊢; omega))
        have HS3 := Lib.hid hA3.st
        clear hA3 hT3 HC
        cases bb
        · have H1 := Lib.hid (hkeep.out rfl); clear hkeep
          clear hmm
          go_wp2_with fail
          refine ⟨?rel, ?measure⟩
          case rel => exact ⟨k + 1, s2, by omega, by go_num, HS3.out, HT3.out, HE.out, H1.out.2.trans e1, H1.out.1.trans e2⟩
          case measure => first | (simp [intOf]; done) | (simp [intOf]; omega)
        · clear hmm
          go_wp2_with fail
          go_ret
          rw [← HE.out]
          exact ⟨rfl, HS3.out, HT3w.out⟩
    · have hd : g.obv.drop k = [] := List.drop_eq_nil_of_le (by omega)
      rw [hd, moreL] at hE
      subst hE
      clear hmm
      go_wp2_with fail
      go_ret
      exact ⟨rfl, hSt, hTw⟩
end Go.Proofs.Ytnaoiochfdipiaa
