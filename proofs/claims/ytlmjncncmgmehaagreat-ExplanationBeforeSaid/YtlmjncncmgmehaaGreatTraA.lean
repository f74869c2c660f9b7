/- The tracker of package joining: NewTracker, growth, Components, Joined. Condition: the tracker in its memory. -/
import Derived.Test.YtlmjncncmgmehaaGreatGroD
import Derived.Deep.DeepCutAuto
namespace Go.Proofs.YtlmjncncmgmehaaGreat
open Go.RowKit Go.Maps

section
variable {w w' : World} {p : Nat} {l : List Spec}
theorem Specs.touch1 {v : Value} {S : List Nat} (h : Specs w v l) (ht : Touch w w' S) (hS : ∀ q ∈ S, ∃ x t, w.heap[q]? = some (.cells #[x] t (0, 0))) : Specs w' v l := by
  obtain ⟨A, c, e, h1, h2, h3, h4⟩ := h
  refine ⟨A, c, e, h1, h2, h3, fun hp => ?_⟩
  obtain ⟨b, o, e, hb, hc⟩ := h4 hp
  have hn : b ∉ S := fun hm => by
    obtain ⟨x, t, hx⟩ := hS b hm
    cases l with
    | nil => simp at hp
    | cons s l =>
      have := hc 1 (.int .i64 s.obv) rfl
      have h6 : w.cell? ⟨b, o + 1, none⟩ = some (.int .i64 s.obv) := this
      rw [heap_cell hx] at h6
      simp at h6
  exact ⟨b, o, e, Nat.lt_of_lt_of_le hb ht.size, fun j u hu => cell_off ht hn (hc j u hu)⟩
end
theorem ofE_nil : ofE [] = 0 := by decide
end Go.Proofs.YtlmjncncmgmehaaGreat
/- The tracker of package joining: Clone, Undo; specimen.Find. Condition: the tracker in its memory. -/
namespace Go.Proofs.YtlmjncncmgmehaaGreat
open Go.RowKit Go.Maps

theorem SlOf.cut {α : Type} {enc : α → List Value} {k : Nat} {w : World} {A : Option Addr} {n c m : Nat} {xs : List α} (h : SlOf enc k w (.slice A n c) xs) (hk : ∀ x, (enc x).length = k) (hm : m ≤ n) : SlOf enc k w (.slice A m c) (xs.take m) := by
  obtain ⟨A', c', e, h1, h2, h3, h4⟩ := h
  cases e
  have hl : (xs.take m).length = m := by rw [List.length_take]; omega
  have hfl := flat_len enc k hk
  refine ⟨A, c, by rw [hl], by omega, h2, by rw [hfl], fun hp => ?_⟩
  obtain ⟨b, o, e, hb, hc⟩ := h4 (by omega)
  refine ⟨b, o, e, hb, fun j u hu => hc j u ?_⟩
  have : xs.flatMap enc = (xs.take m).flatMap enc ++ (xs.drop m).flatMap enc := by rw [← List.flatMap_append, List.take_append_drop]
  rw [this, List.getElem?_append_left (List.getElem?_eq_some_iff.1 hu).1]
  exact hu
theorem heap_set7 {w : World} {g : Nat} {a b c d e f k x0 x1 x2 x3 x4 x5 x6 : Value} {t : TypeId} (h : w.heap[g]? = some (.cells [a, b, c, d, e, f, k].toArray t (0, 0))) :
    (((((((w.setCell ⟨g, 0, none⟩ x0).setCell ⟨g, 1, none⟩ x1).setCell ⟨g, 2, none⟩ x2).setCell ⟨g, 3, none⟩ x3).setCell ⟨g, 4, none⟩ x4).setCell ⟨g, 5, none⟩ x5).setCell ⟨g, 6, none⟩ x6).heap[g]? = some (.cells #[x0, x1, x2, x3, x4, x5, x6] t (0, 0)) := heap_setCells [x0, x1, x2, x3, x4, x5, x6] [] [a, b, c, d, e, f, k] w h rfl
theorem below_set7 {B g : Nat} {a w : World} {x0 x1 x2 x3 x4 x5 x6 : Value} (h : Below B a w) (hg : B ≤ g) (hB : B ≤ w.heap.size) : Below B a (((((((w.setCell ⟨g, 0, none⟩ x0).setCell ⟨g, 1, none⟩ x1).setCell ⟨g, 2, none⟩ x2).setCell ⟨g, 3, none⟩ x3).setCell ⟨g, 4, none⟩ x4).setCell ⟨g, 5, none⟩ x5).setCell ⟨g, 6, none⟩ x6) :=
  h.grown (setCells_grown g [x0, x1, x2, x3, x4, x5, x6] w 0) hB (fun j e => by cases e; exact hg)
set_option maxHeartbeats 4000000 in
set_option maxRecDepth 100000 in
theorem Find_ok (v : Value) (l : List Spec) (id : Int) (w : World) (h : Specs w v l) :
    Calls Tryz.prog 31 #[v, .int .i64 id] w fun e w' => ∃ s : Spec, e = .returned (.tuple #[valS s, .bool (decide (id ∈ l.map Spec.id))]) ∧ Below w.heap.size w w' := by
  obtain ⟨A, c, rfl, _, _, hc⟩ := h.cells
  obtain ⟨W, hW, Hz, hbW, hltW, _⟩ := boxed w #[.int .i64 0, .int .i64 0, .int .i64 0, .int .i64 0, .int .i64 0, .int .i64 0, .int .i64 0] 38
  have hk : W.heap[w.heap.size]? = some (.cells [.int .i64 0, .int .i64 0, .int .i64 0, .int .i64 0, .int .i64 0, .int .i64 0, .int .i64 0].toArray 38 (0, 0)) := by rw [← hW]; exact heap_alloc_new _ _
  have Hk := Lib.hid hk; clear hk
  go_enter Tryz.func31, Tryz.ntmps31
  go_wp2_with fail
  clear hW
  go_loopw [10] (fun i wr => ∃ k : Nat, k ≤ l.length ∧ i = .int .i64 k ∧ Below W.heap.size W wr ∧ ∀ s ∈ l.take k, s.id ≠ id) (fun i _ => l.length - (intOf i).toNat)
  case atStart => exact ⟨0, Nat.zero_le _, rfl, Below.refl _ _, fun s hs => by simp at hs⟩
  case round =>
    obtain ⟨k, hk, rfl, hb, hno⟩ := hrel
    have HN := Lib.hid hno; clear hno
    have Hkr := Lib.hid (heap_below Hk.out hb hltW)
    have hbw := below_trans hbW hb
    by_cases hlt : k < l.length
    · obtain ⟨bo, o, rfl, hbb, hc⟩ := hc k hlt
      obtain ⟨x, hx⟩ := get_of_lt hlt
      obtain ⟨y0, y1, y2, y3, y4, y5, y6⟩ := hc wr hbw k x hx
      obtain ⟨V1, V2, hV1, hV2, HzV2, hkV1, hkV2, hbV2, hltV2⟩ := fresh wr [.int .i64 0, .int .i64 0, .int .i64 0, .int .i64 0, .int .i64 0, .int .i64 0, .int .i64 0] [.int .i64 (x).id, .int .i64 (x).obv, .int .i64 (x).rev, .int .i64 (x).os, .int .i64 (x).rs, .int .i64 (x).ax, .int .i64 (x).wt] 38 rfl
      have hsV2 : ((((((V1.setCell ⟨wr.heap.size, 0, none⟩ (.int .i64 (x).id)).setCell ⟨wr.heap.size, 1, none⟩ (.int .i64 (x).obv)).setCell ⟨wr.heap.size, 2, none⟩ (.int .i64 (x).rev)).setCell ⟨wr.heap.size, 3, none⟩ (.int .i64 (x).os)).setCell ⟨wr.heap.size, 4, none⟩ (.int .i64 (x).rs)).setCell ⟨wr.heap.size, 5, none⟩ (.int .i64 (x).ax)).setCell ⟨wr.heap.size, 6, none⟩ (.int .i64 (x).wt) = V2 := hV2
      clear hV2
      obtain ⟨⟨z0, z1, z2, z3, z4, z5, z6⟩, f0, f1, f2, f3, f4, f5, f6⟩ := cellsS hkV1
      clear hkV1
      obtain ⟨⟨s0, s1, s2, s3, s4, s5, s6⟩, _⟩ := cellsS hkV2
      have Hx := Lib.hid hx
      clear hx hc
      cases hid : (x.id == id)
      · have hne : x.id ≠ id := by simpa using hid
        have Hne := Lib.hid hne; clear hne
        go_wp2_with fail
        refine ⟨?rel, ?measure⟩
        case rel => exact ⟨k + 1, by omega, by go_num, below_trans hb hbV2, fun s hs => by rw [take_snoc' Hx.out, List.mem_append, List.mem_singleton] at hs; rcases hs with hs | rfl; exact HN.out s hs; exact Hne.out⟩
        case measure => simp [intOf]; omega
      · have he : x.id = id := by simpa using hid
        have hin : decide (id ∈ l.map Spec.id) = true := by rw [decide_eq_true_eq, ← he]; exact List.mem_map_of_mem (f := Spec.id) (List.mem_of_getElem? Hx.out)
        have Hin := Lib.hid hin; clear hin he
        have hk2 := heap_below Hkr.out hbV2 (heap_lt Hkr.out)
        have Hk2 := Lib.hid hk2
        obtain ⟨⟨r0, r1, r2, r3, r4, r5, r6⟩, g0, g1, g2, g3, g4, g5, g6⟩ := cellsS hk2
        clear hk2
        go_wp2_with fail
        refine bodyPost_ret (results_cell_tmp_row rfl _ _ w.heap.size 38 #[.int .i64 x.id, .int .i64 x.obv, .int .i64 x.rev, .int .i64 x.os, .int .i64 x.rs, .int .i64 x.ax, .int .i64 x.wt] (0, 0) _ (by simp) (heap_set7 Hk2.out) Tryz.underlying38 rfl (by kernel_rfl)) rfl ⟨x, ?_, below_set7 (below_trans hbw hbV2) (Nat.le_refl _) (below_trans hbw hbV2).size⟩
        rw [Hin.out]; rfl
    · have hin : decide (id ∈ l.map Spec.id) = false := by
        rw [decide_eq_false_iff_not]
        intro hm
        obtain ⟨s, hs, e⟩ := List.mem_map.1 hm
        exact HN.out s (by rw [List.take_of_length_le (by omega)]; exact hs) e
      have Hin := Lib.hid hin; clear hin hc
      obtain ⟨⟨r0, r1, r2, r3, r4, r5, r6⟩, g0, g1, g2, g3, g4, g5, g6⟩ := cellsS Hkr.out
      go_wp2_with fail
      refine bodyPost_ret (results_cell_tmp_row rfl _ _ w.heap.size 38 #[.int .i64 0, .int .i64 0, .int .i64 0, .int .i64 0, .int .i64 0, .int .i64 0, .int .i64 0] (0, 0) _ (by simp) (heap_set7 Hkr.out) Tryz.underlying38 rfl (by kernel_rfl)) rfl ⟨⟨0, 0, 0, 0, 0, 0, 0⟩, ?_, below_set7 hbw (Nat.le_refl _) hbw.size⟩
      rw [Hin.out]; rfl
end Go.Proofs.YtlmjncncmgmehaaGreat
/- The tracker of package joining: Add. Condition: the tracker in its memory. -/
namespace Go.Proofs.YtlmjncncmgmehaaGreat
open Go.RowKit Go.Maps

/-- What Add says: the error. -/
def addE (l : List Spec) (s : Spec) : Int := if specB s = true then (if s.id ∈ l.map Spec.id then 8 else if ofE (l ++ [s]) = 0 then 0 else 6) else 1
def addB (l : List Spec) (s : Spec) : Bool := decide (addE l s = 0) && (apartG s (growL l) && thereG s (growL l))
def addL (l : List Spec) (s : Spec) : List Spec := if addE l s = 0 then l ++ [s] else l
theorem addE_1 {l : List Spec} {s : Spec} (h : specB s = false) : addE l s = 1 := by simp [addE, h]
theorem addE_8 {l : List Spec} {s : Spec} (h : specB s = true) (k : s.id ∈ l.map Spec.id) : addE l s = 8 := by rw [addE, if_pos h, if_pos k]
theorem addE_6 {l : List Spec} {s : Spec} (h : specB s = true) (k : s.id ∉ l.map Spec.id) (m : ofE (l ++ [s]) ≠ 0) : addE l s = 6 := by rw [addE, if_pos h, if_neg k, if_neg m]
theorem addE_0 {l : List Spec} {s : Spec} (h : specB s = true) (k : s.id ∉ l.map Spec.id) (m : ofE (l ++ [s]) = 0) : addE l s = 0 := by rw [addE, if_pos h, if_neg k, if_pos m]
theorem add_no {l : List Spec} {s : Spec} (h : addE l s ≠ 0) : addB l s = false ∧ addL l s = l := ⟨by simp [addB, h], by rw [addL, if_neg h]⟩
theorem add_yes {l : List Spec} {s : Spec} (h : addE l s = 0) : addB l s = (apartG s (growL l) && thereG s (growL l)) ∧ addL l s = l ++ [s] := ⟨by simp [addB, h], by rw [addL, if_pos h]⟩

end Go.Proofs.YtlmjncncmgmehaaGreat
