/- The growth of a list of specimens, step by step; History. Condition: the argument reads as a list of specimens. -/
import Derived.Test.YthnckicnnhkkaaaGreatGroA
import Derived.Test.YthnckicnnhkkaaaGreatIgn
import Derived.Test.YthnckicnnhkkaaaGreatSpecA
import Derived.Test.YthnckicnnhkkaaaGreatCovT
import Derived.Test.YthnckicnnhkkaaaGreatIter
import Derived.Deep.DeepCutAuto
import Derived.Test.YthnckicnnhkkaaaGreatJoinP
namespace Go.Proofs.YthnckicnnhkkaaaGreat
open Go.RowKit Go.Maps

theorem NInv.pos {E : List (Die × Die)} {g : Gr} (h : NInv E g) (s : Spec) (hne : fromG s g ≠ toG s g) : 1 ≤ (bothG s g).count := by
  have hb := h.both s
  obtain ⟨t, ht⟩ := hb.some (d := dA s) (by simp)
  obtain ⟨f, hf⟩ := hb.some (d := dB s) (by simp)
  have eF : fromG s g = f := by rw [fromG, hf]; rfl
  have eT : toG s g = t := by rw [toG, ht]; rfl
  have hfm : f ∈ (bothG s g).m.map Prod.snd := List.mem_map.2 ⟨_, lookM_some hf, rfl⟩
  have htm : t ∈ (bothG s g).m.map Prod.snd := List.mem_map.2 ⟨_, lookM_some ht, rfl⟩
  rw [eF, eT] at hne
  have := dcount_merge (n := (bothG s g).named) hfm htm hne hb.vals
  rw [hb.cnt]
  omega
end Go.Proofs.YthnckicnnhkkaaaGreat
/- chosen, Joiners, Forest, First. Condition: the argument reads as a list of specimens. -/
namespace Go.Proofs.YthnckicnnhkkaaaGreat
open Go.RowKit Go.Maps

end Go.Proofs.YthnckicnnhkkaaaGreat
/- First. Condition: the argument reads as a list of specimens, the dies' numbers are numbers. -/
namespace Go.Proofs.YthnckicnnhkkaaaGreat
open Go.RowKit Go.Maps

end Go.Proofs.YthnckicnnhkkaaaGreat
/- walk. Condition: the argument reads as a list of specimens. -/
namespace Go.Proofs.YthnckicnnhkkaaaGreat
open Go.RowKit Go.Maps

end Go.Proofs.YthnckicnnhkkaaaGreat
/- slices.Index and Contains at numbers; Clone, IndexFunc and DeleteFunc at specimens. No condition but a bound of the length. -/
namespace Go.Proofs.YthnckicnnhkkaaaGreat
open Go.RowKit

namespace Cl
set_option maxHeartbeats 4000000 in
set_option maxRecDepth 100000 in
theorem cloneS_ok (v : Value) (xs : List Spec) (w : World) (h : SlOf encS 7 w v xs) (hn : xs.length ≤ 1048576) :
    Calls Tryz.prog 68 #[v] w fun e w' => ∃ u, e = .returned u ∧ OwnS w.heap.size w' u xs ∧ Below w.heap.size w w' := by
  obtain ⟨A, c, rfl, h1, h2, h3⟩ := h
  have hS := h3
  have hnil := fun (A : Option Addr) (w : World) => Lib.run_eql_slice_nil (P := Tryz.prog) w 51 31 A xs.length c 0 0 Tryz.underlying51
  cases A with
  | none =>
    have h0 : xs = [] := by
      rcases Nat.eq_zero_or_pos xs.length with h0 | h0
      · exact List.eq_nil_of_length_eq_zero h0
      · obtain ⟨b, o, e, _⟩ := h3.2 h0
        cases e
    subst h0
    have hE : ∀ w, (binOp .eql 51 (.slice none 0 c) (.slice none 0 0)).run Tryz.prog w = .ok (.bool true) w := fun w => hnil none w
    clear hnil hS h3 h1 hn
    go_enter Tryz.func68, Tryz.ntmps68
    go_wp2
    go_ret
    exact ⟨_, rfl, own_nil _ _ _ _ _, Below.refl _ _⟩
  | some a =>
    have hE : ∀ w, (binOp .eql 51 (.slice (some a) xs.length c) (.slice none 0 0)).run Tryz.prog w = .ok (.bool false) w := fun w => hnil (some a) w
    clear hnil
    obtain ⟨i0, hi0, hz0, hk0, hb0⟩ := info_parts infoS
    have hS1 := Lib.hid (fun (o : Obj) => Sl.below hS ((Below.refl w.heap.size w).alloc (Nat.le_refl _) o))
    clear hS h3
    go_enter Tryz.func68, Tryz.ntmps68
    go_wp2_with (at_builtin; refine wpList_append_sl rfl (.tmp 5) (.tmp 6) _ rfl i0 _ 56 Tryz.underlying51 hi0 hz0 hk0 hb0 rfl (by decide) oneS rfl (own_empty (B := w.heap.size) (heap_alloc_new _ _) (Nat.le_refl _)) _ _ _ xs rfl rfl (hS1.out _) (by simp; omega) (by simp; omega) (by simp) ?_; intro v1 w1 ho1 hg1 _)
    go_ret
    exact ⟨_, rfl, by simpa using ho1, ((Below.refl w.heap.size w).alloc (Nat.le_refl _) _).grown hg1 (by simp) (fun k e => by have e' : some w.heap.size = some k := e; cases e'; exact Nat.le_refl _)⟩
end Cl
end Go.Proofs.YthnckicnnhkkaaaGreat
/- Bottleneck. Condition: the argument reads as a list of specimens, the dies' numbers are numbers. -/
namespace Go.Proofs.YthnckicnnhkkaaaGreat
open Go.RowKit Go.Maps

end Go.Proofs.YthnckicnnhkkaaaGreat
/- The tracker of package joining: NewTracker, growth, Components, Joined. Condition: the tracker in its memory. -/
namespace Go.Proofs.YthnckicnnhkkaaaGreat
open Go.RowKit Go.Maps

section
variable {w w' : World} {p : Nat} {l : List Spec}
end
end Go.Proofs.YthnckicnnhkkaaaGreat
/- The tracker of package joining: Clone, Undo; specimen.Find. Condition: the tracker in its memory. -/
namespace Go.Proofs.YthnckicnnhkkaaaGreat
open Go.RowKit Go.Maps

theorem heap_set7 {w : World} {g : Nat} {a b c d e f k x0 x1 x2 x3 x4 x5 x6 : Value} {t : TypeId} (h : w.heap[g]? = some (.cells [a, b, c, d, e, f, k].toArray t (0, 0))) :
    (((((((w.setCell ⟨g, 0, none⟩ x0).setCell ⟨g, 1, none⟩ x1).setCell ⟨g, 2, none⟩ x2).setCell ⟨g, 3, none⟩ x3).setCell ⟨g, 4, none⟩ x4).setCell ⟨g, 5, none⟩ x5).setCell ⟨g, 6, none⟩ x6).heap[g]? = some (.cells #[x0, x1, x2, x3, x4, x5, x6] t (0, 0)) := heap_setCells [x0, x1, x2, x3, x4, x5, x6] [] [a, b, c, d, e, f, k] w h rfl
theorem below_set7 {B g : Nat} {a w : World} {x0 x1 x2 x3 x4 x5 x6 : Value} (h : Below B a w) (hg : B ≤ g) (hB : B ≤ w.heap.size) : Below B a (((((((w.setCell ⟨g, 0, none⟩ x0).setCell ⟨g, 1, none⟩ x1).setCell ⟨g, 2, none⟩ x2).setCell ⟨g, 3, none⟩ x3).setCell ⟨g, 4, none⟩ x4).setCell ⟨g, 5, none⟩ x5).setCell ⟨g, 6, none⟩ x6) :=
  h.grown (setCells_grown g [x0, x1, x2, x3, x4, x5, x6] w 0) hB (fun j e => by cases e; exact hg)
end Go.Proofs.YthnckicnnhkkaaaGreat
/- The tracker of package joining: Add. Condition: the tracker in its memory. -/
namespace Go.Proofs.YthnckicnnhkkaaaGreat
open Go.RowKit Go.Maps

end Go.Proofs.YthnckicnnhkkaaaGreat
/- How the number of components changes with a specimen, plain. No program in sight, no condition. -/
namespace Go.Proofs.YthnckicnnhkkaaaGreat
open Go.RowKit Go.Maps

end Go.Proofs.YthnckicnnhkkaaaGreat
/- A tracker that is offered specimens, plain. No program in sight, no condition. -/
namespace Go.Proofs.YthnckicnnhkkaaaGreat
open Go.RowKit Go.Maps

end Go.Proofs.YthnckicnnhkkaaaGreat
/- The forest of a list has as many specimens as dies less components; the latest specimen of a path: plain. No program in sight, no condition. -/
namespace Go.Proofs.YthnckicnnhkkaaaGreat
open Go.RowKit

theorem dies_len {g : Graph} (hg : graphB g = true) : (diesG g).length = g.obv.length + g.rev.length := by simp [diesG, hg]
theorem comps_reps {l : List Spec} (h : ofE l = 0) : (repsA (joinB (edgesG (ofG l))) (diesG (ofG l))).length = (growL l).count := by
  rw [count_comp h, compN, firstsA_reps (rel_join fun d hd => (dies_end (of_valid h) d).1 hd)]
/-! ### The latest specimen of a path -/
end Go.Proofs.YthnckicnnhkkaaaGreat
/- The first of the shortest paths in the die graph of a list is a walk: plain. No program in sight, no condition. -/
namespace Go.Proofs.YthnckicnnhkkaaaGreat
open Go.RowKit Go.Shelf

end Go.Proofs.YthnckicnnhkkaaaGreat
