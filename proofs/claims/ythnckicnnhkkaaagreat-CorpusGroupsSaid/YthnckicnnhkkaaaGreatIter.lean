/- slices.Values and slices.AppendSeq, Collect at specimens. Condition: the slice reads as a list of specimens. -/
import Derived.Test.YthnckicnnhkkaaaGreatCmp
import Derived.RangeFuncNested
import Derived.RangeFuncBound
import Derived.RangeFuncCalls
import Derived.RangeFuncLeaves
import Derived.RangeFuncBox
import Derived.Shelf.Abstract
import Derived.Shelf.RegionOpen
import Derived.OwnWalkIn
import Derived.TacticsInMore
import Derived.LoopNIn
import Derived.LoopIn
import Derived.Maps.AppendAt
namespace Go.Proofs.YthnckicnnhkkaaaGreat
open Go.RowKit Go.Shelf
attribute [local go_sem] Oper.semAt_some

abbrev valS (x : Spec) : Value := .agg #[.int .i64 x.id, .int .i64 x.obv, .int .i64 x.rev, .int .i64 x.os, .int .i64 x.rs, .int .i64 x.ax, .int .i64 x.wt]

set_option maxRecDepth 100000 in
set_option maxHeartbeats 2000000 in
/-- The closure of slices.Values, for every loop body that keeps what lay in the world w0. -/
theorem valS1_in (F : Fence) (n : Nat) (h7 : F.fn 237) (hro : F.round = none) (hn : 1 ≤ n) (l Bs B : Nat) (A : Option Addr) (c : Nat) (zs : List Spec) (w0 : World) (hS : Specs w0 (.slice A zs.length c) zs) (J Jx : List Spec → World → Prop)
    (hY : ∀ pre x W, J pre W → pre.length < zs.length → YieldAt F (n - 1) Tryz.prog l #[valS x] W fun e W' =>
      (e = .returned (.bool true) ∧ J (pre ++ [x]) W' ∧ Below w0.heap.size W W') ∨ (e = .returned (.bool false) ∧ Jx (pre ++ [x]) W'))
    (hJ : AbidesFrom B J) (W : World) (hW : Below w0.heap.size w0 W) (hBs : W.cell? ⟨Bs, 0, none⟩ = some (.slice A zs.length c)) (h0 : J [] W) :
    CallsIn F n Tryz.prog 237 #[.func (.yield l) #[] #[], .pointer (some ⟨Bs, 0, none⟩)] W fun e W' => (∃ v, e = .returned v) ∧
      ((∃ ys, ys = zs ∧ J ys W') ∨ (∃ pre, pre <+: zs ∧ Jx pre W')) := by
  obtain ⟨A', c', e, h1, h2, hc⟩ := hS.cells
  injection e with e1 _ e2
  subst e1; subst e2
  refine callsIn_of_wp Tryz.func237 rfl h7 ?_ hro
  simp only [Tryz.ntmps237, List.size_toArray, List.length_cons, List.length_nil, Nat.reduceAdd, Nat.reduceSub, Array.replicate_succ, Array.replicate_zero, List.push_toArray, List.append_toArray, List.nil_append, List.cons_append]
  gi_wp2
  gi_loopw [7] (fun i wr => ∃ k : Nat, k ≤ zs.length ∧ i = .int .i64 k ∧ J (zs.take k) wr ∧ Below w0.heap.size W wr)
    (fun i _ => zs.length - (intOf i).toNat)
  case atStart => exact ⟨0, Nat.zero_le _, rfl, h0, Below.refl _ _⟩
  case round =>
    obtain ⟨k, hk, rfl, hJs, hnx⟩ := hrel
    by_cases hlt : k < zs.length
    · obtain ⟨b, o, rfl, hbb, hc⟩ := hc k hlt
      obtain ⟨x, hx⟩ := get_of_lt hlt
      obtain ⟨c0, c1, c2, c3, c4, c5, c6⟩ := hc wr (hW.trans hnx) k x hx
      have Hx := Lib.hid hx; clear hx hc
      have hsz : w0.heap.size ≤ wr.heap.size := by have := hW.size; have := hnx.size; omega
      obtain ⟨W1, hW1⟩ : ∃ W1, wr.alloc (.cells #[.int .i64 x.id, .int .i64 x.obv, .int .i64 x.rev, .int .i64 x.os, .int .i64 x.rs, .int .i64 x.ax, .int .i64 x.wt] 31) = W1 := ⟨_, rfl⟩
      have m0 : W1.cell? ⟨wr.heap.size, 0, none⟩ = some (.int .i64 x.id) := by rw [← hW1]; simp
      have m1 : W1.cell? ⟨wr.heap.size, 1, none⟩ = some (.int .i64 x.obv) := by rw [← hW1]; simp
      have m2 : W1.cell? ⟨wr.heap.size, 2, none⟩ = some (.int .i64 x.rev) := by rw [← hW1]; simp
      have m3 : W1.cell? ⟨wr.heap.size, 3, none⟩ = some (.int .i64 x.os) := by rw [← hW1]; simp
      have m4 : W1.cell? ⟨wr.heap.size, 4, none⟩ = some (.int .i64 x.rs) := by rw [← hW1]; simp
      have m5 : W1.cell? ⟨wr.heap.size, 5, none⟩ = some (.int .i64 x.ax) := by rw [← hW1]; simp
      have m6 : W1.cell? ⟨wr.heap.size, 6, none⟩ = some (.int .i64 x.wt) := by rw [← hW1]; simp
      have hJ1 : J (zs.take k) W1 := by rw [← hW1]; exact hJ _ _ _ none hJs (World.grownBy_alloc _ _ none) (fun r e => by cases e)
      have hbW : Below w0.heap.size W W1 := by rw [← hW1]; exact hnx.alloc hsz _
      obtain ⟨fn, tmps, assign, body, hy, hR⟩ := hY _ x W1 hJ1 (by rw [List.length_take]; omega)
      gi_wp2
      refine hR.mono ?_
      rintro e W3 (⟨rfl, hJ3, hk3⟩ | ⟨rfl, hJx3⟩)
      · gi_wp2
        refine ⟨?rel, ?measure⟩
        case rel => exact ⟨k + 1, by omega, by go_num, by rw [take_snoc' Hx.out]; exact hJ3, hbW.trans hk3⟩
        case measure => simp [intOf]; omega
      · gi_wp2
        refine bodyPost_ret (results_none rfl _ _ _) rfl ?_
        exact ⟨⟨_, rfl⟩, .inr ⟨zs.take (k + 1), List.take_prefix _ _, by rw [take_snoc' Hx.out]; exact hJx3⟩⟩
    · have e1 : zs.take k = zs := List.take_of_length_le (by omega)
      rw [e1] at hJs
      clear e1
      gi_wp2
      go_end0
      exact ⟨⟨_, rfl⟩, .inl ⟨_, rfl, hJs⟩⟩

/-- slices.Values hands back a value that gives the specimens in their order. -/
theorem valS_stops (F : Fence) (n : Nat) (h7 : F.fn 237) (hro : F.round = none) (hn : 1 ≤ n) (Bs : Nat) (A : Option Addr) (c : Nat) (zs : List Spec) (w0 w : World) (hb : Below w0.heap.size w0 w) (hBs : Bs < w.heap.size)
    (hc : w.cell? ⟨Bs, 0, none⟩ = some (.slice A zs.length c)) (hS : Specs w0 (.slice A zs.length c) zs) :
    SeqStopsK F n Tryz.prog 237 #[.pointer (some ⟨Bs, 0, none⟩)] (fun x : Spec => #[valS x]) (Below w0.heap.size) (fun ys => ys = zs) (fun pre => pre <+: zs) zs.length w := fun l J Jx W hW hJ _ hY h0 =>
  valS1_in F n h7 hro hn l Bs W.heap.size A c zs w0 hS J Jx hY hJ W (hb.trans (hW.mono hb.size)) ((hW.cell (p := ⟨Bs, 0, none⟩) hBs).trans hc) h0

set_option maxHeartbeats 1000000 in
theorem valuesS_ok (A : Option Addr) (m c : Nat) (w : World) : Calls Tryz.prog 209 #[.slice A m c] w fun e w' =>
    e = .returned (.func (.func 237) #[] #[.pointer (some ⟨w.heap.size, 0, none⟩)]) ∧ w' = w.alloc (.cells #[.slice A m c] 51) := by
  go_enter Tryz.func209, Tryz.ntmps209
  go_wp2
  go_ret
  exact ⟨rfl, rfl⟩

/-- A variable of seven cells in a block of its own. -/
def BoxS (W : World) (B : Nat) (x : Spec) : Prop := W.heap[B]? = some (.cells #[.int .i64 x.id, .int .i64 x.obv, .int .i64 x.rev, .int .i64 x.os, .int .i64 x.rs, .int .i64 x.ax, .int .i64 x.wt] 31 (0, 0))
theorem boxS_own (B : Nat) (x : Spec) : _root_.Go.Own (fun (_ : Unit) W => BoxS W B x) := fun _ X Y row h hg hrow =>
  (hg.block B (Array.getElem?_eq_some_iff.1 h).1 (fun e' => by
    obtain ⟨o, ho, hc⟩ := hrow B e'.symm
    rw [show X.heap[B]? = _ from h] at ho; cases ho; cases hc)).trans h
theorem BoxS.cell {W : World} {B i : Nat} {x : Spec} {v : Value} (h : BoxS W B x) (hi : (#[.int .i64 x.id, .int .i64 x.obv, .int .i64 x.rev, .int .i64 x.os, .int .i64 x.rs, .int .i64 x.ax, .int .i64 x.wt] : Array Value)[i]? = some v) : W.cell? ⟨B, i, none⟩ = some v := by
  rw [cell_of_row W B i _ _ (0, 0) h]; exact hi

set_option maxRecDepth 100000 in
set_option maxHeartbeats 4000000 in
/-- slices.AppendSeq(nil, slices.Values(zs)): a slice of the call's own that holds zs. -/
theorem appendS_in (F : Fence) (n : Nat) (h3 : F.fn 259) (h7 : F.fn 237) (hro : F.round = none) (hn : 3 ≤ n) (Bs : Nat) (A : Option Addr) (c : Nat) (zs : List Spec) (hlen : zs.length ≤ 1048576) (w0 w : World) (hb : Below w0.heap.size w0 w) (hBs : Bs < w.heap.size)
    (hc : w.cell? ⟨Bs, 0, none⟩ = some (.slice A zs.length c)) (hS : Specs w0 (.slice A zs.length c) zs) :
    CallsIn F n Tryz.prog 259 #[.slice none 0 0, .func (.func 237) #[] #[.pointer (some ⟨Bs, 0, none⟩)]] w fun e W' =>
      ∃ v, e = .returned v ∧ OwnS w.heap.size W' v zs ∧ Below w.heap.size w W' := by
  have h1 : 1 ≤ n := by omega
  obtain ⟨i0, hi, hz0, hz1, hz2⟩ := info_parts infoS
  refine callsIn_of_wp_marks Tryz.func259 rfl h3 ?_ hro
  simp only [Tryz.ntmps259, List.size_toArray, List.length_cons, List.length_nil, Nat.reduceAdd, Nat.reduceSub, Array.replicate_succ, Array.replicate_zero, List.push_toArray, List.append_toArray, List.nil_append, List.cons_append]
  gi_wp2
  have bO := Boxed.new w 51 (.slice none 0 0)
  have hB0 : Below w.heap.size w (w.alloc (.cells #[.slice none 0 0] 51)) := (Below.refl _ w).alloc (Nat.le_refl _) _
  have hsz : (w.alloc (.cells #[.slice none 0 0] 51)).heap.size = w.heap.size + 1 := by simp
  obtain ⟨W0, hW0⟩ : ∃ W0, w.alloc (.cells #[.slice none 0 0] 51) = W0 := ⟨_, rfl⟩
  rw [hW0] at bO hB0 hsz ⊢
  clear hW0
  have hw0 : w0.heap.size ≤ w.heap.size := hb.size
  refine wpIn_rangeFunc_ownH hro h1 (gf := 237) (lb := #[.pointer (some ⟨Bs, 0, none⟩)]) rfl h7 (enters_of Tryz.func237 (by kernel_rfl) rfl)
    (valS_stops F (n - 1) h7 hro (by omega) Bs A c zs w0 W0 (below_trans hb hB0) (by omega) ((hB0.cell (p := ⟨Bs, 0, none⟩) hBs).trans hc) hS) belowK_t (belowK_b (by omega)) (Below.refl _ _) (fun _ => rfl)
    (fun pre W => (∃ v, Boxed W w.heap.size 51 v ∧ W.ownsRow w.heap.size 31 7 v pre.length (pre.flatMap encS) ∧ True) ∧ Below w.heap.size w W)
    (fun _ _ _ => False)
    (OwnFrom.and (_root_.Go.Own.from (holdsRow_own w.heap.size w.heap.size 51 31 7 (fun (pre : List Spec) => pre.length) (fun (pre : List Spec) => pre.flatMap encS) (fun (_ : List Spec) _ => True)) _) (ownFrom_below (Nat.le_refl _) (by omega)))
    (fun _ _ _ _ _ hs _ _ => hs)
    ⟨⟨_, bO, World.ownsRow_nil _ _ _ _, trivial⟩, hB0⟩
    (fun x a' W => ∃ Bx, w.heap.size < Bx ∧ BoxS W Bx x ∧ a' = { tmps := #[.slice none 0 0, .func (.func 237) #[] #[.pointer (some ⟨Bs, 0, none⟩)], .pointer (some ⟨w.heap.size, 0, none⟩), undef, .slice none 0 0, .pointer (some ⟨Bx, 0, none⟩), .func (.func 237) #[] #[.pointer (some ⟨Bs, 0, none⟩)], valS x, undef, undef, undef, undef, undef], defers := [] })
    (fun x a' _ X Y row hs hg hr => by obtain ⟨Bx, h1, h2, h3⟩ := hs; exact ⟨Bx, h1, boxS_own Bx x () X Y row h2 hg (fun r e => (hr r e).2), h3⟩)
    ?assign ?body ?done ?stop
  case assign =>
    rintro l pre x W K ⟨⟨v, hv, hrow, _⟩, hB⟩ hK
    have hBs := hB.size
    gi_wp2
    exact hK _ _ ((KeepsOthers.alloc _ _).from _) ((Below.refl _ W).alloc (by omega) _) ⟨⟨v, hv.alloc _, hrow.alloc _, trivial⟩, hB.alloc hB.size _⟩ ⟨W.heap.size, hv.lt, heap_alloc_new _ _, rfl⟩
  case body =>
    rintro l pre x a' W hl ⟨r, hr⟩ ⟨⟨v, hv, hrow, _⟩, hB⟩ ⟨Bx, hBx, bX, rfl⟩ hlt
    have hc := hv.cell
    have x0 := bX.cell (i := 0) rfl; have x1 := bX.cell (i := 1) rfl; have x2 := bX.cell (i := 2) rfl; have x3 := bX.cell (i := 3) rfl; have x4 := bX.cell (i := 4) rfl; have x5 := bX.cell (i := 5) rfl; have x6 := bX.cell (i := 6) rfl
    gi_wp2_with (gi_at_builtin; refine wpListIn_append_own _ rfl _ _ 51 rfl w.heap.size 31 i0 _ 7 56 Tryz.underlying51 hi hz0 hz1 hz2 rfl (by decide) _ _ _ rfl (hrow.alloc _) ⟨W.heap.size, 0, none⟩ 1 1 (encS x) rfl rfl (World.news_of_block (heap_alloc_new W _)) (oneS x) (by simp only [maxLen]; omega) (by omega) (by have := hB.size; simp; omega) ?_; intro v' w1 hown' hgrow _; obtain ⟨g', cap', rfl⟩ := ownsRow_succ hown'; obtain ⟨hv1, hv2, hr2, hk2, hb2⟩ := hv.appended (by decide) hrow hB.size (Nat.le_refl _) hown' hgrow; have hc1 := hv1.cell; have hf1 := hv1.frozen)
    exact ⟨hk2.from _, hb2.mono hw0, ⟨_, hv2, by simpa using hr2, trivial⟩, hB.trans hb2⟩
  case done =>
    rintro D ys W hD rfl ⟨⟨v, hv, hrow, _⟩, hB⟩ hK
    have hc := hv.cell
    gi_wp2
    refine ⟨by simp, .inl ⟨_, _, rfl, run_takeDeferred hK, ?_⟩⟩
    exact ⟨_, results_tmp rfl _ _ _, v, rfl, ownsRow_putObj hrow _ hK rfl, hB.trans (belowK_b (w := w) (Nat.le_refl _) W D _ _ (by omega) hK rfl rfl)⟩
  case stop =>
    rintro D c pre W _ _ h _
    exact h.elim

set_option maxHeartbeats 1000000 in
/-- slices.Collect(slices.Values(zs)). -/
theorem collectS_ok (Bs : Nat) (A : Option Addr) (c : Nat) (zs : List Spec) (hlen : zs.length ≤ 1048576) (w0 w : World) (hb : Below w0.heap.size w0 w) (hBs : Bs < w.heap.size)
    (hc : w.cell? ⟨Bs, 0, none⟩ = some (.slice A zs.length c)) (hS : Specs w0 (.slice A zs.length c) zs) :
    Calls Tryz.prog 235 #[.func (.func 237) #[] #[.pointer (some ⟨Bs, 0, none⟩)]] w fun e W' =>
      ∃ v, e = .returned v ∧ OwnS w.heap.size W' v zs ∧ Below w.heap.size w W' := by
  have h := callsIn_wide.1 (appendS_in Fence.wide 3 trivial trivial rfl (by omega) Bs A c zs hlen w0 w hb hBs hc hS)
  clear hc
  go_enter Tryz.func235, Tryz.ntmps235
  go_wp2_with (go_at_call 259; refine h.mono ?_; rintro e W' ⟨v, rfl, ho, hb1⟩)
  go_ret
  exact ⟨v, rfl, ho, hb1⟩
end Go.Proofs.YthnckicnnhkkaaaGreat
