/- slices.Values and slices.AppendSeq, Collect, Sorted at numbers. Condition: the slice reads as a list of numbers. -/
import Derived.Test.YtikfffojeakjoaaGreatDoorLinkA
import Derived.Test.YtikfffojeakjoaaGreatDoorIter
namespace Go.Proofs.YtikfffojeakjoaaGreatDoor
open Go.RowKit Go.Shelf
attribute [local go_sem] Oper.semAt_some

set_option maxRecDepth 100000 in
set_option maxHeartbeats 2000000 in
/-- The closure of slices.Values, for every loop body that keeps what lay in the world w0. -/
theorem valI1_in (F : Fence) (n : Nat) (h7 : F.fn 77) (hro : F.round = none) (hn : 1 ≤ n) (l Bs : Nat) (A : Option Addr) (c : Nat) (zs : List Int) (w0 : World) (hS : Ints w0 (.slice A zs.length c) zs) (J Jx : List Int → World → Prop)
    (hY : ∀ pre x W, J pre W → pre.length < zs.length → YieldAt F (n - 1) Tryz.prog l #[.int .i64 x] W fun e W' =>
      (e = .returned (.bool true) ∧ J (pre ++ [x]) W' ∧ Below w0.heap.size W W') ∨ (e = .returned (.bool false) ∧ Jx (pre ++ [x]) W'))
    (W : World) (hW : Below w0.heap.size w0 W) (hBs : W.cell? ⟨Bs, 0, none⟩ = some (.slice A zs.length c)) (h0 : J [] W) :
    CallsIn F n Tryz.prog 77 #[.func (.yield l) #[] #[], .pointer (some ⟨Bs, 0, none⟩)] W fun e W' => (∃ v, e = .returned v) ∧
      ((∃ ys, ys = zs ∧ J ys W') ∨ (∃ pre, pre <+: zs ∧ Jx pre W')) := by
  obtain ⟨A', c', e, h1, h2, hc⟩ := hS.cells
  injection e with e1 _ e2
  subst e1; subst e2
  refine callsIn_of_wp Tryz.func77 rfl h7 ?_ hro
  simp only [Tryz.ntmps77, List.size_toArray, List.length_cons, List.length_nil, Nat.reduceAdd, Nat.reduceSub, Array.replicate_succ, Array.replicate_zero, List.push_toArray, List.append_toArray, List.nil_append, List.cons_append]
  gi_wp2
  gi_loopw [7] (fun i wr => ∃ k : Nat, k ≤ zs.length ∧ i = .int .i64 k ∧ J (zs.take k) wr ∧ Below w0.heap.size W wr)
    (fun i _ => zs.length - (intOf i).toNat)
  case atStart => exact ⟨0, Nat.zero_le _, rfl, h0, Below.refl _ _⟩
  case round =>
    obtain ⟨k, hk, rfl, hJs, hnx⟩ := hrel
    by_cases hlt : k < zs.length
    · obtain ⟨b, o, rfl, hbb, hc⟩ := hc k hlt
      obtain ⟨x, hx⟩ := get_of_lt hlt
      have c0 := hc wr (hW.trans hnx) k x hx
      have Hx := Lib.hid hx; clear hx hc
      have hsz : w0.heap.size ≤ wr.heap.size := by have := hW.size; have := hnx.size; omega
      obtain ⟨fn, tmps, assign, body, hy, hR⟩ := hY _ x wr hJs (by rw [List.length_take]; omega)
      gi_wp2
      refine hR.mono ?_
      rintro e W3 (⟨rfl, hJ3, hk3⟩ | ⟨rfl, hJx3⟩)
      · gi_wp2
        refine ⟨?rel, ?measure⟩
        case rel => exact ⟨k + 1, by omega, by go_num, by rw [take_snoc' Hx.out]; exact hJ3, hnx.trans hk3⟩
        case measure => simp [intOf]; omega
      · gi_wp2
        refine bodyPost_ret (results_none rfl _ _ _) rfl ?_
        exact ⟨⟨_, rfl⟩, .inr ⟨zs.take (k + 1), List.take_prefix _ _, by rw [take_snoc' Hx.out]; exact hJx3⟩⟩
    · have e1 : zs.take k = zs := List.take_of_length_le (by omega)
      rw [e1] at hJs
      clear e1
      gi_wp2
      go_end0
      exact ⟨⟨_, rfl⟩, .inl ⟨_, rfl, hJs⟩⟩

/-- slices.Values hands back a value that gives the numbers in their order. -/
theorem valI_stops (F : Fence) (n : Nat) (h7 : F.fn 77) (hro : F.round = none) (hn : 1 ≤ n) (Bs : Nat) (A : Option Addr) (c : Nat) (zs : List Int) (w0 w : World) (hb : Below w0.heap.size w0 w) (hBs : Bs < w.heap.size)
    (hc : w.cell? ⟨Bs, 0, none⟩ = some (.slice A zs.length c)) (hS : Ints w0 (.slice A zs.length c) zs) :
    SeqStopsK F n Tryz.prog 77 #[.pointer (some ⟨Bs, 0, none⟩)] (fun x : Int => #[.int .i64 x]) (Below w0.heap.size) (fun ys => ys = zs) (fun pre => pre <+: zs) zs.length w := fun l J Jx W hW _ _ hY h0 =>
  valI1_in F n h7 hro hn l Bs A c zs w0 hS J Jx hY W (hb.trans (hW.mono hb.size)) ((hW.cell (p := ⟨Bs, 0, none⟩) hBs).trans hc) h0

set_option maxHeartbeats 1000000 in
theorem valuesI_ok (A : Option Addr) (m c : Nat) (w : World) : Calls Tryz.prog 43 #[.slice A m c] w fun e w' =>
    e = .returned (.func (.func 77) #[] #[.pointer (some ⟨w.heap.size, 0, none⟩)]) ∧ w' = w.alloc (.cells #[.slice A m c] 28) := by
  go_enter Tryz.func43, Tryz.ntmps43
  go_wp2
  go_ret
  exact ⟨rfl, rfl⟩

set_option maxRecDepth 100000 in
set_option maxHeartbeats 4000000 in
/-- slices.AppendSeq(nil, slices.Values(zs)): a slice of the call's own that holds zs. -/
theorem appendI_in (F : Fence) (n : Nat) (h3 : F.fn 101) (h7 : F.fn 77) (hro : F.round = none) (hn : 3 ≤ n) (Bs : Nat) (A : Option Addr) (c : Nat) (zs : List Int) (hlen : zs.length ≤ 1048576) (w0 w : World) (hb : Below w0.heap.size w0 w) (hBs : Bs < w.heap.size)
    (hc : w.cell? ⟨Bs, 0, none⟩ = some (.slice A zs.length c)) (hS : Ints w0 (.slice A zs.length c) zs) :
    CallsIn F n Tryz.prog 101 #[.slice none 0 0, .func (.func 77) #[] #[.pointer (some ⟨Bs, 0, none⟩)]] w fun e W' =>
      ∃ v, e = .returned v ∧ OwnI w.heap.size W' v zs ∧ Below w.heap.size w W' := by
  have h1 : 1 ≤ n := by omega
  obtain ⟨i0, hi, hz0, hz1, hz2⟩ := info_parts infoI
  refine callsIn_of_wp_marks Tryz.func101 rfl h3 ?_ hro
  simp only [Tryz.ntmps101, List.size_toArray, List.length_cons, List.length_nil, Nat.reduceAdd, Nat.reduceSub, Array.replicate_succ, Array.replicate_zero, List.push_toArray, List.append_toArray, List.nil_append, List.cons_append]
  gi_wp2
  have bO := Boxed.new w 28 (.slice none 0 0)
  have hB0 : Below w.heap.size w (w.alloc (.cells #[.slice none 0 0] 28)) := (Below.refl _ w).alloc (Nat.le_refl _) _
  have hsz : (w.alloc (.cells #[.slice none 0 0] 28)).heap.size = w.heap.size + 1 := by simp
  obtain ⟨W0, hW0⟩ : ∃ W0, w.alloc (.cells #[.slice none 0 0] 28) = W0 := ⟨_, rfl⟩
  rw [hW0] at bO hB0 hsz ⊢
  clear hW0
  have hw0 : w0.heap.size ≤ w.heap.size := hb.size
  refine wpIn_rangeFunc_ownH hro h1 (gf := 77) (lb := #[.pointer (some ⟨Bs, 0, none⟩)]) rfl h7 (enters_of Tryz.func77 (by kernel_rfl) rfl)
    (valI_stops F (n - 1) h7 hro (by omega) Bs A c zs w0 W0 (below_trans hb hB0) (by omega) ((hB0.cell (p := ⟨Bs, 0, none⟩) hBs).trans hc) hS) belowK_t (belowK_b (by omega)) (Below.refl _ _) (fun _ => rfl)
    (fun pre W => (∃ v, Boxed W w.heap.size 28 v ∧ W.ownsRow w.heap.size 3 1 v pre.length (pre.flatMap encI) ∧ True) ∧ Below w.heap.size w W)
    (fun _ _ _ => False)
    (OwnFrom.and (_root_.Go.Own.from (holdsRow_own w.heap.size w.heap.size 28 3 1 (fun (pre : List Int) => pre.length) (fun (pre : List Int) => pre.flatMap encI) (fun (_ : List Int) _ => True)) _) (ownFrom_below (Nat.le_refl _) (by omega)))
    (fun _ _ _ _ _ hs _ _ => hs)
    ⟨⟨_, bO, World.ownsRow_nil _ _ _ _, trivial⟩, hB0⟩
    (fun x a' _ => a' = { tmps := #[.slice none 0 0, .func (.func 77) #[] #[.pointer (some ⟨Bs, 0, none⟩)], .pointer (some ⟨w.heap.size, 0, none⟩), undef, .slice none 0 0, .int .i64 x, .func (.func 77) #[] #[.pointer (some ⟨Bs, 0, none⟩)], .int .i64 x, undef, undef, undef, undef, undef], defers := [] })
    (fun _ _ _ _ _ _ hs _ _ => hs)
    ?assign ?body ?done ?stop
  case assign =>
    rintro l pre x W K ⟨⟨v, hv, hrow, _⟩, hB⟩ hK
    gi_wp2
    exact hK _ _ ((KeepsOthers.refl _).from _) (Below.refl _ W) ⟨⟨v, hv, hrow, trivial⟩, hB⟩ rfl
  case body =>
    rintro l pre x a' W hl ⟨r, hr⟩ ⟨⟨v, hv, hrow, _⟩, hB⟩ rfl hlt
    have hc := hv.cell
    gi_wp2_with (gi_at_builtin; refine wpListIn_append_own _ rfl _ _ 28 rfl w.heap.size 3 i0 _ 1 8 Tryz.underlying28 hi hz0 hz1 hz2 rfl (by decide) _ _ _ rfl (hrow.alloc _) ⟨W.heap.size, 0, none⟩ 1 1 (encI x) rfl rfl (World.news_of_block (heap_alloc_new W _)) (oneI x) (by simp only [maxLen]; omega) (by omega) (by have := hB.size; simp; omega) ?_; intro v' w1 hown' hgrow _; obtain ⟨g', cap', rfl⟩ := ownsRow_succ hown'; obtain ⟨hv1, hv2, hr2, hk2, hb2⟩ := hv.appended (by decide) hrow hB.size (Nat.le_refl _) hown' hgrow; have hc1 := hv1.cell; have hf1 := hv1.frozen)
    exact ⟨hk2.from _, hb2.mono hw0, ⟨_, hv2, by simpa using hr2, trivial⟩, hB.trans hb2⟩
  case done =>
    rintro D ys W hD rfl ⟨⟨v, hv, hrow, _⟩, hB⟩ hK
    have hc := hv.cell
    gi_wp2
    refine ⟨by simp, .inl ⟨_, _, rfl, run_takeDeferred hK, ?_⟩⟩
    exact ⟨_, results_tmp rfl _ _ _, v, rfl, ownsRow_putObj hrow _ hK rfl, hB.trans (belowK_b (w := w) (Nat.le_refl _) W D _ _ (by omega) hK rfl rfl)⟩
  case stop =>
    rintro D c pre W _ _ h _
    exact h.elim

set_option maxHeartbeats 1000000 in
/-- slices.Collect(slices.Values(zs)). -/
theorem collectI_ok (Bs : Nat) (A : Option Addr) (c : Nat) (zs : List Int) (hlen : zs.length ≤ 1048576) (w0 w : World) (hb : Below w0.heap.size w0 w) (hBs : Bs < w.heap.size)
    (hc : w.cell? ⟨Bs, 0, none⟩ = some (.slice A zs.length c)) (hS : Ints w0 (.slice A zs.length c) zs) :
    Calls Tryz.prog 76 #[.func (.func 77) #[] #[.pointer (some ⟨Bs, 0, none⟩)]] w fun e W' =>
      ∃ v, e = .returned v ∧ OwnI w.heap.size W' v zs ∧ Below w.heap.size w W' := by
  have h := callsIn_wide.1 (appendI_in Fence.wide 3 trivial trivial rfl (by omega) Bs A c zs hlen w0 w hb hBs hc hS)
  clear hc
  go_enter Tryz.func76, Tryz.ntmps76
  go_wp2_with (go_at_call 101; refine h.mono ?_; rintro e W' ⟨v, rfl, ho, hb1⟩)
  go_ret
  exact ⟨v, rfl, ho, hb1⟩

set_option maxHeartbeats 1000000 in
/-- slices.Sorted(slices.Values(zs)): once Values has returned. -/
theorem sortedI_ok (A : Option Addr) (c : Nat) (zs : List Int) (hlen : zs.length ≤ 1048576) (w0 w : World) (hw : w0.alloc (.cells #[.slice A zs.length c] 28) = w) (hS : Ints w0 (.slice A zs.length c) zs) :
    Calls Tryz.prog 42 #[.func (.func 77) #[] #[.pointer (some ⟨w0.heap.size, 0, none⟩)]] w fun e W' =>
      ∃ v, e = .returned v ∧ OwnI w.heap.size W' v (sortI zs) ∧ Below w.heap.size w W' := by
  have h0 : Below w0.heap.size w0 w := by rw [← hw]; exact (Below.refl _ _).alloc (Nat.le_refl _) _
  have hlt : w0.heap.size < w.heap.size := by rw [← hw]; simp
  have hc : w.cell? ⟨w0.heap.size, 0, none⟩ = some (.slice A zs.length c) := by rw [← hw]; simp
  have h := collectI_ok w0.heap.size A c zs hlen w0 w h0 hlt hc hS
  clear hc hw hS
  go_enter Tryz.func42, Tryz.ntmps42
  go_wp2_with fail
  refine h.mono ?_
  rintro e w1 ⟨v, rfl, ho, hb1⟩
  go_wp2_with fail
  refine (sortI_ok _ _ _ _ ho hlen).mono ?_
  rintro e w2 ⟨rfl, ho2, hg⟩
  go_wp2_with fail
  go_ret
  exact ⟨v, rfl, ho2, hb1.grown hg hb1.size (fun k e => (ho.lt k e).1)⟩
end Go.Proofs.YtikfffojeakjoaaGreatDoor
