/- cover.list. Condition: the argument's maps. -/
import Derived.Test.YtnaoiochfdipiaaCovA
namespace Go.Proofs.Ytnaoiochfdipiaa
open Go.RowKit Go.Shelf Go.Maps

/-- What has been read of a map: its entries but for those that are still to come. -/
structure Coll (m : List (Int × Int)) (todo : List Int) (zs : List Pair) : Prop where
  nd : zs.Nodup
  mem : ∀ p : Pair, p ∈ zs ↔ lookM m p.a = some p.b ∧ p.a ∉ todo
section
variable {m : List (Int × Int)} {todo : List Int} {zs : List Pair}
theorem Coll.start (m : List (Int × Int)) : Coll m (m.map Prod.fst) [] := ⟨List.nodup_nil, fun _ => ⟨fun h => absurd h List.not_mem_nil, fun ⟨h1, h2⟩ => absurd (List.mem_map.2 ⟨_, lookM_some h1, rfl⟩) h2⟩⟩
theorem Coll.step (h : Coll m todo zs) {x y : Int} (hx : x ∈ todo) (hl : lookM m x = some y) : Coll m (todo.filter fun z => decide (z ≠ x)) (zs ++ [⟨x, y⟩]) := by
  have hno : (⟨x, y⟩ : Pair) ∉ zs := fun hm => ((h.mem _).1 hm).2 hx
  refine ⟨?_, fun p => ?_⟩
  · rw [List.nodup_append]
    exact ⟨h.nd, by simp, fun a ha c hc e => by simp at hc; subst hc; subst e; exact hno ha⟩
  · rw [List.mem_append, List.mem_singleton, h.mem, List.mem_filter, decide_eq_true_eq]
    constructor
    · rintro (⟨h1, h2⟩ | rfl)
      · exact ⟨h1, fun h3 => h2 h3.1⟩
      · exact ⟨hl, fun h3 => h3.2 rfl⟩
    · rintro ⟨h1, h2⟩
      by_cases e : p.a = x
      · refine .inr ?_
        rw [e, hl] at h1
        have := Option.some.inj h1
        cases p
        simp_all
      · exact .inl ⟨h1, fun h3 => h2 ⟨h3, e⟩⟩
theorem pairs_nodup (hn : (m.map Prod.fst).Nodup) : (m.map pairM).Nodup := by
  refine nodup_map _ (List.Pairwise.of_map Prod.fst (fun a b h e => h (by rw [e])) hn) fun p hp q hq e => ?_
  simp only [pairM, Pair.mk.injEq] at e
  exact Prod.ext e.1 e.2
theorem Coll.sub (h : Coll m todo zs) : ∀ p ∈ zs, p ∈ m.map pairM := fun p hp => List.mem_map.2 ⟨_, lookM_some ((h.mem p).1 hp).1, rfl⟩
theorem Coll.len (h : Coll m todo zs) : zs.length ≤ m.length := by
  have := nodup_len h.nd h.sub
  rwa [List.length_map] at this
theorem Coll.perm (h : Coll m [] zs) (hn : (m.map Prod.fst).Nodup) : zs.Perm (m.map pairM) := by
  refine (List.perm_ext_iff_of_nodup h.nd (pairs_nodup hn)).2 fun p => ⟨h.sub p, fun hp => ?_⟩
  obtain ⟨q, hq, rfl⟩ := List.mem_map.1 hp
  exact (h.mem _).2 ⟨(lookM_mem hn).2 hq, List.not_mem_nil⟩
end
/-- The walk of a range over a map of numbers. -/
def RangeI (w : World) (b r : Nat) (m : List (Int × Int)) (todo : List Int) : Prop := RangeAt (P := Try.prog) (keyInt Try.underlying3) (elInt Try.underlying3 zInt) w b r m todo

set_option maxHeartbeats 4000000 in
set_option maxRecDepth 100000 in
theorem list_ok (bo br : Nat) (s : St) (w : World) (h : StAt w bo br s) (hn : s.obv.length ≤ 1000) :
    Calls Try.prog 42 #[.agg #[.map (some bo), .map (some br)]] w fun e w' => ∃ u ys, e = .returned u ∧ OwnP w.heap.size w' u ys ∧ ListOf s.obv ys ∧ Below w.heap.size w w' := by
  obtain ⟨W, hW, Hz, hwW, hlt, hc1⟩ := boxed w #[.map (some bo), .map (some br)] 62
  have a0 := hc1 0 _ rfl; have a1 := hc1 1 _ rfl
  clear hc1
  have hm : MapII W bo s.obv := (h.below hwW).o
  have hnd := hm.nodup
  have hbo := h.o.lt
  obtain ⟨iP, hiP, hzP, hkP, hbP⟩ := info_parts infoP
  go_enter Try.func42, Try.ntmps42
  go_wp2_with (first | (at_range; refine wpList_rangeAt rfl _ rfl Try.underlying60 hm rfl ?_; intro w1 hr1 hb1 hz1))
  go_frame
  clear hW
  have hb0 := below_trans hwW hb1
  have Hlz : Hid (W.heap.size = w.heap.size + 1) := Lib.hid (by rw [← Hz.out])
  go_loopw [3] (fun u wr => ∃ (zs : List Pair) (todo : List Int), w1.heap.size ≤ wr.heap.size ∧ OwnP w1.heap.size wr u zs ∧ RangeI wr bo W.heap.size s.obv todo ∧ Coll s.obv todo zs ∧ Below w.heap.size w wr) (fun _ wr => wr.rangeLeft bo W.heap.size)
  case atStart => exact ⟨[], _, Nat.le_refl _, own_nil _ _ _ _ _, hr1, Coll.start _, hb0⟩
  case round =>
    obtain ⟨zs, todo, hws, hown, hr, hcol, hb⟩ := hrel
    have hlen := hcol.len
    have Hcol := Lib.hid hcol; clear hcol
    go_wp2_with (at_next; refine wpList_nextAt rfl _ rfl hr rfl ?_ ?_)
    · rintro rfl
      have Hown := Lib.hid hown; clear hown
      have hlen' : zs.length ≤ 1048576 := by omega
      have hpm := Lib.hid (Hcol.out.perm hnd)
      clear hr hr1
      go_wp2_with fail
      refine (sortOrder_ok _ _ _ _ Hown.out hlen').mono ?_
      rintro e w2 ⟨rfl, ys, hys, hby, _, hg2⟩
      have hb2 : Below w.heap.size w w2 := hb.grown hg2 hb.size (fun j e => by have := (Hown.out.lt j e).1; omega)
      have Hl := Lib.hid (listOf_byPair hnd hpm.out hby)
      clear hby hg2
      go_wp2_with fail
      go_ret
      exact ⟨_, ys, rfl, hys.base (by omega), Hl.out, hb2⟩
    · intro x y w2 hx hl hr2 hlt2 hg2 hz2 hen
      change (Instr.entry (.pointer (some ⟨W.heap.size, 0, none⟩))).run Try.prog w2 = .ok (.tuple #[.int .i64 x, .int .i64 y]) w2 at hen
      change wpList _ _ _ _ { tmps := #[_, _, _, _, _, _, _, _, _, .tuple #[.bool true, .int .i64 x, .int .i64 y], _, _, _, _, _, _, _, _, _, _, _, _, _], defers := _ } _
      have hown2 : OwnP w1.heap.size w2 _ zs := Own.kept hown hg2 (.inr fun j => by have := hown.lt _ j; omega)
      have hb2 : Below w.heap.size w w2 := hb.grown hg2 hb.size (fun j e => by cases e; omega)
      have hw2 : w1.heap.size ≤ w2.heap.size := by omega
      have hz2' := Lib.hid hz2; clear hz2
      go_wp2_with (at_builtin; refine wpList_append1 (enc := encP) (size := 2) (B := w1.heap.size) rfl (.tmp 14) (.tmp 18) _ rfl 48 iP _ 16 Try.underlying37 hiP hzP hkP hbP rfl (by decide) rfl hown2 ⟨x, y⟩ _ rfl lenP oneP _ rfl rfl (by omega) (by omega) hw2 ?_; intro v' w3 hown' hgrow hat)
      have hne : ∀ j, Value.ownBlock _ = some j → w1.heap.size ≤ j ∧ j < w2.heap.size := hown2.lt
      have hst := Hcol.out.step hx hl
      simp only [ne_eq, decide_not] at hst
      refine ⟨?rel, ?measure⟩
      case rel => exact ⟨zs ++ [⟨x, y⟩], _, Nat.le_trans hw2 hgrow.size, hown', RangeAt.kept hr2 hgrow (fun e => by have := (hne _ e.symm).1; omega) (fun e => by have := (hne _ e.symm).1; omega), hst, hb2.grown hgrow hb2.size (fun j e => by have := (hne j e).1; omega)⟩
      case measure =>
        rw [RangeAt.left_kept hr2 hgrow (fun e => by have := (hne _ e.symm).1; omega) (fun e => by have := (hne _ e.symm).1; omega)]
        exact hlt2
end Go.Proofs.Ytnaoiochfdipiaa
