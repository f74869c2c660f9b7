/- A range over a map of the call's own: what is still to come. No condition. -/
import Derived.Test.YtnaoiochfdipiaaMapK
import Derived.Maps.RangeWalk
namespace Go.Proofs.Ytnaoiochfdipiaa
open Go.RowKit Go.Maps

section
variable {κ β : Type} [DecidableEq κ] {P : Program} {k e t : TypeId} (KE : KeyEnc P k κ) (EE : ElEnc P e β)
/-- The walk r over the map b: the keys todo are still to come. -/
structure RangeAt (w : World) (b r : Nat) (m : List (κ × β)) (todo : List κ) : Prop where
  map : MapAt KE EE w b m
  run : ∃ (D : DataW Unit) (left : Lit → Bool) (cnt n : Nat), w.ranges P k (plainElem P e) b r n D left cnt ∧ (∀ x, KE.ok x → ∀ zd, D.atKey (KE.lit x) zd = match lookM m x with | some y => EE.el y | none => zd) ∧ ∀ x, KE.ok x → left (KE.lit x) = decide (x ∈ todo)
  sub : ∀ x ∈ todo, x ∈ m.map Prod.fst
variable {KE EE} {w w' : World} {b r : Nat} {m : List (κ × β)} {todo : List κ}
theorem RangeAt.lt (h : RangeAt KE EE w b r m todo) : r < w.heap.size := by obtain ⟨D, left, cnt, n, h1, _⟩ := h.run; exact h1.lt
theorem RangeAt.kept {row : Option Nat} (h : RangeAt KE EE w b r m todo) (hg : w.grownBy w' row) (hb : some b ≠ row) (hr : some r ≠ row) : RangeAt KE EE w' b r m todo := by
  obtain ⟨D, left, cnt, n, h1, h2⟩ := h.run
  exact ⟨h.map.kept hg hb, ⟨D, left, cnt, n, h1.kept hg hb hr, h2⟩, h.sub⟩
theorem RangeAt.left_kept {row : Option Nat} (h : RangeAt KE EE w b r m todo) (hg : w.grownBy w' row) (hb : some b ≠ row) (hr : some r ≠ row) : w'.rangeLeft b r = w.rangeLeft b r := by
  obtain ⟨D, left, cnt, n, h1, h2⟩ := h.run
  rw [h1.left_eq, (h1.kept hg hb hr).left_eq]
theorem mem_ok (h : MapAt KE EE w b m) {x : κ} (hx : x ∈ m.map Prod.fst) : KE.ok x := by
  obtain ⟨p, hp, rfl⟩ := List.mem_map.1 hx
  exact (h.good p hp).1

variable {ops : Array Oper} {rest : List Oper} {o : Oper} {a : Act} {Q : Exit → Act → World → Prop}
theorem wpList_rangeAt (hg : o.guard = none) (mo : Operand) (hop : o.op = Op.range t mo) (ht : P.underlying t = some (.map k e)) (h : MapAt KE EE w b m) (hm : a.eval mo = .map (some b))
    (hK : ∀ w', RangeAt KE EE w' b w.heap.size m (m.map Prod.fst) → Below w.heap.size w w' → w'.heap.size = w.heap.size + 1 → wpList P ops Q rest (a.put o.dst (.pointer (some ⟨w.heap.size, 0, none⟩))) w') :
    wpList P ops Q (o :: rest) a w := by
  obtain ⟨D, h1, h2, h3, h4⟩ := h.own
  refine wpList_range_own w hg mo t hop k e KE.keyed ht _ b _ D hm h1 fun w' hrg hgr hsz => hK w' ⟨h.kept hgr (by simp), ⟨D, _, _, _, hrg, fun x hx => (h4 x hx).2, fun x hx => ?_⟩, fun _ h => h⟩ ?_ hsz
  · rw [(h4 x hx).1, Bool.eq_iff_iff, decide_eq_true_eq]
    cases hl : lookM m x with
    | none => simp only [Option.isSome_none, Bool.false_eq_true, false_iff]; exact lookM_none.1 hl
    | some y => simp only [Option.isSome_some, true_iff]; exact List.mem_map.2 ⟨_, lookM_some hl, rfl⟩
  · exact ⟨hgr.os, hgr.tape, hgr.output, hgr.size, fun i hi => hgr.block i hi (by simp)⟩
theorem wpList_nextAt (hg : o.guard = none) (it : Operand) (hop : o.op = Op.next it false) (h : RangeAt KE EE w b r m todo) (hit : a.eval it = .pointer (some ⟨r, 0, none⟩))
    (hDone : todo = [] → wpList P ops Q rest (a.put o.dst (.tuple #[.bool false])) w)
    (hMore : ∀ (x : κ) (y : β) (w' : World), x ∈ todo → lookM m x = some y → RangeAt KE EE w' b r m (todo.filter fun z => decide (z ≠ x)) → w'.rangeLeft b r < w.rangeLeft b r → w.grownBy w' (some r) → w'.heap.size = w.heap.size →
      (Instr.entry (.pointer (some ⟨r, 0, none⟩))).run P w' = .ok (.tuple #[KE.val x, EE.val y]) w' → wpList P ops Q rest (a.put o.dst (.tuple #[.bool true, KE.val x, EE.val y])) w') :
    wpList P ops Q (o :: rest) a w := by
  obtain ⟨D, left, cnt, n, h1, h2, h3⟩ := h.run
  refine wpList_next_ranges w hg it hop k KE.keyed (plainElem P e) KE.val EE.val (fun key kl hkey => by obtain ⟨x, _, hx, _⟩ := KE.inv hkey; exact ⟨x, hx⟩) (fun v y hv => by obtain ⟨x, _, hx, _⟩ := EE.inv hv; exact ⟨x, hx⟩) b r n D left cnt hit h1
    (fun _ hl => hDone ?_) (fun x c kl y w' cnt' hkey hlk hv hat hrg hlt hgr hsz hen => ?_)
  · refine List.eq_nil_iff_forall_not_mem.2 fun x hx => ?_
    have := h3 x (mem_ok h.map (h.sub x hx))
    rw [hl] at this
    simp [hx] at this
  · obtain ⟨x', hx', e1, e2⟩ := KE.inv hkey
    obtain ⟨c', hc', e3, e4⟩ := EE.inv hv
    have hin : ∀ {x y : κ}, KE.ok x → KE.ok y → KE.val x = KE.val y → x = y := fun {x y} hx hy e => by
      have k1 := KE.key hx
      rw [e, KE.key hy] at k1
      exact (KE.inj hy hx (Option.some.inj k1)).symm
    have hmem : x' ∈ todo := by
      have := h3 x' hx'
      rw [← e2, hlk] at this
      simpa using this.symm
    have hlook : lookM m x' = some c' := by
      have h5 := hat
      have h6 := h2 x' hx'
      rw [e2] at h5
      cases hl : lookM m x' with
      | none => exact absurd (List.mem_map.1 (h.sub x' hmem)) (fun ⟨p, hp, ep⟩ => (lookM_none.1 hl) (List.mem_map.2 ⟨p, hp, ep⟩))
      | some u =>
        rw [hl] at h6
        have e5 := (h6 (EE.el u)).symm.trans (h5 (EE.el u))
        rw [e4] at e5
        exact congrArg some (EE.inj e5)
    have hre : RangeAt KE EE w' b r m (todo.filter fun z => decide (z ≠ x')) := by
      refine ⟨h.map.kept hgr (fun e => h1.ne (Option.some.inj e).symm), ⟨D, _, cnt', n, hrg, h2, fun z hz => ?_⟩, fun z hz => h.sub z (List.mem_filter.1 hz).1⟩
      rw [h3 z hz, e2, Bool.eq_iff_iff]
      simp only [Bool.and_eq_true, decide_eq_true_eq, Bool.not_eq_true', List.mem_filter]
      refine and_congr_right fun hzt => ?_
      constructor
      · rintro h7 rfl
        rw [WideAt.sameKey_self (KE.keyed.key (KE.key hx'))] at h7
        cases h7
      · intro h7
        cases h8 : (KE.lit z).sameKey (KE.lit x')
        · rfl
        · exact absurd (KE.inj hz hx' (WideAt.sameKey_eq h8)) h7
    have hlt' : w'.rangeLeft b r < w.rangeLeft b r := by rw [h1.left_eq, hrg.left_eq]; exact hlt
    rw [e1, e3] at hen ⊢
    exact hMore x' c' w' hmem hlook hre hlt' hgr hsz hen
end
end Go.Proofs.Ytnaoiochfdipiaa
