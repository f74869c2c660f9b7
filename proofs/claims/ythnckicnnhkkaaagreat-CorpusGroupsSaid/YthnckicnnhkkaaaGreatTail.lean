/- A region that draws its order, whose last operations (the stores) come in one order behind all others: the head's loads are taken first under a condition S that the stores need not keep. No program, no condition. -/
import Derived.StillTail
import Derived.OrdersHeld
import Derived.WalkKit
import Derived.Test.YthnckicnnhkkaaaGreatProg
import Derived.Deep.Quiet
import Derived.Test.YthnckicnnhkkaaaGreatLib
namespace Go.Proofs.YthnckicnnhkkaaaGreat
open Go

section
variable {P : Program} {ops : Array Oper} {Q : Exit → Act → World → Prop} {md : Region.Mode} {S : World → Prop}

/-- Whatever order is picked for the first n operations: S holds behind each; then L. -/
def wpAnyS (P : Program) (md : Region.Mode) (ops : Array Oper) (Q : Exit → Act → World → Prop) (S : World → Prop) (n : Nat) (L : Array Bool → Act → World → Prop) : Nat → Array Bool → Act → World → Prop
  | 0, listed, a, w => L listed a w
  | f + 1, listed, a, w =>
    Region.ready md ops listed ≠ [] ∧ ∀ i ∈ Region.ready md ops listed, i < n ∧ wpOp P ops Q i (fun a' w' => S w' ∧ wpAnyS P md ops Q S n L f (listed.setIfInBounds i true) a' w') a w

theorem wpAny_of_S {n g : Nat} {L : Array Bool → Act → World → Prop} (hL : ∀ listed a w, L listed a w → wpAny P md ops Q g listed a w) :
    ∀ (f : Nat) (listed : Array Bool) (a : Act) (w : World), wpAnyS P md ops Q S n L f listed a w → wpAny P md ops Q (f + g) listed a w
  | 0, listed, a, w, h => by rw [Nat.zero_add]; exact hL _ _ _ h
  | f + 1, listed, a, w, h => by
    rw [show f + 1 + g = (f + g) + 1 by omega]
    exact ⟨fun h0 => absurd h0 h.1, fun i hi => wpOp_mono (fun a' w' h' => wpAny_of_S hL f _ a' w' h'.2) (h.2 i hi).2⟩

theorem wpAnyS_first {n i : Nat} {oi : Oper} {v : Value} {L : Array Bool → Act → World → Prop} (hi : ops[i]? = some oi) (hsel : ∀ (j : Nat) (o : Oper) cs b, ops[j]? = some o → o.op ≠ .select cs b)
    (hQ : ∀ c a w, Q (.panic c) (a.put oi.dst v) w → Q (.panic c) a w)
    (hs : Region.sinkB md ops n = true) (hc : Region.chainB md ops n = true) (hn : n < ops.size) (hin : i < n)
    (hdone : ∀ listed a w, L listed a w → ∀ j ∈ Region.ready md ops listed, n ≤ j) :
    ∀ (f : Nat) (listed : Array Bool) (a : Act) (w : World), HeadInv md ops n listed →
      (∀ j oj, ops[j]? = some oj → j ≠ i → listed.getD j true = false → (∀ e ∈ oj.after, Region.binds md e = true → e.on ≠ i) → oi.apart ops oj = true) →
      i ∈ Region.ready md ops listed → YieldsIf P ops S oi v a → S w →
      wpAnyS P md ops Q S n L f (listed.setIfInBounds i true) (a.put oi.dst v) w → wpAnyS P md ops Q S n L (f + 1) listed a w := by
  intro f
  induction f with
  | zero =>
    intro listed a w inv _ hr hy hS H
    have hun := (mem_ready.1 hr).1
    refine ⟨fun h => (by rw [h] at hr; cases hr), fun j hj => ?_⟩
    have hjn : j < n := by
      rcases Nat.lt_or_ge j n with h | h
      · exact h
      · exact absurd hj (tail_waits hs hc hn inv _ i rfl hin hun j h)
    refine ⟨hjn, ?_⟩
    by_cases hji : j = i
    · subst hji; exact hy.wpOp hi hS ⟨hS, H⟩
    · have := hdone _ _ _ H j (ready_mono hj hji)
      omega
  | succ f ih =>
    intro listed a w inv hfree hr hy hS H
    have hun := (mem_ready.1 hr).1
    refine ⟨fun h => (by rw [h] at hr; cases hr), fun j hj => ?_⟩
    have hjn : j < n := by
      rcases Nat.lt_or_ge j n with h | h
      · exact h
      · exact absurd hj (tail_waits hs hc hn inv _ i rfl hin hun j h)
    refine ⟨hjn, ?_⟩
    by_cases hji : j = i
    · subst hji; exact hy.wpOp hi hS ⟨hS, H⟩
    · have h1 := (H.2 j (ready_mono hj hji)).2
      obtain ⟨hjun, oj, hoj, hall⟩ := mem_ready.1 hj
      have hnot : ∀ e ∈ oj.after, Region.binds md e = true → e.on ≠ i := fun e he hb heq => by
        have h1 := hall e he hb
        rw [heq, getD_both hun] at h1
        cases h1
      have h2 := wpOp_putIf hoj (hfree j oj hoj hji hjun hnot) (fun cs b => hsel i oi cs b hi) (fun cs b => hsel j oj cs b hoj) hQ hy h1
      have hfree' : ∀ k ok, ops[k]? = some ok → k ≠ i → (listed.setIfInBounds j true).getD k true = false →
          (∀ e ∈ ok.after, Region.binds md e = true → e.on ≠ i) → oi.apart ops ok = true := fun k ok hk hki hun hno => by
        refine hfree k ok hk hki ?_ hno
        by_cases hjk : j = k
        · subst hjk; exact hjun
        · rw [getD_set_ne true hjk] at hun; exact hun
      refine wpOp_mono (fun a' w' h3 => ⟨h3.2.1, ih (listed.setIfInBounds j true) a' w' (inv.set hj hjn) hfree' (ready_mono hr (Ne.symm hji)) h3.1 h3.2.1 ?_⟩) h2
      rw [Array.setIfInBounds_comm _ _ hji]
      exact h3.2.2

/-- The head's invariant as a Bool. -/
def headInvB (md : Region.Mode) (ops : Array Oper) (n : Nat) (listed : Array Bool) : Bool :=
  listed.size == ops.size && (List.range ops.size).all (fun j => !listed.getD j false || (match ops[j]? with | some oj => oj.after.all (fun e => !Region.binds md e || listed.getD e.on false) | none => true)) &&
    (List.range ops.size).all (fun t => decide (t < n) || !listed.getD t true)
theorem headInv_of {n : Nat} {listed : Array Bool} (h : headInvB md ops n listed = true) : HeadInv md ops n listed := by
  simp only [headInvB, Bool.and_eq_true, beq_iff_eq, List.all_eq_true, List.mem_range, Bool.or_eq_true, Bool.not_eq_true', decide_eq_true_eq] at h
  obtain ⟨⟨h1, h2⟩, h3⟩ := h
  refine ⟨h1, fun j oj hj hl e he hb => ?_, fun t ht ht' => ?_⟩
  · have hlt : j < ops.size := (Array.getElem?_eq_some_iff.1 hj).1
    rcases h2 j hlt with h | h
    · rw [h] at hl; cases hl
    · rw [hj] at h
      have := Array.all_eq_true_iff_forall_mem.1 h e he
      simp only [Bool.or_eq_true, Bool.not_eq_true'] at this
      rcases this with this | this
      · rw [this] at hb; cases hb
      · exact this
  · rcases h3 t ht' with h | h
    · omega
    · exact h
/-- What the walk ends in: the tail's operations, in one order. -/
def tailOf (P : Program) (md : Region.Mode) (ops : Array Oper) (Q : Exit → Act → World → Prop) (n : Nat) (listed : Array Bool) (a : Act) (w : World) : Prop :=
  Region.seqB md ops (ops.size - n) n listed = true ∧ wpList P ops Q (ops.toList.drop n) a w
def takeB (md : Region.Mode) (ops : Array Oper) (n : Nat) (listed : Array Bool) (i : Nat) : Bool :=
  Region.noSelect ops && Region.free md ops listed i && (Region.ready md ops listed).contains i && Region.sinkB md ops n && Region.chainB md ops n && decide (n < ops.size) && decide (i < n) && headInvB md ops n listed
theorem wpAnyS_take {n : Nat} (i : Nat) {oi : Oper} (v : Value) {f : Nat} {listed : Array Bool} {a : Act} {w : World} (hi : ops[i]? = some oi) (hB : takeB md ops n listed i = true)
    (hQ : ∀ c a w, Q (.panic c) (a.put oi.dst v) w → Q (.panic c) a w) (hg : oi.guard = none) (hy : ∀ w, S w → (execOp a.eval oi).run P w = .ok (.value v) w) (hS : S w)
    (h : wpAnyS P md ops Q S n (tailOf P md ops Q n) f (listed.setIfInBounds i true) (a.put oi.dst v) w) : wpAnyS P md ops Q S n (tailOf P md ops Q n) (f + 1) listed a w := by
  simp only [takeB, Bool.and_eq_true, decide_eq_true_eq] at hB
  obtain ⟨⟨⟨⟨⟨⟨⟨hsel, hfree⟩, hr⟩, hs⟩, hc⟩, hn⟩, hin⟩, hinv⟩ := hB
  exact wpAnyS_first hi (Region.noSelect_spec hsel) hQ hs hc hn hin (fun listed a w hL => seqB_ready hL.1) f listed a w (headInv_of hinv) (Region.free_spec hi hfree) (by simpa using hr)
    (.inl ⟨by simp [Region.wanted, hg], hy⟩) hS h
theorem wpOp_want {i : Nat} {o : Oper} {a : Act} {w : World} {K : Act → World → Prop} (hi : ops[i]? = some o) (h : if Region.wanted o (yielded ops a.tmps) = true then Oper.wp P o a w K Q else K (a.put o.dst undef) w) : wpOp P ops Q i K a w := by
  unfold wpOp
  simp only [hi]
  split
  · rename_i hw; rw [if_pos hw] at h; exact .inl h
  · rename_i hw; rw [if_neg hw] at h; exact h
theorem wpAnyS_one {n : Nat} (i : Nat) {o : Oper} {f : Nat} {listed : Array Bool} {a : Act} {w : World} (hr : Region.ready md ops listed = [i]) (hi : ops[i]? = some o) (hin : i < n)
    (h : ∀ K : Act → World → Prop, (∀ a' w', S w' → wpAnyS P md ops Q S n (tailOf P md ops Q n) f (listed.setIfInBounds i true) a' w' → K a' w') → if Region.wanted o (yielded ops a.tmps) = true then Oper.wp P o a w K Q else K (a.put o.dst undef) w) :
    wpAnyS P md ops Q S n (tailOf P md ops Q n) (f + 1) listed a w := by
  refine ⟨by rw [hr]; simp, fun j hj => ?_⟩
  rw [hr, List.mem_singleton] at hj
  subst hj
  exact ⟨hin, wpOp_want hi (h _ fun a' w' h1 h2 => ⟨h1, h2⟩)⟩
theorem wpAnyS_two {n : Nat} (i j : Nat) {o o' : Oper} {f : Nat} {listed : Array Bool} {a : Act} {w : World} (hr : Region.ready md ops listed = [i, j]) (hi : ops[i]? = some o) (hj : ops[j]? = some o') (hin : i < n) (hjn : j < n)
    (h : ∀ K : Act → World → Prop, (∀ a' w', S w' → wpAnyS P md ops Q S n (tailOf P md ops Q n) f (listed.setIfInBounds i true) a' w' → K a' w') → if Region.wanted o (yielded ops a.tmps) = true then Oper.wp P o a w K Q else K (a.put o.dst undef) w)
    (h' : ∀ K : Act → World → Prop, (∀ a' w', S w' → wpAnyS P md ops Q S n (tailOf P md ops Q n) f (listed.setIfInBounds j true) a' w' → K a' w') → if Region.wanted o' (yielded ops a.tmps) = true then Oper.wp P o' a w K Q else K (a.put o'.dst undef) w) :
    wpAnyS P md ops Q S n (tailOf P md ops Q n) (f + 1) listed a w := by
  refine ⟨by rw [hr]; simp, fun k hk => ?_⟩
  rw [hr] at hk
  simp only [List.mem_cons, List.not_mem_nil, or_false] at hk
  rcases hk with rfl | rfl
  · exact ⟨hin, wpOp_want hi (h _ fun a' w' h1 h2 => ⟨h1, h2⟩)⟩
  · exact ⟨hjn, wpOp_want hj (h' _ fun a' w' h1 h2 => ⟨h1, h2⟩)⟩
/-- The beginning. -/
theorem wp_region_S {id : Nat} {a : Act} {w : World} (n : Nat) (S : World → Prop) (hm : P.follows .mixedOrders = true) (hn : n ≤ ops.size)
    (h : wpAnyS P .any ops Q S n (tailOf P .any ops Q n) n (Array.replicate ops.size false) a w.drew) : (Code.region id ops true).wp P Q a w := by
  refine wp_region_any hm ?_
  have := wpAny_of_S (g := ops.size - n) (fun listed a' w' hL => by
    have := wpAny_of_seq (md := .any) (Q' := Q) (ops.toList.drop n) n listed a' w' (fun j => by simp [List.getElem?_drop]) (by simpa using hL.1) hL.2
    simpa using this) n _ a w.drew h
  rwa [show n + (ops.size - n) = ops.size by omega] at this
end
end Go.Proofs.YthnckicnnhkkaaaGreat
/- A region's operation taken first, its slot given (so that the terms do not grow). No program, no condition. -/
namespace Go.Proofs.YthnckicnnhkkaaaGreat
open Go.RowKit
theorem wpAnyS_takeD {P : Program} {md : Region.Mode} {ops : Array Oper} {Q : Exit → Act → World → Prop} {S : World → Prop} {n : Nat} (i : Nat) (d : Option Tmp) {oi : Oper} (v : Value) {f : Nat} {listed : Array Bool} {a : Act} {w : World} (hi : ops[i]? = some oi) (hd : oi.dst = d) (hB : takeB md ops n listed i = true)
    (hQ : ∀ c a w, Q (.panic c) (a.put oi.dst v) w → Q (.panic c) a w) (hg : oi.guard = none) (hy : ∀ w, S w → (execOp a.eval oi).run P w = .ok (.value v) w) (hS : S w)
    (h : wpAnyS P md ops Q S n (tailOf P md ops Q n) f (listed.setIfInBounds i true) (a.put d v) w) : wpAnyS P md ops Q S n (tailOf P md ops Q n) (f + 1) listed a w := by
  subst hd
  exact wpAnyS_take i v hi hB hQ hg hy hS h
end Go.Proofs.YthnckicnnhkkaaaGreat
/- A region's guarded operation taken first, once its guard is met. No program, no condition. -/
namespace Go.Proofs.YthnckicnnhkkaaaGreat
open Go.RowKit
theorem wpAnyS_takeG {P : Program} {md : Region.Mode} {ops : Array Oper} {Q : Exit → Act → World → Prop} {S : World → Prop} {n : Nat} (i : Nat) (d : Option Tmp) {oi : Oper} (v : Value) {f : Nat} {listed : Array Bool} {a : Act} {w : World} (hi : ops[i]? = some oi) (hd : oi.dst = d) (hB : takeB md ops n listed i = true)
    (hQ : ∀ c a w, Q (.panic c) (a.put oi.dst v) w → Q (.panic c) a w) (hg : Region.wanted oi (yielded ops a.tmps) = true) (hy : ∀ w, S w → (execOp a.eval oi).run P w = .ok (.value v) w) (hS : S w)
    (h : wpAnyS P md ops Q S n (tailOf P md ops Q n) f (listed.setIfInBounds i true) (a.put d v) w) : wpAnyS P md ops Q S n (tailOf P md ops Q n) (f + 1) listed a w := by
  subst hd
  simp only [takeB, Bool.and_eq_true, decide_eq_true_eq] at hB
  obtain ⟨⟨⟨⟨⟨⟨⟨hsel, hfree⟩, hr⟩, hs⟩, hc⟩, hn⟩, hin⟩, hinv⟩ := hB
  exact wpAnyS_first hi (Region.noSelect_spec hsel) hQ hs hc hn hin (fun listed a w hL => seqB_ready hL.1) f listed a w (headInv_of hinv) (Region.free_spec hi hfree) (by simpa using hr)
    (.inl ⟨hg, hy⟩) hS h
end Go.Proofs.YthnckicnnhkkaaaGreat
/- A region that draws its order: its head only reads and calls quietly, its tail comes in one order: one walk in the order of the text. No program, no condition. -/
namespace Go.Proofs.YthnckicnnhkkaaaGreat
open Go Go.RowKit

section
variable {P : Program} {ops : Array Oper} {Q : Exit → Act → World → Prop} {md : Region.Mode} {C : World → Prop}

end
end Go.Proofs.YthnckicnnhkkaaaGreat
