/- The functions of coinagebase that check a corpus list and compare graphs and lists of lists. Condition: the arguments read as lists. -/
import Derived.Test.YtnaoiochfdipiaaBase
namespace Go.Proofs.Ytnaoiochfdipiaa
open Go.RowKit

/-- The error of a corpus list. -/
def checkE (l : List Spec) : Int := if 64 < l.length then 6 else if l.all specB then (if (l.map Spec.id).Nodup then 0 else 8) else 1
theorem checkE_full {l : List Spec} (h : 64 < l.length) : checkE l = 6 := by simp [checkE, h]
theorem checkE_arg {l : List Spec} {k : Nat} {s : Spec} (h : ¬ 64 < l.length) (hs : l[k]? = some s) (hb : specB s = false) : checkE l = 1 := by
  have : ¬ l.all specB = true := by
    intro ha
    have := List.all_eq_true.1 ha s (List.mem_of_getElem? hs)
    rw [hb] at this
    cases this
  simp only [checkE, if_neg h, if_neg this]
theorem checkE_dup {l : List Spec} {i k : Nat} {s t : Spec} (h : ¬ 64 < l.length) (ha : l.all specB = true) (hs : l[i]? = some s) (ht : l[k]? = some t) (hk : k < i) (he : s.id = t.id) : checkE l = 8 := by
  have : ¬ (l.map Spec.id).Nodup := by
    intro hn
    have h1 := List.pairwise_iff_getElem.1 hn k i (by simpa using lt_of_get ht) (by simpa using lt_of_get hs) hk
    obtain ⟨h2, rfl⟩ := List.getElem?_eq_some_iff.1 hs
    obtain ⟨h3, rfl⟩ := List.getElem?_eq_some_iff.1 ht
    simp at h1
    exact h1 he.symm
  simp only [checkE, if_neg h, if_pos ha, if_neg this]
theorem checkE_ok {l : List Spec} (h : ¬ 64 < l.length) (ha : l.all specB = true) (hn : (l.map Spec.id).Nodup) : checkE l = 0 := by
  simp only [checkE, if_neg h, if_pos ha, if_pos hn]
theorem all_snoc {α : Type} {p : α → Bool} {l : List α} {k : Nat} {x : α} (hx : l[k]? = some x) (h : (l.take k).all p = true) (hp : p x = true) : (l.take (k + 1)).all p = true := by
  rw [take_snoc' hx, List.all_append, h]
  simpa using hp
theorem all_end {α : Type} {p : α → Bool} {l : List α} {k : Nat} (hk : ¬ k < l.length) (h : (l.take k).all p = true) : l.all p = true := by
  rwa [List.take_of_length_le (by omega)] at h
theorem nodup_snoc {l : List Spec} {k : Nat} {s : Spec} (hs : l[k]? = some s) (h : ((l.take k).map Spec.id).Nodup) (hn : ((l.take k).map Spec.id).contains s.id = false) : ((l.take (k + 1)).map Spec.id).Nodup := by
  rw [take_snoc' hs, List.map_append, List.nodup_append]
  have hn' : s.id ∉ (l.take k).map Spec.id := by
    intro hm
    rw [List.contains_iff_mem.2 hm] at hn
    cases hn
  refine ⟨h, by simp, fun a ha b hb e => ?_⟩
  simp only [List.map_cons, List.map_nil, List.mem_singleton] at hb
  subst hb
  exact hn' (e ▸ ha)
theorem nodup_end {l : List Spec} {k : Nat} (hk : ¬ k < l.length) (h : ((l.take k).map Spec.id).Nodup) : (l.map Spec.id).Nodup := by
  rwa [List.take_of_length_le (by omega)] at h
theorem contains_snoc {l : List Spec} {k : Nat} {t : Spec} {x : Int} (ht : l[k]? = some t) (h : ((l.take k).map Spec.id).contains x = false) (hn : x ≠ t.id) : ((l.take (k + 1)).map Spec.id).contains x = false := by
  rw [take_snoc' ht]
  rw [List.map_append, List.contains_eq_any_beq, List.any_append, ← List.contains_eq_any_beq, h]
  simpa using hn

theorem ret_i64 {a b : Int} (h : a = b) : Ending.returned (.int .i64 a) = .returned (.int .i64 b) := by rw [h]

/-! ### Graphs -/
/-- Whether a graph is valid. -/
def graphB (g : Graph) : Bool :=
  decide (g.obv.length ≤ 32) && decide (g.rev.length ≤ 32) && decide (g.links.length ≤ 64) && ascB g.obv 1 999 && ascB g.rev 1 999 && ascB (g.links.map Link.id) 1 9999 &&
    g.links.all (fun x => hasB g.obv x.obv && hasB g.rev x.rev) && g.obv.all (fun n => hasB (g.links.map Link.obv) n) && g.rev.all (fun n => hasB (g.links.map Link.rev) n)
structure GraphOK (g : Graph) : Prop where
  lo : g.obv.length ≤ 32
  lr : g.rev.length ≤ 32
  ll : g.links.length ≤ 64
  ao : ascB g.obv 1 999 = true
  ar : ascB g.rev 1 999 = true
  ids : ascB (g.links.map Link.id) 1 9999 = true
  ends : g.links.all (fun x => hasB g.obv x.obv && hasB g.rev x.rev) = true
  uo : g.obv.all (fun n => hasB (g.links.map Link.obv) n) = true
  ur : g.rev.all (fun n => hasB (g.links.map Link.rev) n) = true
theorem graphB_iff (g : Graph) : graphB g = true ↔ GraphOK g := by
  simp only [graphB, Bool.and_eq_true, decide_eq_true_eq]
  exact ⟨fun ⟨⟨⟨⟨⟨⟨⟨⟨a, b⟩, c⟩, d⟩, e⟩, f⟩, g⟩, h⟩, i⟩ => ⟨a, b, c, d, e, f, g, h, i⟩, fun ⟨a, b, c, d, e, f, g, h, i⟩ => ⟨⟨⟨⟨⟨⟨⟨⟨a, b⟩, c⟩, d⟩, e⟩, f⟩, g⟩, h⟩, i⟩⟩
theorem graphB_no {g : Graph} (h : ¬ GraphOK g) : graphB g = false := by
  rw [Bool.eq_false_iff]
  exact fun e => h ((graphB_iff g).1 e)

theorem GraphAt.below {w w' : World} {v : Value} {g : Graph} (h : GraphAt w v g) (hb : Below w.heap.size w w') : GraphAt w' v g := by
  obtain ⟨v1, v2, v3, e, a, b, c⟩ := h
  exact ⟨v1, v2, v3, e, SlOf.below a hb, SlOf.below b hb, SlOf.below c hb⟩
theorem bcell {W w1 : World} (hb : Below W.heap.size W w1) : (∀ b o, b < W.heap.size → w1.cell? ⟨b, o, none⟩ = W.cell? ⟨b, o, none⟩) ∧ (∀ b o, b < W.heap.size → w1.frozen? ⟨b, o, none⟩ = W.frozen? ⟨b, o, none⟩) :=
  ⟨fun b o h => hb.cell (p := ⟨b, o, none⟩) h, fun b o h => hb.frozen (p := ⟨b, o, none⟩) h⟩

end Go.Proofs.Ytnaoiochfdipiaa
