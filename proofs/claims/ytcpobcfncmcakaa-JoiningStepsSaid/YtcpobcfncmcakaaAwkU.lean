/- The fixed list of law17.awake, plain. No program in sight, no condition. -/
import Derived.Test.YtcpobcfncmcakaaAwkT
namespace Go.Proofs.Ytcpobcfncmcakaa
open Go.RowKit Go.Maps

theorem slOf_block {α : Type} {enc : α → List Value} {k : Nat} {w : World} {g n c : Nat} {t : TypeId} {xs : List α} (hk : ∀ x, (enc x).length = k) (h : w.heap[g]? = some (.cells (xs.flatMap enc).toArray t (0, 0))) (hn : n = xs.length) (h1 : n ≤ c) (h2 : c ≤ maxLen) :
    SlOf enc k w (.slice (some ⟨g, 0, none⟩) n c) xs := by
  subst hn
  refine ⟨some ⟨g, 0, none⟩, c, rfl, h1, h2, flat_len enc k hk xs, fun _ => ⟨g, 0, rfl, heap_lt h, fun j u hu => ?_⟩⟩
  rw [Nat.zero_add, heap_cell h]
  simpa using hu
def fiveL : List Spec := [coinS 3 1 4, coinS 8 9 9, coinS 5 3 9, coinS 7 3 4, coinS 6 1 9]
theorem five_ofE : ofE fiveL = 0 := by decide
theorem five_hist : histR fiveL = [1, 2, 2, 1, 1] := by rw [histR, if_pos five_ofE]; decide
theorem five_ids : (forL fiveL).map Spec.id = [3, 8, 5, 7] := by
  have h := choT_forL fiveL 5 (by decide)
  rw [show fiveL.take 5 = fiveL from rfl] at h
  rw [← h]
  decide
theorem five_nodup : (fiveL.map Spec.id).Nodup := by decide
theorem five_forest : forL fiveL = [coinS 3 1 4, coinS 8 9 9, coinS 5 3 9, coinS 7 3 4] := by
  rw [← filter_sub (forL_facts fiveL).1 five_nodup, five_ids]
  decide
theorem five_first : (firstR fiveL ⟨0, 1⟩ ⟨0, 9⟩).2 = 0 := by
  have hj : joinB (edgesS (fiveL.take (3 + 1))) ⟨0, 1⟩ ⟨0, 9⟩ = true := by rw [(ninv_list (fiveL.take (3 + 1))).joined]; decide
  rw [firstR, if_pos five_ofE]
  cases hk : firstK fiveL ⟨0, 1⟩ ⟨0, 9⟩ with
  | some k => rfl
  | none =>
    exfalso
    rw [firstK, List.find?_eq_none] at hk
    exact hk 3 (by decide) hj
theorem five_path {p : List Spec} (h : Walk (forL fiveL) ⟨0, 1⟩ p ⟨0, 9⟩) : p.map Spec.id = [3, 7, 5, 8] := by
  have hU := (forL_facts fiveL).2.2 five_nodup
  have hw : Walk (forL fiveL) ⟨0, 1⟩ [coinS 3 1 4, coinS 7 3 4, coinS 5 3 9, coinS 8 9 9] ⟨0, 9⟩ := by
    rw [five_forest]
    refine .cons (by decide) (.inl rfl) ?_ (by decide)
    refine .cons (by decide) (.inr rfl) ?_ (by decide)
    refine .cons (by decide) (.inl rfl) ?_ (by decide)
    refine .cons (by decide) (.inr rfl) ?_ (by decide)
    exact .nil _
  rw [hU.uni h hw]
  rfl
theorem one_add : addE [] (coinS 3 1 4) = 0 := by decide
theorem one_count : ((growL [coinS 3 1 4]).count : Int) = 1 := by decide
end Go.Proofs.Ytcpobcfncmcakaa
