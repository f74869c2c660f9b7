/- Plain: what a corpus is after any operations; building it again from behind; a decision that is made and withdrawn. No program in sight, no condition. -/
import Derived.Test.YthnckicnnhkkaaaGreatSamA
namespace Go.Proofs.YthnckicnnhkkaaaGreat
open Go.RowKit

structure GoodC (x : Co) : Prop where
  ok : CorW x.1 x.2.1 x.2.2
  srtD : SrtD x.2.1
  srtM : SrtM x.2.2
  mrk : ∀ m ∈ x.2.2, mrkB m = true
theorem GoodC.nil : GoodC ([], [], []) := ⟨CorW.nil, List.Pairwise.nil, List.Pairwise.nil, by simp⟩
theorem drawL_mrk {W : List Mrk} {m : Mrk} (h : ∀ m ∈ W, mrkB m = true) : ∀ x ∈ drawL W m, mrkB x = true := by
  unfold drawL
  split
  · rename_i hd
    intro x hx
    rcases (insF_mem id (fun y hy e => hd.2 (by rw [← show y = m from e]; exact hy)) x).1 hx with h1 | rfl
    · exact h x h1
    · have he := hd.1
      unfold drawE at he
      split at he
      · assumption
      · cases he
  · exact h
theorem GoodC.step {x : Co} (h : GoodC x) (o : OpC) : GoodC (doL x o) := by
  obtain ⟨h1, h2, h3, h4⟩ := h
  unfold doL
  split
  · exact ⟨h1.enter _, h2, h3, h4⟩
  · split
    · exact ⟨h1.make _, makeL_srt h2 _, h3, h4⟩
    · split
      · exact ⟨h1.draw _, h2, drawL_srt h3 _, drawL_mrk h4⟩
      · split
        · exact ⟨h1.remove _, h2, h3, h4⟩
        · exact ⟨h1, h2, h3, h4⟩
theorem good_all (l : List OpC) : GoodC (doAll l) := by
  have : ∀ (l : List OpC) (x : Co), GoodC x → GoodC (l.foldl doL x) := by
    intro l
    induction l with
    | nil => intro x h; exact h
    | cons o os ih => intro x h; exact ih _ (h.step o)
  exact this l _ GoodC.nil

/-! ### From behind -/
theorem drop_get {α : Type} {l : List α} {i : Nat} {x : α} (h : l[i]? = some x) : l.drop i = x :: l.drop (i + 1) := by
  have hl := lt_of_get h
  rw [List.drop_eq_getElem_cons hl, (List.getElem?_eq_some_iff.1 h).2]
theorem ins_drop {α : Type} {f : α → Mrk} {l : List α} {i : Nat} {x : α} (hs : l.Pairwise fun x y => mkLt (f x) (f y)) (h : l[i]? = some x) : (∀ y ∈ l.drop (i + 1), mkLt (f x) (f y)) ∧ insF f (l.drop (i + 1)) x = l.drop i := by
  have hd := drop_get h
  have hs' := hs.sublist (List.drop_sublist i l)
  rw [hd] at hs'
  obtain ⟨h1, h2⟩ := List.pairwise_cons.1 hs'
  refine ⟨h1, ?_⟩
  rw [hd]
  unfold insF
  have e1 : (l.drop (i + 1)).filter (fun y => decide (mkLt (f y) (f x))) = [] := List.filter_eq_nil_iff.2 fun y hy => by simpa using mkLt_asymm (h1 y hy)
  have e2 : (l.drop (i + 1)).filter (fun y => decide (mkLt (f x) (f y))) = l.drop (i + 1) := List.filter_eq_self.2 fun y hy => by simpa using h1 y hy
  rw [e1, e2]; rfl
theorem draw_drop {W : List Mrk} {i : Nat} {m : Mrk} (hs : SrtM W) (hb : ∀ m ∈ W, mrkB m = true) (hl : W.length ≤ 200) (hm : W[i]? = some m) : drawE (W.drop (i + 1)) m = 0 ∧ drawL (W.drop (i + 1)) m = W.drop i := by
  obtain ⟨h1, h2⟩ := ins_drop (f := id) hs hm
  have hn : m ∉ W.drop (i + 1) := fun h => mkLt_irrefl _ (h1 m h)
  have hlt := lt_of_get hm
  have he : drawE (W.drop (i + 1)) m = 0 := by
    unfold drawE
    rw [if_pos (hb m (List.mem_of_getElem? hm)), if_neg hn, if_neg (by rw [List.length_drop]; omega)]
  refine ⟨he, ?_⟩
  unfold drawL
  rw [if_pos ⟨he, hn⟩, h2]
theorem make_drop {D : List Dec} {i : Nat} {d : Dec} (hs : SrtD D) (hb : ∀ d ∈ D, decB d = true) (hl : D.length ≤ 200) (hm : D[i]? = some d) : makeE (D.drop (i + 1)) d = 0 ∧ makeL (D.drop (i + 1)) d = D.drop i := by
  obtain ⟨h1, h2⟩ := ins_drop (f := mkOf) hs hm
  have hn : findD (D.drop (i + 1)) (mkOf d) = none := find_none.2 fun y hy e => mkLt_irrefl (mkOf d) (by have := h1 y hy; rwa [e] at this)
  have hlt := lt_of_get hm
  have he : makeE (D.drop (i + 1)) d = 0 := by
    unfold makeE
    rw [if_pos (hb d (List.mem_of_getElem? hm)), hn]
    exact if_neg (by rw [List.length_drop]; omega)
  refine ⟨he, ?_⟩
  unfold makeL
  rw [if_pos ⟨he, hn⟩, h2]
theorem enter_drop {l : List Spec} {i : Nat} {s : Spec} (h : LisW l) (hm : l[i]? = some s) : enterE (l.drop (i + 1)) s = 0 ∧ enterL (l.drop (i + 1)) s = l.drop i := by
  have hd := drop_get hm
  have hs' := h.srt.sublist (List.drop_sublist i l)
  rw [hd] at hs'
  obtain ⟨h1, h2⟩ := List.pairwise_cons.1 hs'
  have hn : s.id ∉ (l.drop (i + 1)).map Spec.id := fun hx => by
    obtain ⟨y, hy, e⟩ := List.mem_map.1 hx
    have := h1 y hy; omega
  have hlt := lt_of_get hm
  have hle := h.len
  have he : enterE (l.drop (i + 1)) s = 0 := by
    unfold enterE
    rw [if_pos (h.ok s (List.mem_of_getElem? hm)), if_neg hn, if_neg (by rw [List.length_drop]; omega)]
  refine ⟨he, ?_⟩
  unfold enterL
  rw [if_pos he]
  unfold insS
  rw [pos_zero fun x hx => by have := h1 x hx; omega, hd]
  rfl

/-! ### Made and withdrawn -/
theorem draw_mem {W : List Mrk} {k : Mrk} (h2 : drawE W k = 0) (m : Mrk) : m ∈ drawL W k ↔ m ∈ W ∨ m = k := by
  unfold drawL
  split
  · rename_i h
    exact insF_mem id (fun y hy e => h.2 (by rw [← show y = k from e]; exact hy)) m
  · rename_i h
    have hk : k ∈ W := Classical.byContradiction fun h' => h ⟨h2, h'⟩
    constructor
    · exact Or.inl
    · rintro (h | rfl)
      · exact h
      · exact hk
theorem stand_new {D : List Dec} {W : List Mrk} {d : Dec} (hs : SrtD D) (hn : ∀ x ∈ D, mkOf x ≠ mkOf d) (h1 : makeE D d = 0) (h2 : drawE W (mkOf d) = 0) : standL (makeL D d) (drawL W (mkOf d)) = standL D W := by
  have hM : makeL D d = insF mkOf D d := by unfold makeL; rw [if_pos ⟨h1, find_none.2 hn⟩]
  rw [hM, ← at_other hn hs d rfl]
  unfold standL
  rw [List.filter_append, List.filter_cons, if_neg (by simp [draw_mem h2]), ← List.filter_append, List.take_append_drop]
  refine List.filter_congr fun x hx => ?_
  have := hn x hx
  simp [draw_mem h2, this]
end Go.Proofs.YthnckicnnhkkaaaGreat
