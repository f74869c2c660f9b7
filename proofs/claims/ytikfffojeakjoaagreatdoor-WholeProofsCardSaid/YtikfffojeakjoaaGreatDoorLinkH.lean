/- linkage.Matrix. Condition: the argument reads as a graph. -/
import Derived.Test.YtikfffojeakjoaaGreatDoorLinkE
import Derived.Deep.OwnRows
namespace Go.Proofs.YtikfffojeakjoaaGreatDoor
open Go.RowKit Go.Shelf

/-! ### Plain laws -/
theorem place_asc : ∀ {xs : List Int} {x : Int}, xs.Pairwise (· < ·) → x ∈ xs → xs[xs.countP (· < x)]? = some x
  | [], x, _, h => absurd h (by simp)
  | y :: ys, x, hp, h => by
    rw [List.pairwise_cons] at hp
    by_cases e : y = x
    · subst e
      have : (y :: ys).countP (· < y) = 0 := by
        rw [List.countP_eq_zero]
        intro z hz
        rw [List.mem_cons] at hz
        rcases hz with rfl | hz
        · simp
        · have := hp.1 z hz; simp; omega
      rw [this]
      rfl
    · have hx : x ∈ ys := by rw [List.mem_cons] at h; exact h.resolve_left (fun e' => e e'.symm)
      have := hp.1 x hx
      rw [List.countP_cons_of_pos (by simpa using this), List.getElem?_cons_succ]
      exact place_asc hp.2 hx
theorem asc_inj {xs : List Int} (h : xs.Pairwise (· < ·)) {i j : Nat} {x : Int} (hi : xs[i]? = some x) (hj : xs[j]? = some x) : i = j := by
  obtain ⟨h1, e1⟩ := List.getElem?_eq_some_iff.1 hi
  obtain ⟨h2, e2⟩ := List.getElem?_eq_some_iff.1 hj
  rw [List.pairwise_iff_getElem] at h
  rcases Nat.lt_trichotomy i j with hlt | rfl | hlt
  · have := h i j h1 h2 hlt; omega
  · rfl
  · have := h j i h2 h1 hlt; omega
/-- The numbers of links between dies. -/
def countM (ls : List Link) (a b : Int) : Nat := ls.countP fun x => x.obv == a && x.rev == b
def matOf (o r : List Int) (ls : List Link) : List (List Int) := o.map fun a => r.map fun b => (countM ls a b : Int)
def matG (g : Graph) : List (List Int) := if graphB g = true then matOf g.obv g.rev g.links else []
def validE (g : Graph) : Int := if graphB g = true then 0 else 1
theorem matOf_nil (o r : List Int) : matOf o r [] = List.replicate o.length (List.replicate r.length 0) := by
  simp [matOf, countM, List.map_const']
theorem countM_snoc (ls : List Link) (x : Link) (a b : Int) : countM (ls ++ [x]) a b = countM ls a b + (if x.obv = a ∧ x.rev = b then 1 else 0) := by
  unfold countM
  rw [List.countP_append, List.countP_singleton]
  simp
theorem matOf_snoc {o r : List Int} (ho : o.Pairwise (· < ·)) (hr : r.Pairwise (· < ·)) {ls : List Link} {x : Link} {i k : Nat} (hi : o[i]? = some x.obv) (hk : r[k]? = some x.rev) :
    matOf o r (ls ++ [x]) = (matOf o r ls).set i ((r.map fun b => (countM ls x.obv b : Int)).set k ((countM ls x.obv x.rev : Int) + 1)) := by
  apply List.ext_getElem?
  intro p
  unfold matOf
  rw [List.getElem?_map, List.getElem?_set]
  by_cases hp : i = p
  · subst hp
    rw [if_pos rfl, hi, if_pos (by simpa using lt_of_get hi), Option.map_some]
    congr 1
    apply List.ext_getElem?
    intro q
    rw [List.getElem?_map, List.getElem?_set]
    by_cases hq : k = q
    · subst hq
      rw [if_pos rfl, hk, if_pos (by simpa using lt_of_get hk), Option.map_some, countM_snoc, if_pos ⟨rfl, rfl⟩]
      simp
    · rw [if_neg hq, List.getElem?_map]
      cases hb : r[q]? with
      | none => rfl
      | some b =>
        rw [Option.map_some, Option.map_some, countM_snoc, if_neg (fun e => hq (asc_inj hr hk (by rw [hb, e.2])))]
        simp
  · rw [if_neg hp, List.getElem?_map]
    cases ha : o[p]? with
    | none => rfl
    | some a =>
      rw [Option.map_some, Option.map_some]
      congr 1
      apply List.map_congr_left
      intro b _
      rw [countM_snoc, if_neg (fun e => hp (asc_inj ho hi (by rw [ha, e.1])))]
      simp

/-! ### A slice of slices under way -/
def encB (m : Nat) (b : Nat) : List Value := [.slice (some ⟨b, 0, none⟩) m m]
theorem lenB (m b : Nat) : (encB m b).length = 1 := rfl
theorem oneB (m b : Nat) : ∀ u ∈ encB m b, u.oneCell' = true := by simp [encB, Value.oneCell']
theorem infoV : (Tryz.prog.info? 28).map (fun i => (i.zero, i.size, i.bytes)) = some (some (.slice none 0 0), 1, 24) := by kernel_rfl
structure MatSt (B m : Nat) (w : World) (u : Value) (bs : List Nat) (R : List (List Int)) : Prop where
  own : Own (encB m) 1 28 B w u bs
  len : bs.length = R.length
  row : ∀ (i b : Nat) (r : List Int), bs[i]? = some b → R[i]? = some r → B ≤ b ∧ r.length = m ∧ w.heap[b]? = some (.cells (r.map (Value.int .i64)).toArray 3 (0, 0))
  nodup : bs.Nodup
section
variable {B m : Nat} {w w' : World} {u : Value} {bs : List Nat} {R : List (List Int)}
theorem MatSt.below (h : MatSt B m w u bs R) (hb : Below w.heap.size w w') : MatSt B m w' u bs R :=
  ⟨h.own.below hb, h.len, fun i b r h1 h2 => by
    obtain ⟨p1, p2, p3⟩ := h.row i b r h1 h2
    exact ⟨p1, p2, heap_below p3 hb (heap_lt p3)⟩, h.nodup⟩
theorem own_block {α : Type} {enc : α → List Value} {k : Nat} {e t : TypeId} {xs : List α} {b : Nat} {cs : Array Value} (h : Own enc k e B w u xs) (hb : w.heap[b]? = some (.cells cs t (0, 0))) (ht : t ≠ e) : some b ≠ u.ownBlock := by
  rcases h.2 with ⟨rfl, _⟩ | ⟨g, cap, cur, rfl, _, hg, _⟩
  · simp [Value.ownBlock]
  · intro e1
    have : b = g := by simpa [Value.ownBlock] using e1
    subst this
    rw [hb] at hg
    cases hg
    exact ht rfl
theorem MatSt.push {W w2 : World} {v' : Value} {r : List Int} (h : MatSt B m w u bs R) (hW : w.alloc (.cells (r.map (Value.int .i64)).toArray 3) = W) (hB : B ≤ w.heap.size) (hr : r.length = m)
    (hown : Own (encB m) 1 28 B w2 v' (bs ++ [w.heap.size])) (hg : W.grownBy w2 u.ownBlock) : MatSt B m w2 v' (bs ++ [w.heap.size]) (R ++ [r]) := by
  subst hW
  have hlt : ∀ i b, bs[i]? = some b → b < w.heap.size := fun i b hi => by
    obtain ⟨r', hr'⟩ := get_of_lt (show i < R.length by rw [← h.len]; exact lt_of_get hi)
    exact heap_lt (h.row i b r' hi hr').2.2
  refine ⟨hown, by simp [h.len], fun i b r' h1 h2 => ?_, ?_⟩
  · rcases Nat.lt_or_ge i bs.length with hi | hi
    · rw [List.getElem?_append_left hi] at h1
      rw [List.getElem?_append_left (by rw [← h.len]; exact hi)] at h2
      obtain ⟨p1, p2, p3⟩ := h.row i b r' h1 h2
      refine ⟨p1, p2, ?_⟩
      have hb := hlt i b h1
      rw [hg.block b (by simp; omega) (own_block h.own p3 (by decide)), Below.heap_alloc _ _ _ hb]
      exact p3
    · have hi' : i = bs.length := by
        have := lt_of_get h1
        simp at this
        omega
      subst hi'
      rw [List.getElem?_append_right (Nat.le_refl _)] at h1
      rw [h.len, List.getElem?_append_right (Nat.le_refl _)] at h2
      simp at h1 h2
      subst h1; subst h2
      refine ⟨hB, hr, ?_⟩
      rw [hg.block _ (by simp) (fun e => by have := (h.own.lt _ e.symm).2; omega)]
      exact heap_alloc_new _ _
  · rw [List.nodup_append]
    refine ⟨h.nodup, by simp, fun a ha b hb e => ?_⟩
    simp at hb
    subst hb
    obtain ⟨i, hi⟩ := List.mem_iff_getElem?.1 ha
    have := hlt i a hi
    omega
theorem MatSt.rows (h : MatSt B m w u bs R) (hm63 : m ≤ 1048576) : Rows w u R := by
  obtain ⟨A, c, e, h1, h2, h3⟩ := h.own.slOf
  have hm : bs.flatMap (encB m) = bs.map fun b => .slice (some ⟨b, 0, none⟩) m m := by
    have : ∀ l : List Nat, l.flatMap (encB m) = l.map fun b => .slice (some ⟨b, 0, none⟩) m m := fun l => by
      induction l with
      | nil => rfl
      | cons x l ih => rw [List.flatMap_cons, ih]; rfl
    exact this bs
  rw [hm] at h3
  rw [h.len] at e h1 h3
  refine ⟨A, c, _, e, h1, h2, h3, fun i v r hv hr => ?_⟩
  rw [List.getElem?_map] at hv
  obtain ⟨b, hb, rfl⟩ := Option.map_eq_some_iff.1 hv
  obtain ⟨p1, p2, p3⟩ := h.row i b r hb hr
  subst p2
  have hmx : r.length ≤ maxLen := by simp only [maxLen]; omega
  refine ⟨some ⟨b, 0, none⟩, r.length, rfl, Nat.le_refl _, hmx, ?_, fun _ => ⟨b, 0, rfl, heap_lt p3, fun j x hx => ?_⟩⟩
  · rw [flatI]; simp
  · rw [flatI] at hx
    rw [Nat.zero_add, heap_cell p3]
    simpa using hx
theorem MatSt.outer {i b : Nat} (h : MatSt B m w u bs R) (hi : bs[i]? = some b) : ∃ g cap, u = .slice (some ⟨g, 0, none⟩) bs.length cap ∧ bs.length ≤ cap ∧ w.cell? ⟨g, i, none⟩ = some (.slice (some ⟨b, 0, none⟩) m m) := by
  rcases h.own.cases with ⟨_, h0⟩ | ⟨g, cap, rfl, _, _, hcap, _⟩
  · rw [h0] at hi; cases hi
  · refine ⟨g, cap, rfl, hcap, ?_⟩
    have h1 := flat_get (encB m) 1 (lenB m) bs i 0 (by omega)
    rw [hi, Nat.mul_one, Nat.add_zero] at h1
    have := World.ownsRow.cells h.own (g := g) rfl i _ h1
    simpa [Addr.add_lit] using this
theorem MatSt.inc {i b k : Nat} {r : List Int} (h : MatSt B m w u bs R) (hi : bs[i]? = some b) (hr : R[i]? = some r) (x : Int) :
    MatSt B m (w.setCell ⟨b, k, none⟩ (.int .i64 x)) u bs (R.set i (r.set k x)) := by
  obtain ⟨p1, p2, p3⟩ := h.row i b r hi hr
  refine ⟨Own.kept h.own (row := some b) ⟨rfl, rfl, rfl, by simp, fun k _ hk => Below.heap_setCell _ _ _ k (fun e => hk (by rw [e]))⟩ (.inr (own_block h.own p3 (by decide)).symm), by simp [h.len], fun j b' r' h1 h2 => ?_, h.nodup⟩
  by_cases hj : i = j
  · subst hj
    rw [hi] at h1
    cases h1
    rw [List.getElem?_set_self (lt_of_get hr)] at h2
    cases h2
    refine ⟨p1, by simp [p2], ?_⟩
    have := heap_setCell_same w b k _ _ (.int .i64 x) p3
    rw [this]
    simp [List.map_set]
  · rw [List.getElem?_set_ne hj] at h2
    obtain ⟨q1, q2, q3⟩ := h.row j b' r' h1 h2
    refine ⟨q1, q2, ?_⟩
    have hne : b ≠ b' := by
      intro e
      subst e
      have hn := List.pairwise_iff_getElem.1 h.nodup
      obtain ⟨l1, e1⟩ := List.getElem?_eq_some_iff.1 hi
      obtain ⟨l2, e2⟩ := List.getElem?_eq_some_iff.1 h1
      rcases Nat.lt_or_gt_of_ne hj with hlt | hlt
      · exact hn i j l1 l2 hlt (by rw [e1, e2])
      · exact hn j i l2 l1 hlt (by rw [e1, e2])
    rw [heap_setCell_other _ _ _ _ (by simpa using Ne.symm hne)]
    exact q3
end
end Go.Proofs.YtikfffojeakjoaaGreatDoor
/- linkage.Matrix: the walk. Condition: the argument reads as a graph. -/
namespace Go.Proofs.YtikfffojeakjoaaGreatDoor
open Go.RowKit Go.Shelf

theorem made_zero (n : Nat) : madeCells #[.int .i64 0] n = Array.replicate n (Value.int .i64 0) := by
  apply Array.ext_getElem?
  intro i
  simp only [madeCells, Array.getElem?_map, Array.getElem?_replicate]
  by_cases h : i < n
  · simp [h, Nat.mod_one]
  · simp [h]
theorem ret_mat {u : Value} {a b : Int} (h : a = b) : Ending.returned (.tuple #[u, .int .i64 a]) = .returned (.tuple #[u, .int .i64 b]) := by rw [h]

end Go.Proofs.YtikfffojeakjoaaGreatDoor
