/- The first functions of the reference of layer 13: In, Touches, Valid, place, with, insert. Condition: the arguments read as lists and graphs. -/
import Derived.Test.YtikfffojeakjoaaGreatDoorBase4
import Derived.Deep.RegionHeld3
import Derived.Deep.DrawnRows
import Derived.Deep.RegionLaw
import Derived.Laws.ResultCell
namespace Go.Proofs.YtikfffojeakjoaaGreatDoor
open Go.RowKit

/-- Whether a die is in a graph. -/
def dieIn (g : Graph) (d : Die) : Bool := (d.side == 0 && hasB g.obv d.num) || (d.side == 1 && hasB g.rev d.num)
def touchB (l : Link) (d : Die) : Bool := (d.side == 0 && l.obv == d.num) || (d.side == 1 && l.rev == d.num)

/-- The place of a number in a list, or -1. -/
def placeN : List Int → Int → Nat → Int
  | [], _, _ => -1
  | y :: ys, x, n => if y = x then (n : Int) else placeN ys x (n + 1)
def placeI (xs : List Int) (x : Int) : Int := placeN xs x 0
theorem place_go {xs : List Int} {k : Nat} {x y : Int} (hy : xs[k]? = some y) (hr : x ∉ xs.take k) (h : (y == x) = false) : x ∉ xs.take (k + 1) := by
  rw [take_snoc' hy]
  simp only [List.mem_append, List.mem_singleton]
  rintro (h1 | rfl)
  · exact hr h1
  · simp at h
theorem placeN_hit {x : Int} : ∀ {xs : List Int} {k n : Nat}, xs[k]? = some x → x ∉ xs.take k → placeN xs x n = (n + k : Nat)
  | [], k, n, h, _ => by simp at h
  | y :: ys, 0, n, h, _ => by
    simp at h
    simp [placeN, h]
  | y :: ys, k + 1, n, h, hr => by
    simp only [List.take_succ_cons, List.mem_cons, not_or] at hr
    rw [placeN, if_neg (fun e => hr.1 e.symm), placeN_hit (by simpa using h) hr.2]
    omega
theorem place_hit {xs : List Int} {k : Nat} {x y : Int} (hy : xs[k]? = some y) (hr : x ∉ xs.take k) (h : (y == x) = true) : placeI xs x = k := by
  simp at h
  subst h
  unfold placeI
  rw [placeN_hit hy hr, Nat.zero_add]
theorem placeN_miss {x : Int} : ∀ {xs : List Int} {n : Nat}, x ∉ xs → placeN xs x n = -1
  | [], _, _ => rfl
  | y :: ys, n, h => by
    simp only [List.mem_cons, not_or] at h
    rw [placeN, if_neg (fun e => h.1 e.symm), placeN_miss h.2]
theorem place_miss {xs : List Int} {k : Nat} {x : Int} (hk : ¬ k < xs.length) (hr : x ∉ xs.take k) : placeI xs x = -1 := by
  rw [List.take_of_length_le (by omega)] at hr
  exact placeN_miss hr

/-- A number entered into ascending numbers. -/
def withI : List Int → Int → List Int
  | [], n => [n]
  | x :: xs, n => if x < n then x :: withI xs n else if x = n then x :: xs else n :: x :: xs
/-- A link entered into links by Id. -/
def insL : List Link → Link → List Link
  | [], y => [y]
  | x :: xs, y => if x.id < y.id then x :: insL xs y else y :: x :: xs
theorem withI_at : ∀ {xs : List Int} {k : Nat} {n : Int}, (∀ y ∈ xs.take k, y < n) → (∀ y, xs[k]? = some y → ¬ y < n) → withI xs n = if xs[k]? = some n then xs else xs.take k ++ [n] ++ xs.drop k
  | [], k, n, _, _ => by simp [withI]
  | x :: xs, 0, n, _, h => by
    have := h x (by simp)
    by_cases e : x = n <;> simp [withI, this, e]
  | x :: xs, k + 1, n, h1, h2 => by
    have hx := h1 x (by simp)
    rw [withI, if_pos hx, withI_at (k := k) (fun y hy => h1 y (by simp [hy])) (fun y hy => h2 y (by simpa using hy))]
    by_cases e : xs[k]? = some n <;> simp [e]

end Go.Proofs.YtikfffojeakjoaaGreatDoor
/- The reference of layer 13: insert and Made. Condition: the arguments read as lists. -/
namespace Go.Proofs.YtikfffojeakjoaaGreatDoor
open Go.RowKit

theorem insL_at : ∀ {xs : List Link} {k : Nat} {x : Link}, (∀ y ∈ xs.take k, y.id < x.id) → (∀ y, xs[k]? = some y → ¬ y.id < x.id) → insL xs x = xs.take k ++ [x] ++ xs.drop k
  | [], k, x, _, _ => by simp [insL]
  | y :: xs, 0, x, _, h => by
    have := h y (by simp)
    simp [insL, this]
  | y :: xs, k + 1, x, h1, h2 => by
    have hx := h1 y (by simp)
    rw [insL, if_pos hx, insL_at (k := k) (fun z hz => h1 z (by simp [hz])) (fun z hz => h2 z (by simpa using hz))]
    simp

end Go.Proofs.YtikfffojeakjoaaGreatDoor
/- The reference of layer 13: Made. Condition: the argument reads as a list of links. -/
namespace Go.Proofs.YtikfffojeakjoaaGreatDoor
open Go.RowKit

def withs (l : List Int) : List Int := l.foldl withI []
def inss (l : List Link) : List Link := l.foldl insL []
/-- The graph with some links. -/
def madeG (l : List Link) : Graph := ⟨withs (l.map Link.obv), withs (l.map Link.rev), inss l⟩
theorem withI_len : ∀ (xs : List Int) (n : Int), (withI xs n).length ≤ xs.length + 1
  | [], _ => by simp [withI]
  | x :: xs, n => by
    have := withI_len xs n
    unfold withI
    split
    · simp; omega
    · split <;> simp
theorem insL_len : ∀ (xs : List Link) (n : Link), (insL xs n).length = xs.length + 1
  | [], _ => by simp [insL]
  | x :: xs, n => by
    have := insL_len xs n
    unfold insL
    split
    · simp; omega
    · simp
theorem withs_snoc (l : List Int) (x : Int) : withs (l ++ [x]) = withI (withs l) x := by simp [withs]
theorem inss_snoc (l : List Link) (x : Link) : inss (l ++ [x]) = insL (inss l) x := by simp [inss]
theorem foldl_withI_len : ∀ (l : List Int) (a : List Int), (l.foldl withI a).length ≤ a.length + l.length
  | [], a => by simp
  | x :: l, a => by have := foldl_withI_len l (withI a x); have := withI_len a x; simp; omega
theorem withs_len (l : List Int) : (withs l).length ≤ l.length := by have := foldl_withI_len l []; unfold withs; simpa using this
theorem foldl_insL_len : ∀ (l : List Link) (a : List Link), (l.foldl insL a).length = a.length + l.length
  | [], a => by simp
  | x :: l, a => by have := foldl_insL_len l (insL a x); have := insL_len a x; simp; omega
theorem inss_len (l : List Link) : (inss l).length = l.length := by have := foldl_insL_len l []; unfold inss; simpa using this

theorem heap_cell {w : World} {g i : Nat} {cs : Array Value} {t : TypeId} (h : w.heap[g]? = some (.cells cs t (0, 0))) : w.cell? ⟨g, i, none⟩ = cs[i]? := cell_of_row w g i cs t (0, 0) h
theorem heap_free {w : World} {g i : Nat} {cs : Array Value} {t : TypeId} (h : w.heap[g]? = some (.cells cs t (0, 0))) : w.frozen? ⟨g, i, none⟩ = false := by simp [World.frozen?, h]
theorem heap_lt {w : World} {g : Nat} {o : Obj} (h : w.heap[g]? = some o) : g < w.heap.size := (Array.getElem?_eq_some_iff.1 h).1
theorem heap_below {w w' : World} {g B : Nat} {o : Obj} (h : w.heap[g]? = some o) (hb : Below B w w') (hg : g < B) : w'.heap[g]? = some o := (hb.block g hg).trans h

/-- The local graph in its block (w.heap.size + 1), the result's block before it, and what the graph's slices hold. -/
structure MSt (w wr : World) (u1 u2 u3 : Value) (a b : List Int) (c : List Link) : Prop where
  g : wr.heap[w.heap.size + 1]? = some (.cells #[u1, u2, u3] 68 (0, 0))
  r : wr.heap[w.heap.size]? = some (.cells #[.slice none 0 0, .slice none 0 0, .slice none 0 0] 68 (0, 0))
  i1 : Ints wr u1 a
  i2 : Ints wr u2 b
  i3 : Links wr u3 c
  f1 : Fresh (w.heap.size + 2) u1
  f2 : Fresh (w.heap.size + 2) u2
  f3 : Fresh (w.heap.size + 2) u3
  b : Below w.heap.size w wr
section
variable {w wr w1 : World} {u1 u2 u3 v1 : Value} {a b a' : List Int} {c c' : List Link}
theorem MSt.later (h : MSt w wr u1 u2 u3 a b c) (hb : Below wr.heap.size wr w1) : MSt w w1 u1 u2 u3 a b c :=
  ⟨heap_below h.g hb (heap_lt h.g), heap_below h.r hb (heap_lt h.r), h.i1.below hb, h.i2.below hb, h.i3.below hb, h.f1, h.f2, h.f3, h.b.trans (hb.mono h.b.size)⟩
theorem MSt.set1 (h : MSt w w1 u1 u2 u3 a b c) (hi : Ints w1 v1 a') (hf : Fresh (w.heap.size + 2) v1) : MSt w (w1.setCell ⟨w.heap.size + 1, 0, none⟩ v1) v1 u2 u3 a' b c := by
  refine ⟨?_, ?_, hi.setCell (hf.ne (by simp)) _, h.i2.setCell (h.f2.ne (by simp)) _, h.i3.setCell (h.f3.ne (by simp)) _, hf, h.f2, h.f3, h.b.setCell (by simp) _⟩
  · have := heap_setCell_same w1 (w.heap.size + 1) 0 _ _ v1 h.g
    simpa using this
  · rw [heap_setCell_other _ _ _ _ (by simp)]; exact h.r
theorem MSt.set2 (h : MSt w w1 u1 u2 u3 a b c) (hi : Ints w1 v1 a') (hf : Fresh (w.heap.size + 2) v1) : MSt w (w1.setCell ⟨w.heap.size + 1, 1, none⟩ v1) u1 v1 u3 a a' c := by
  refine ⟨?_, ?_, h.i1.setCell (h.f1.ne (by simp)) _, hi.setCell (hf.ne (by simp)) _, h.i3.setCell (h.f3.ne (by simp)) _, h.f1, hf, h.f3, h.b.setCell (by simp) _⟩
  · have := heap_setCell_same w1 (w.heap.size + 1) 1 _ _ v1 h.g
    simpa using this
  · rw [heap_setCell_other _ _ _ _ (by simp)]; exact h.r
theorem MSt.set3 (h : MSt w w1 u1 u2 u3 a b c) (hi : Links w1 v1 c') (hf : Fresh (w.heap.size + 2) v1) : MSt w (w1.setCell ⟨w.heap.size + 1, 2, none⟩ v1) u1 u2 v1 a b c' := by
  refine ⟨?_, ?_, h.i1.setCell (h.f1.ne (by simp)) _, h.i2.setCell (h.f2.ne (by simp)) _, hi.setCell (hf.ne (by simp)) _, h.f1, h.f2, hf, h.b.setCell (by simp) _⟩
  · have := heap_setCell_same w1 (w.heap.size + 1) 2 _ _ v1 h.g
    simpa using this
  · rw [heap_setCell_other _ _ _ _ (by simp)]; exact h.r
theorem MSt.facts (h : MSt w wr u1 u2 u3 a b c) : wr.cell? ⟨w.heap.size + 1, 0, none⟩ = some u1 ∧ wr.cell? ⟨w.heap.size + 1, 1, none⟩ = some u2 ∧ wr.cell? ⟨w.heap.size + 1, 2, none⟩ = some u3 ∧
    wr.frozen? ⟨w.heap.size + 1, 0, none⟩ = false ∧ wr.frozen? ⟨w.heap.size + 1, 1, none⟩ = false ∧ wr.frozen? ⟨w.heap.size + 1, 2, none⟩ = false :=
  ⟨heap_cell h.g, heap_cell h.g, heap_cell h.g, heap_free h.g, heap_free h.g, heap_free h.g⟩
theorem MSt.fresh {w wr : World} {u v : Value} (hz : w.heap.size + 1 < wr.heap.size) (hf : Fresh (w.heap.size + 2) u) (h : v = u ∨ Fresh wr.heap.size v) : Fresh (w.heap.size + 2) v := by
  rcases h with rfl | h
  · exact hf
  · exact h.mono (by omega)
end
/-- A struct of three cells, stored whole. -/
theorem heap_set3 {w : World} {g : Nat} {a b c x y z : Value} {t : TypeId} (h : w.heap[g]? = some (.cells #[a, b, c] t (0, 0))) :
    (((w.setCell ⟨g, 0, none⟩ x).setCell ⟨g, 1, none⟩ y).setCell ⟨g, 2, none⟩ z).heap[g]? = some (.cells #[x, y, z] t (0, 0)) := by
  have h1 := heap_setCell_same w g 0 _ _ x h
  have h2 := heap_setCell_same _ g 1 _ _ y h1
  have h3 := heap_setCell_same _ g 2 _ _ z h2
  simpa using h3
theorem SlOf.set3 {α : Type} {enc : α → List Value} {k : Nat} {w : World} {v : Value} {xs : List α} {g : Nat} (h : SlOf enc k w v xs) (hp : v.ownBlock ≠ some g) (x y z : Value) :
    SlOf enc k (((w.setCell ⟨g, 0, none⟩ x).setCell ⟨g, 1, none⟩ y).setCell ⟨g, 2, none⟩ z) v xs := ((h.setCell (p := ⟨g, 0, none⟩) hp x).setCell (p := ⟨g, 1, none⟩) hp y).setCell (p := ⟨g, 2, none⟩) hp z
theorem below_set3 {B g : Nat} {a w : World} (h : Below B a w) (hg : B ≤ g) (x y z : Value) : Below B a (((w.setCell ⟨g, 0, none⟩ x).setCell ⟨g, 1, none⟩ y).setCell ⟨g, 2, none⟩ z) :=
  ((h.setCell (p := ⟨g, 0, none⟩) hg x).setCell (p := ⟨g, 1, none⟩) hg y).setCell (p := ⟨g, 2, none⟩) hg z
theorem blk3 {w : World} {g : Nat} {a b c : Value} {t : TypeId} (h : w.heap[g]? = some (.cells #[a, b, c] t (0, 0))) :
    w.cell? ⟨g, 0, none⟩ = some a ∧ w.cell? ⟨g, 1, none⟩ = some b ∧ w.cell? ⟨g, 2, none⟩ = some c ∧ w.frozen? ⟨g, 0, none⟩ = false ∧ w.frozen? ⟨g, 1, none⟩ = false ∧ w.frozen? ⟨g, 2, none⟩ = false :=
  ⟨heap_cell h, heap_cell h, heap_cell h, heap_free h, heap_free h, heap_free h⟩
theorem results_cell_tmp_row {P : Program} {fn : Func} {p u : Tmp} {ty : TypeId} (h : fn.results = #[.cell p ty, .tmp u]) (tmps : Array Value) (w : World) (g : Nat) (t : TypeId) (cs : Array Value) (fr : Nat × Nat) (d : TypeDesc)
    (hp : tmps.getD p undef = .pointer (some ⟨g, 0, none⟩)) (hg : w.heap[g]? = some (.cells cs t fr))
    (hu : P.underlying ty = some d) (hd : (match d with | .struct _ | .array _ _ => true | _ => false) = true) (hi : (P.info? ty).map (·.size) = some cs.size) :
    (results fn tmps).run P w = .ok (.tuple #[.agg cs, tmps.getD u undef]) w := by
  rw [results_cell_tmp h, hp]
  simp [asAddr, run_loadVar_row w g t ty cs fr d hg hu hd hi, Result.andThen]
/-- A graph whose slices lie in no block below B. -/
def GraphNew (B : Nat) (w : World) (v : Value) (g : Graph) : Prop := ∃ v1 v2 v3, v = .agg #[v1, v2, v3] ∧ (Ints w v1 g.obv ∧ Ints w v2 g.rev ∧ Links w v3 g.links) ∧ Fresh B v1 ∧ Fresh B v2 ∧ Fresh B v3
theorem GraphNew.at {B : Nat} {w : World} {v : Value} {g : Graph} (h : GraphNew B w v g) : GraphAt w v g := by
  obtain ⟨v1, v2, v3, e, ⟨a, b, c⟩, _⟩ := h
  exact ⟨v1, v2, v3, e, a, b, c⟩
theorem infoG : (Tryz.prog.info? 68).map (·.size) = some 3 := by kernel_rfl
def MInv (w : World) (ls : List Link) (v4 : Value) (wr : World) : Prop := ∃ (k : Nat) (u1 u2 u3 : Value) (a b : List Int) (c : List Link), k ≤ ls.length ∧ v4 = .int .i64 k ∧ MSt w wr u1 u2 u3 a b c ∧ (a = withs ((ls.take k).map Link.obv) ∧ b = withs ((ls.take k).map Link.rev) ∧ c = inss (ls.take k))

end Go.Proofs.YtikfffojeakjoaaGreatDoor
/- The reference of layer 13: Of. Condition: the argument reads as a list of specimens. -/
namespace Go.Proofs.YtikfffojeakjoaaGreatDoor
open Go.RowKit

def linkOf (s : Spec) : Link := ⟨s.id, s.obv, s.rev⟩
def full (g : Graph) : Bool := decide (32 < g.obv.length) || decide (32 < g.rev.length)
/-- The error of the die graph of a corpus list, and the graph. -/
def ofE (l : List Spec) : Int := if checkE l = 0 then (if full (madeG (l.map linkOf)) then 6 else 0) else checkE l
def emptyG : Graph := ⟨[], [], []⟩
def ofG (l : List Spec) : Graph := if ofE l = 0 then madeG (l.map linkOf) else emptyG
theorem ret_pair {u : Value} {a b : Int} (h : a = b) : Ending.returned (.tuple #[u, .int .i64 a]) = .returned (.tuple #[u, .int .i64 b]) := by rw [h]

end Go.Proofs.YtikfffojeakjoaaGreatDoor
