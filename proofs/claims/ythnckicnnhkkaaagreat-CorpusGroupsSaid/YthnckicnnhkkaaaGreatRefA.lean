/- The first functions of the reference of layer 13: In, Touches, Valid, place, with, insert. Condition: the arguments read as lists and graphs. -/
import Derived.Test.YthnckicnnhkkaaaGreatBase
import Derived.Deep.RegionHeld3
import Derived.Deep.DrawnRows
import Derived.Deep.RegionLaw
import Derived.Laws.ResultCell
import Derived.Lib.SlicesCompact
namespace Go.Proofs.YthnckicnnhkkaaaGreat
open Go.RowKit

/-- Whether a die is in a graph. -/
def dieIn (g : Graph) (d : Die) : Bool := (d.side == 0 && hasB g.obv d.num) || (d.side == 1 && hasB g.rev d.num)
/-- A number entered into ascending numbers. -/
def withI : List Int → Int → List Int
  | [], n => [n]
  | x :: xs, n => if x < n then x :: withI xs n else if x = n then x :: xs else n :: x :: xs
/-- A link entered into links by Id. -/
def insL : List Link → Link → List Link
  | [], y => [y]
  | x :: xs, y => if x.id < y.id then x :: insL xs y else y :: x :: xs
end Go.Proofs.YthnckicnnhkkaaaGreat
/- The reference of layer 13: insert and Made. Condition: the arguments read as lists. -/
namespace Go.Proofs.YthnckicnnhkkaaaGreat
open Go.RowKit

end Go.Proofs.YthnckicnnhkkaaaGreat
/- The reference of layer 13: Made. Condition: the argument reads as a list of links. -/
namespace Go.Proofs.YthnckicnnhkkaaaGreat
open Go.RowKit

def withs (l : List Int) : List Int := l.foldl withI []
def inss (l : List Link) : List Link := l.foldl insL []
/-- The graph with some links. -/
def madeG (l : List Link) : Graph := ⟨withs (l.map Link.obv), withs (l.map Link.rev), inss l⟩
theorem insL_len : ∀ (xs : List Link) (n : Link), (insL xs n).length = xs.length + 1
  | [], _ => by simp [insL]
  | x :: xs, n => by
    have := insL_len xs n
    unfold insL
    split
    · simp; omega
    · simp
theorem foldl_insL_len : ∀ (l : List Link) (a : List Link), (l.foldl insL a).length = a.length + l.length
  | [], a => by simp
  | x :: l, a => by have := foldl_insL_len l (insL a x); have := insL_len a x; simp; omega
theorem inss_len (l : List Link) : (inss l).length = l.length := by have := foldl_insL_len l []; unfold inss; simpa using this

theorem heap_cell {w : World} {g i : Nat} {cs : Array Value} {t : TypeId} (h : w.heap[g]? = some (.cells cs t (0, 0))) : w.cell? ⟨g, i, none⟩ = cs[i]? := cell_of_row w g i cs t (0, 0) h
theorem heap_free {w : World} {g i : Nat} {cs : Array Value} {t : TypeId} (h : w.heap[g]? = some (.cells cs t (0, 0))) : w.frozen? ⟨g, i, none⟩ = false := by simp [World.frozen?, h]
theorem heap_lt {w : World} {g : Nat} {o : Obj} (h : w.heap[g]? = some o) : g < w.heap.size := (Array.getElem?_eq_some_iff.1 h).1
theorem heap_below {w w' : World} {g B : Nat} {o : Obj} (h : w.heap[g]? = some o) (hb : Below B w w') (hg : g < B) : w'.heap[g]? = some o := (hb.block g hg).trans h

/-- The local graph in its block (w.heap.size + 1), the result's block before it, and what the graph's slices hold. -/
structure MSt (w wr : World) (u1 u2 u3 : Value) (a b : List Int) (c : List Link) : Prop where
  g : wr.heap[w.heap.size + 1]? = some (.cells #[u1, u2, u3] 76 (0, 0))
  r : wr.heap[w.heap.size]? = some (.cells #[.slice none 0 0, .slice none 0 0, .slice none 0 0] 76 (0, 0))
  i1 : Ints wr u1 a
  i2 : Ints wr u2 b
  i3 : Links wr u3 c
  f1 : Fresh (w.heap.size + 2) u1
  f2 : Fresh (w.heap.size + 2) u2
  f3 : Fresh (w.heap.size + 2) u3
  b : Below w.heap.size w wr
section
variable {w wr w1 : World} {u1 u2 u3 v1 : Value} {a b a' : List Int} {c c' : List Link}
end
/-- A struct of three cells, stored whole. -/
theorem heap_set3 {w : World} {g : Nat} {a b c x y z : Value} {t : TypeId} (h : w.heap[g]? = some (.cells #[a, b, c] t (0, 0))) :
    (((w.setCell ⟨g, 0, none⟩ x).setCell ⟨g, 1, none⟩ y).setCell ⟨g, 2, none⟩ z).heap[g]? = some (.cells #[x, y, z] t (0, 0)) := by
  have h1 := heap_setCell_same w g 0 _ _ x h
  have h2 := heap_setCell_same _ g 1 _ _ y h1
  have h3 := heap_setCell_same _ g 2 _ _ z h2
  simpa using h3
theorem SlOf.set3 {α : Type} {enc : α → List Value} {k : Nat} {w : World} {v : Value} {xs : List α} {g : Nat} (h : SlOf enc k w v xs) (hp : v.ownBlock ≠ some g) (x y z : Value) :
    SlOf enc k (((w.setCell ⟨g, 0, none⟩ x).setCell ⟨g, 1, none⟩ y).setCell ⟨g, 2, none⟩ z) v xs := ((h.setCell (p := ⟨g, 0, none⟩) hp x).setCell (p := ⟨g, 1, none⟩) hp y).setCell (p := ⟨g, 2, none⟩) hp z
theorem below_set3 {B g : Nat} {a w : World} (h : Below B a w) (hg : B ≤ g) (x y z : Value) : Below B a (((w.setCell ⟨g, 0, none⟩ x).setCell ⟨g, 1, none⟩ y).setCell ⟨g, 2, none⟩ z) :=
  ((h.setCell (p := ⟨g, 0, none⟩) hg x).setCell (p := ⟨g, 1, none⟩) hg y).setCell (p := ⟨g, 2, none⟩) hg z
theorem blk3 {w : World} {g : Nat} {a b c : Value} {t : TypeId} (h : w.heap[g]? = some (.cells #[a, b, c] t (0, 0))) :
    w.cell? ⟨g, 0, none⟩ = some a ∧ w.cell? ⟨g, 1, none⟩ = some b ∧ w.cell? ⟨g, 2, none⟩ = some c ∧ w.frozen? ⟨g, 0, none⟩ = false ∧ w.frozen? ⟨g, 1, none⟩ = false ∧ w.frozen? ⟨g, 2, none⟩ = false :=
  ⟨heap_cell h, heap_cell h, heap_cell h, heap_free h, heap_free h, heap_free h⟩
theorem results_cell_tmp_row {P : Program} {fn : Func} {p u : Tmp} {ty : TypeId} (h : fn.results = #[.cell p ty, .tmp u]) (tmps : Array Value) (w : World) (g : Nat) (t : TypeId) (cs : Array Value) (fr : Nat × Nat) (d : TypeDesc)
    (hp : tmps.getD p undef = .pointer (some ⟨g, 0, none⟩)) (hg : w.heap[g]? = some (.cells cs t fr))
    (hu : P.underlying ty = some d) (hd : (match d with | .struct _ | .array _ _ => true | _ => false) = true) (hi : (P.info? ty).map (·.size) = some cs.size) :
    (results fn tmps).run P w = .ok (.tuple #[.agg cs, tmps.getD u undef]) w := by
  rw [results_cell_tmp h, hp]
  simp [asAddr, run_loadVar_row w g t ty cs fr d hg hu hd hi, Result.andThen]
/-- A graph whose slices lie in no block below B. -/
def GraphNew (B : Nat) (w : World) (v : Value) (g : Graph) : Prop := ∃ v1 v2 v3, v = .agg #[v1, v2, v3] ∧ (Ints w v1 g.obv ∧ Ints w v2 g.rev ∧ Links w v3 g.links) ∧ Fresh B v1 ∧ Fresh B v2 ∧ Fresh B v3
theorem GraphNew.at {B : Nat} {w : World} {v : Value} {g : Graph} (h : GraphNew B w v g) : GraphAt w v g := by
  obtain ⟨v1, v2, v3, e, ⟨a, b, c⟩, _⟩ := h
  exact ⟨v1, v2, v3, e, a, b, c⟩
theorem infoG : (Tryz.prog.info? 76).map (·.size) = some 3 := by kernel_rfl
end Go.Proofs.YthnckicnnhkkaaaGreat
/- The reference of layer 13: Of. Condition: the argument reads as a list of specimens. -/
namespace Go.Proofs.YthnckicnnhkkaaaGreat
open Go.RowKit

def linkOf (s : Spec) : Link := ⟨s.id, s.obv, s.rev⟩
def full (g : Graph) : Bool := decide (32 < g.obv.length) || decide (32 < g.rev.length)
/-- The error of the die graph of a corpus list, and the graph. -/
def ofE (l : List Spec) : Int := if checkE l = 0 then (if full (madeG (l.map linkOf)) then 6 else 0) else checkE l
def emptyG : Graph := ⟨[], [], []⟩
def ofG (l : List Spec) : Graph := if ofE l = 0 then madeG (l.map linkOf) else emptyG
theorem ret_pair {u : Value} {a b : Int} (h : a = b) : Ending.returned (.tuple #[u, .int .i64 a]) = .returned (.tuple #[u, .int .i64 b]) := by rw [h]

end Go.Proofs.YthnckicnnhkkaaaGreat
/- Plain laws, no program in sight: ascending lists are settled by their members; what Compact leaves of an ordered list; the reference's entering of numbers and links. -/
namespace Go.Proofs.YthnckicnnhkkaaaGreat
open Go.RowKit

/-- Two lists that ascend strictly by a key and have the same members are equal. -/
theorem asc_unique {α : Type} (f : α → Int) : ∀ {xs ys : List α}, xs.Pairwise (fun a b => f a < f b) → ys.Pairwise (fun a b => f a < f b) → (∀ n, n ∈ xs ↔ n ∈ ys) → xs = ys
  | [], [], _, _, _ => rfl
  | [], y :: ys, _, _, h => absurd ((h y).2 (by simp)) (by simp)
  | x :: xs, [], _, _, h => absurd ((h x).1 (by simp)) (by simp)
  | x :: xs, y :: ys, hx, hy, h => by
    rw [List.pairwise_cons] at hx hy
    have e : x = y := by
      have h1 := (h x).1 (by simp)
      have h2 := (h y).2 (by simp)
      rw [List.mem_cons] at h1 h2
      rcases h1 with h1 | h1
      · exact h1
      · rcases h2 with h2 | h2
        · exact h2.symm
        · have := hx.1 y h2; have := hy.1 x h1; omega
    subst e
    rw [asc_unique f hx.2 hy.2 (fun n => ?_)]
    constructor
    · intro hn
      have := (h n).1 (List.mem_cons_of_mem _ hn)
      rw [List.mem_cons] at this
      rcases this with this | this
      · subst this; have := hx.1 n hn; omega
      · exact this
    · intro hn
      have := (h n).2 (List.mem_cons_of_mem _ hn)
      rw [List.mem_cons] at this
      rcases this with this | this
      · subst this; have := hy.1 n hn; omega
      · exact this

/-! ### The reference's numbers -/
theorem withI_mem : ∀ (xs : List Int) (n m : Int), m ∈ withI xs n ↔ m = n ∨ m ∈ xs
  | [], n, m => by simp [withI]
  | x :: xs, n, m => by
    unfold withI
    split
    · rw [List.mem_cons, withI_mem xs n m, List.mem_cons]; grind
    · split
      · rename_i h; subst h; simp
      · simp
theorem withI_asc : ∀ {xs : List Int} (n : Int), xs.Pairwise (· < ·) → (withI xs n).Pairwise (· < ·)
  | [], n, _ => by simp [withI]
  | x :: xs, n, h => by
    rw [List.pairwise_cons] at h
    unfold withI
    split
    · rw [List.pairwise_cons]
      refine ⟨fun m hm => ?_, withI_asc n h.2⟩
      rcases (withI_mem xs n m).1 hm with rfl | hm
      · assumption
      · exact h.1 m hm
    · split
      · exact List.pairwise_cons.2 h
      · refine List.pairwise_cons.2 ⟨fun m hm => ?_, List.pairwise_cons.2 h⟩
        rw [List.mem_cons] at hm
        rcases hm with rfl | hm
        · omega
        · have := h.1 m hm; omega
theorem foldl_withI : ∀ (l a : List Int), a.Pairwise (· < ·) → (l.foldl withI a).Pairwise (· < ·) ∧ ∀ m, m ∈ l.foldl withI a ↔ m ∈ a ∨ m ∈ l
  | [], a, h => ⟨h, by simp⟩
  | x :: l, a, h => by
    obtain ⟨h1, h2⟩ := foldl_withI l (withI a x) (withI_asc x h)
    refine ⟨h1, fun m => ?_⟩
    rw [List.foldl_cons, h2 m, withI_mem, List.mem_cons]
    grind
theorem withs_asc (l : List Int) : (withs l).Pairwise (· < ·) := (foldl_withI l [] List.Pairwise.nil).1
theorem withs_mem (l : List Int) (m : Int) : m ∈ withs l ↔ m ∈ l := by rw [withs, (foldl_withI l [] List.Pairwise.nil).2]; simp
/-- Ascending numbers with the members of l are the reference's. -/
theorem withs_unique {xs l : List Int} (h : xs.Pairwise (· < ·)) (hm : ∀ n, n ∈ xs ↔ n ∈ l) : xs = withs l :=
  asc_unique (fun n : Int => n) h (withs_asc l) fun n => (hm n).trans (withs_mem l n).symm
theorem withs_congr {l k : List Int} (h : ∀ n, n ∈ l ↔ n ∈ k) : withs l = withs k := withs_unique (withs_asc l) fun n => (withs_mem l n).trans (h n)

/-! ### The reference's links -/
theorem insL_mem : ∀ (xs : List Link) (n m : Link), m ∈ insL xs n ↔ m = n ∨ m ∈ xs
  | [], n, m => by simp [insL]
  | x :: xs, n, m => by
    unfold insL
    split
    · rw [List.mem_cons, insL_mem xs n m, List.mem_cons]; grind
    · simp
theorem insL_asc : ∀ {xs : List Link} (n : Link), xs.Pairwise (fun a b => a.id < b.id) → (∀ x ∈ xs, x.id ≠ n.id) → (insL xs n).Pairwise (fun a b => a.id < b.id)
  | [], n, _, _ => by simp [insL]
  | x :: xs, n, h, hn => by
    rw [List.pairwise_cons] at h
    have hx := hn x (by simp)
    unfold insL
    split
    · rw [List.pairwise_cons]
      refine ⟨fun m hm => ?_, insL_asc n h.2 (fun y hy => hn y (List.mem_cons_of_mem _ hy))⟩
      rcases (insL_mem xs n m).1 hm with rfl | hm
      · assumption
      · exact h.1 m hm
    · refine List.pairwise_cons.2 ⟨fun m hm => ?_, List.pairwise_cons.2 h⟩
      rw [List.mem_cons] at hm
      rcases hm with rfl | hm
      · omega
      · have := h.1 m hm; omega
theorem foldl_insL : ∀ (l a : List Link), a.Pairwise (fun x y => x.id < y.id) → (l.map Link.id).Nodup → (∀ x ∈ l, ∀ y ∈ a, y.id ≠ x.id) →
    (l.foldl insL a).Pairwise (fun x y => x.id < y.id) ∧ ∀ m, m ∈ l.foldl insL a ↔ m ∈ a ∨ m ∈ l
  | [], a, h, _, _ => ⟨h, by simp⟩
  | x :: l, a, h, hd, ha => by
    rw [List.map_cons, List.nodup_cons] at hd
    obtain ⟨h1, h2⟩ := foldl_insL l (insL a x) (insL_asc x h (fun y hy => ha x (by simp) y hy)) hd.2 (fun z hz y hy => by
      rcases (insL_mem a x y).1 hy with rfl | hy
      · exact fun e => hd.1 (List.mem_map.2 ⟨z, hz, e.symm⟩)
      · exact ha z (List.mem_cons_of_mem _ hz) y hy)
    refine ⟨h1, fun m => ?_⟩
    rw [List.foldl_cons, h2 m, insL_mem, List.mem_cons]
    grind
theorem inss_asc {l : List Link} (h : (l.map Link.id).Nodup) : (inss l).Pairwise (fun x y => x.id < y.id) := (foldl_insL l [] List.Pairwise.nil h (by simp)).1
theorem inss_mem {l : List Link} (h : (l.map Link.id).Nodup) (m : Link) : m ∈ inss l ↔ m ∈ l := by rw [inss, (foldl_insL l [] List.Pairwise.nil h (by simp)).2]; simp
theorem inss_unique {xs l : List Link} (hd : (l.map Link.id).Nodup) (h : xs.Pairwise (fun x y => x.id < y.id)) (hm : ∀ n, n ∈ xs ↔ n ∈ l) : xs = inss l :=
  asc_unique Link.id h (inss_asc hd) fun n => (hm n).trans (inss_mem hd n).symm

/-! ### What Compact leaves of an ordered list -/
theorem compactUpTo_asc {α : Type} [Inhabited α] [DecidableEq α] (le : α → α → Prop) (trans : ∀ {a b c}, le a b → le b c → le a c) (anti : ∀ {a b}, le a b → le b a → a = b) (d : Array α)
    (hs : ∀ i j, i < j → j < d.size → le d[i]! d[j]!) : ∀ m, m ≤ d.size →
    (Lib.compactUpTo d m).Pairwise (fun a b => le a b ∧ a ≠ b) ∧ ∀ x, x ∈ Lib.compactUpTo d m ↔ ∃ j, j < m ∧ d[j]! = x
  | 0, _ => ⟨by simp [Lib.compactUpTo], by simp [Lib.compactUpTo]⟩
  | m + 1, hm => by
    obtain ⟨h1, h2⟩ := compactUpTo_asc le trans anti d hs m (by omega)
    rw [Lib.compactUpTo_succ]
    by_cases hk : Lib.keeps d m = true
    · rw [if_pos hk]
      constructor
      · rw [List.pairwise_append]
        refine ⟨h1, by simp, fun x hx y hy => ?_⟩
        rw [List.mem_singleton] at hy
        subst hy
        obtain ⟨j, hj, rfl⟩ := (h2 x).1 hx
        refine ⟨hs j m hj (by omega), fun e => ?_⟩
        simp only [Lib.keeps, decide_eq_true_eq] at hk
        rcases hk with hk | hk
        · omega
        · apply hk
          by_cases hj' : j = m - 1
          · rw [← hj']; exact e.symm
          · refine anti ?_ (hs (m - 1) m (by omega) (by omega))
            rw [← e]; exact hs j (m - 1) (by omega) (by omega)
      · intro x
        rw [List.mem_append, h2 x, List.mem_singleton]
        constructor
        · rintro (⟨j, hj, rfl⟩ | rfl)
          · exact ⟨j, by omega, rfl⟩
          · exact ⟨m, by omega, rfl⟩
        · rintro ⟨j, hj, rfl⟩
          by_cases e : j = m
          · subst e; exact .inr rfl
          · exact .inl ⟨j, by omega, rfl⟩
    · rw [if_neg hk, List.append_nil]
      refine ⟨h1, fun x => (h2 x).trans ?_⟩
      have hk' : m ≠ 0 ∧ d[m]! = d[m - 1]! := by
        simp only [Lib.keeps, decide_eq_true_eq] at hk
        constructor
        · exact fun e => hk (.inl e)
        · exact Classical.byContradiction fun e => hk (.inr e)
      constructor
      · rintro ⟨j, hj, rfl⟩; exact ⟨j, by omega, rfl⟩
      · rintro ⟨j, hj, rfl⟩
        by_cases e : j = m
        · subst e; exact ⟨j - 1, by omega, hk'.2.symm⟩
        · exact ⟨j, by omega, rfl⟩
theorem arr_get {α : Type} [Inhabited α] (zs : List α) (i : Nat) (h : i < zs.length) : zs.toArray[i]! = zs[i] := by
  rw [getElem!_pos zs.toArray i (by simpa using h)]; simp
theorem compact_asc {α : Type} [Inhabited α] [DecidableEq α] (le : α → α → Prop) (trans : ∀ {a b c}, le a b → le b c → le a c) (anti : ∀ {a b}, le a b → le b a → a = b) (zs : List α) (hs : zs.Pairwise le) :
    (Lib.compact zs).Pairwise (fun a b => le a b ∧ a ≠ b) ∧ ∀ x, x ∈ Lib.compact zs ↔ x ∈ zs := by
  obtain ⟨h1, h2⟩ := compactUpTo_asc le trans anti zs.toArray (fun i j hi hj => by
    have hj' : j < zs.length := by simpa using hj
    rw [arr_get zs i (by omega), arr_get zs j hj']
    exact List.pairwise_iff_getElem.1 hs i j (by omega) hj' hi) zs.length (by simp)
  refine ⟨h1, fun x => (h2 x).trans ?_⟩
  rw [List.mem_iff_getElem]
  constructor
  · rintro ⟨j, hj, rfl⟩; exact ⟨j, hj, (arr_get zs j hj).symm⟩
  · rintro ⟨j, hj, rfl⟩; exact ⟨j, hj, arr_get zs j hj⟩
/-- 'slices.Sort, then slices.Compact': the reference's ascending numbers. -/
theorem compact_sorted (l : List Int) : Lib.compact (l.mergeSort fun x y => decide (x ≤ y)) = withs l := by
  have hs : (l.mergeSort fun x y => decide (x ≤ y)).Pairwise (· ≤ ·) :=
    (List.pairwise_mergeSort (le := fun x y : Int => decide (x ≤ y)) (fun a b c h1 h2 => by simp at *; omega) (fun a b => by simp; omega) l).imp (fun h => by simpa using h)
  obtain ⟨h1, h2⟩ := compact_asc (fun a b : Int => a ≤ b) Int.le_trans Int.le_antisymm _ hs
  exact withs_unique (h1.imp fun h => by omega) fun n => (h2 n).trans (by simp)
end Go.Proofs.YthnckicnnhkkaaaGreat
