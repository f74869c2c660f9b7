/- Words for memory that all my walks use: a later world, a slice that reads as a list of cells, structs of numbers. No condition. -/
import Derived.Test.YthnckicnnhkkaaaGreatProg
import Derived.WalkKit
import Derived.WalkSpells
import Derived.WalkLawsBesides
import Derived.Lib.Hide
import Derived.Deep.QuietTactic
import Derived.BigQuiet
import Derived.Maps.AppendAt
import Derived.Deep.AppendLies
namespace Go.Proofs.YthnckicnnhkkaaaGreat
open Go.RowKit

/-- A world that has come of w by growth alone. -/
structure Later (w : World) where
  to : World
  h : Below w.heap.size w to

instance (w : World) : Nonempty (Later w) := ⟨⟨w, Below.refl _ _⟩⟩
theorem later {w w' : World} (h : Below w.heap.size w w') : ∃ x : Later w, w' = x.to := ⟨⟨w', h⟩, rfl⟩
theorem Later.cell {w : World} {a : Addr} {v : Value} (h : w.cell? a = some v) (x : Later w) : x.to.cell? a = some v :=
  (x.h.cell (World.block_lt_of_cell? w a h)).trans h
theorem below_trans {a b c : World} (h : Below a.heap.size a b) (k : Below b.heap.size b c) : Below a.heap.size a c := h.trans (k.mono h.size)

theorem Later.cell_all {w : World} {a : Addr} {v : Value} (h : w.cell? a = some v) : ∀ x : Later w, x.to.cell? a = some v := fun x => x.cell h

/-- A region that draws its order and only reads, or calls what grows memory alone and hands back a plain value: one walk, in whatever later world. -/
theorem wp_region_later {P : Program} {id : Nat} {Q : Exit → Act → World → Prop} {a : Act} {w : World} {l : List Oper} (hm : P.follows .mixedOrders = true) (hB : Region.lexB .any l.toArray = true)
    (h : wpQuiet P l.toArray (fun w' => ∃ x : Later w, w' = x.to) (fun a' => ∀ w', (∃ x : Later w, w' = x.to) → Q .normal a' w') l a) : (Code.region id l.toArray true).wp P Q a w :=
  wp_region_quiet (C := fun w' => ∃ x : Later w, w' = x.to) hm hB ⟨⟨w.drew, (Below.refl _ _).drew⟩, rfl⟩ (by simpa using h)
theorem calls_later {P : Program} {f : FuncId} {args : Array Value} {w : World} {x : Later w} {v : Value} (h : Calls P f args x.to fun e w' => e = .returned v ∧ Below x.to.heap.size x.to w') :
    Calls P f args x.to fun e w'' => e = .returned v ∧ ∃ y : Later w, w'' = y.to :=
  h.mono fun _ _ ⟨he, hb⟩ => ⟨he, later (below_trans x.h hb)⟩
/-- The cells of a slice value: n elements of k cells each, at A. -/
def Sl (w : World) (k : Nat) (A : Option Addr) (n : Nat) (xs : List Value) : Prop :=
  xs.length = n * k ∧ (0 < n → ∃ b o, A = some ⟨b, o, none⟩ ∧ b < w.heap.size ∧ ∀ j u, xs[j]? = some u → w.cell? ⟨b, o + j, none⟩ = some u)

section
variable {w w' : World} {k n : Nat} {A : Option Addr} {xs : List Value}
theorem Sl.nil (w : World) (k : Nat) (A : Option Addr) : Sl w k A 0 [] := ⟨by simp, fun h => absurd h (by omega)⟩
theorem Sl.below (h : Sl w k A n xs) (hb : Below w.heap.size w w') : Sl w' k A n xs :=
  ⟨h.1, fun hn => by
    obtain ⟨b, o, e, hlt, hc⟩ := h.2 hn
    exact ⟨b, o, e, Nat.lt_of_lt_of_le hlt hb.size, fun j u hu => (hb.cell (p := ⟨b, o + j, none⟩) hlt).trans (hc j u hu)⟩⟩
end

/-- A slice value that reads as a list of elements of k cells. -/
def SlOf {α : Type} (enc : α → List Value) (k : Nat) (w : World) (v : Value) (xs : List α) : Prop :=
  ∃ A c, v = .slice A xs.length c ∧ xs.length ≤ c ∧ c ≤ maxLen ∧ Sl w k A xs.length (xs.flatMap enc)

theorem flat_get {α : Type} (enc : α → List Value) (k : Nat) (hk : ∀ x, (enc x).length = k) : ∀ (xs : List α) (i j : Nat), j < k → (xs.flatMap enc)[i * k + j]? = xs[i]?.bind fun x => (enc x)[j]?
  | [], i, j, _ => by simp
  | x :: xs, 0, j, hj => by
    rw [List.flatMap_cons, Nat.zero_mul, Nat.zero_add, List.getElem?_append_left (by rw [hk]; exact hj)]
    simp
  | x :: xs, i + 1, j, hj => by
    rw [List.flatMap_cons, List.getElem?_append_right (by rw [hk, Nat.add_mul]; omega), hk]
    have : (i + 1) * k + j - k = i * k + j := by rw [Nat.add_mul]; omega
    rw [this, flat_get enc k hk xs i j hj]
    simp

theorem flat_len {α : Type} (enc : α → List Value) (k : Nat) (hk : ∀ x, (enc x).length = k) : ∀ (xs : List α), (xs.flatMap enc).length = xs.length * k
  | [] => by simp
  | x :: xs => by rw [List.flatMap_cons, List.length_append, flat_len enc k hk xs, hk, List.length_cons, Nat.add_mul]; omega

theorem SlOf.below {α : Type} {enc : α → List Value} {k : Nat} {w w' : World} {v : Value} {xs : List α} (h : SlOf enc k w v xs) (hb : Below w.heap.size w w') : SlOf enc k w' v xs := by
  obtain ⟨A, c, e, h1, h2, h3⟩ := h
  exact ⟨A, c, e, h1, h2, h3.below hb⟩

/-- The cells of an element, once there is one. -/
theorem SlOf.opens {α : Type} {enc : α → List Value} {k : Nat} {w : World} {A : Option Addr} {xs : List α} (hk : ∀ x, (enc x).length = k)
    (h : Sl w k A xs.length (xs.flatMap enc)) (hn : 0 < xs.length) :
    ∃ b o, A = some ⟨b, o, none⟩ ∧ b < w.heap.size ∧ ∀ i x, xs[i]? = some x → ∀ j u, (enc x)[j]? = some u → w.cell? ⟨b, o + (i * k + j), none⟩ = some u := by
  obtain ⟨b, o, e, hb, hc⟩ := h.2 hn
  refine ⟨b, o, e, hb, fun i x hx j u hu => hc _ u ?_⟩
  have hj : j < k := by
    have := (List.getElem?_eq_some_iff.1 hu).1
    rw [hk] at this
    exact this
  rw [flat_get enc k hk xs i j hj, hx]
  exact hu

/-! ### A slice of the call's own that grows -/
/-- The slice value v, in blocks from B on, owns the list xs of elements of type e, k cells each. -/
def Own {α : Type} (enc : α → List Value) (k : Nat) (e : TypeId) (B : Nat) (w : World) (v : Value) (xs : List α) : Prop := w.ownsRow B e k v xs.length (xs.flatMap enc)
theorem own_nil {α : Type} (enc : α → List Value) (k : Nat) (e : TypeId) (B : Nat) (w : World) : Own enc k e B w (.slice none 0 0) [] := World.ownsRow_nil w B e k

section
variable {α : Type} {enc : α → List Value} {k : Nat} {e : TypeId} {B : Nat} {w w' : World} {v : Value} {xs : List α}
theorem Own.alloc (h : Own enc k e B w v xs) (o : Obj) : Own enc k e B (w.alloc o) v xs := World.ownsRow.alloc h o
theorem Own.drewN (h : Own enc k e B w v xs) (n : Nat) : Own enc k e B (w.drewN n) v xs := h
theorem Own.below (h : Own enc k e B w v xs) (hb : Below w.heap.size w w') : Own enc k e B w' v xs :=
  World.ownsRow.kept (row := none) h ⟨hb.os, hb.tape, hb.output, hb.size, fun i hi _ => hb.block i hi⟩ (by cases v.ownBlock <;> simp)
theorem Own.later (h : Own enc k e B w v xs) (x : Later w) : Own enc k e B x.to v xs := h.below x.h
theorem Own.kept {row : Option Nat} (h : Own enc k e B w v xs) (hg : w.grownBy w' row) (hne : v.ownBlock = none ∨ v.ownBlock ≠ row) : Own enc k e B w' v xs := World.ownsRow.kept h hg hne
theorem Own.slOf (h : Own enc k e B w v xs) : SlOf enc k w v xs := by
  rcases h.2 with ⟨rfl, hn⟩ | ⟨g, cap, cur, rfl, hb, hg, hle, hm, hs, htake⟩
  · have : xs = [] := List.eq_nil_of_length_eq_zero hn
    subst this
    exact ⟨none, 0, rfl, Nat.zero_le _, by simp [maxLen], Sl.nil _ _ _⟩
  · refine ⟨some ⟨g, 0, none⟩, cap, rfl, hle, hm, h.1, fun _ => ⟨g, 0, rfl, (Array.getElem?_eq_some_iff.1 hg).1, fun j u hu => ?_⟩⟩
    have := World.ownsRow.cells h (g := g) rfl j u hu
    simpa [Addr.add_lit] using this
/-- Two slices of the call's own lie in different blocks. -/
def Apart (v u : Value) : Prop := v.ownBlock = none ∨ v.ownBlock ≠ u.ownBlock
theorem Apart.append {v v' u : Value} {n : Nat} (h : Apart v u) (hat : v'.ownBlock = v.ownBlock ∨ v'.ownBlock = some n) (hu : ∀ g, u.ownBlock = some g → g < n) : Apart v' u := by
  rcases hat with e | e
  · unfold Apart at *; rw [e]; exact h
  · refine .inr fun e' => ?_
    rw [e] at e'
    have := hu n e'.symm
    omega
theorem Apart.append' {v v' u : Value} {n : Nat} (h : Apart u v) (hat : v'.ownBlock = v.ownBlock ∨ v'.ownBlock = some n) (hu : ∀ g, u.ownBlock = some g → g < n) : Apart u v' := by
  rcases hat with e | e
  · unfold Apart at *; rw [e]; exact h
  · refine .inr fun e' => ?_
    rw [e] at e'
    have := hu n e'
    omega
theorem Apart.keep {v u : Value} (h : Apart v u) : u.ownBlock = none ∨ u.ownBlock ≠ v.ownBlock := by
  rcases h with e | e
  · rw [e]; cases u.ownBlock <;> simp
  · exact .inr fun h => e h.symm
theorem Own.lt (h : Own enc k e B w v xs) : ∀ g, v.ownBlock = some g → B ≤ g ∧ g < w.heap.size := World.ownsRow.lt h
/-- Behind an append: what is below B is as it was. -/
theorem below_append {w1 : World} (h : Own enc k e B w v xs) (hg : w.grownBy w1 v.ownBlock) (hB : B ≤ w.heap.size) : Below B w w1 :=
  (Below.refl B w).grown hg hB fun g hg => (h.lt g hg).1
end

/-- 'append(v, x)' of one element that lies in a new block. -/
theorem wpList_append1 {P : Program} {α : Type} {enc : α → List Value} {size : Nat} {B : Nat} {W : World} {v : Value} {xs : List α} {ops : Array Oper} {rest : List Oper} {o : Oper} {a : Act} {Q : Exit → Act → World → Prop} (hgd : o.guard = none) (s x : Operand) (t : TypeId)
    (ho : o.op = .call { callee := .builtin .append, args := #[s, x], argTypes := #[t, t] })
    (e : TypeId) (i : TypeInfo) (z : Value) (bytes : Nat) (ht : P.underlying t = some (.slice e)) (hi : P.info? e = some i) (hz : i.zero = some z)
    (hsize : i.size = size) (hby : i.bytes = bytes) (hzs : z.cells.size = size) (hsz : 0 < size) (hs : a.eval s = v) (hown : Own enc size e B W v xs)
    (y : α) (cs : Array Value) (hcs : cs = (enc y).toArray) (hk : ∀ x, (enc x).length = size) (h1 : ∀ x, ∀ u ∈ enc x, u.oneCell' = true)
    (g : Nat) (hg : g = W.heap.size) (hx : a.eval x = .slice (some ⟨g, 0, none⟩) 1 1)
    (hn : (xs.length + 1) * bytes ≤ 140737488355328) (hn' : xs.length + 1 ≤ 140737488355328) (hB : B ≤ W.heap.size)
    (h : ∀ v' w', Own enc size e B w' v' (xs ++ [y]) → W.grownBy w' v.ownBlock → (v'.ownBlock = v.ownBlock ∨ v'.ownBlock = some (W.heap.size + 1)) → wpList P ops Q rest (a.put o.dst v') w') :
    wpList P ops Q (o :: rest) a (W.alloc (.cells cs e)) := by
  subst hcs
  subst hg
  refine wpList_append_own_at _ hgd s x t ho B e i z size bytes ht hi hz hsize hby hzs hsz v xs.length (xs.flatMap enc) hs (hown.alloc _) ⟨W.heap.size, 0, none⟩ 1 1 (enc y) hx (by rw [hk]; simp) ?_ (h1 y) (by simp only [maxLen]; omega) hn (by simp; omega) ?_
  · exact World.news_of_block (heap_alloc_new W _)
  · intro v' w' h2 h3 _ h5
    refine h v' w' ?_ ((World.grownBy_alloc W _ _).trans h3) (by simpa using h5)
    unfold Own
    rw [List.flatMap_append, List.length_append]
    simpa using h2

/-! ### The types of the program -/
structure Spec where
  id : Int
  obv : Int
  rev : Int
  os : Int
  rs : Int
  ax : Int
  wt : Int
  deriving DecidableEq
structure Link where
  id : Int
  obv : Int
  rev : Int
  deriving DecidableEq
structure Die where
  side : Int
  num : Int
  deriving DecidableEq
structure Pair where
  a : Int
  b : Int
  deriving DecidableEq
structure Graph where
  obv : List Int
  rev : List Int
  links : List Link
  deriving DecidableEq

def encI (x : Int) : List Value := [.int .i64 x]
def encS (s : Spec) : List Value := [.int .i64 s.id, .int .i64 s.obv, .int .i64 s.rev, .int .i64 s.os, .int .i64 s.rs, .int .i64 s.ax, .int .i64 s.wt]
def encL (l : Link) : List Value := [.int .i64 l.id, .int .i64 l.obv, .int .i64 l.rev]
def encD (d : Die) : List Value := [.int .i64 d.side, .int .i64 d.num]
def encP (p : Pair) : List Value := [.int .i64 p.a, .int .i64 p.b]
theorem lenI (x : Int) : (encI x).length = 1 := rfl
theorem lenS (x : Spec) : (encS x).length = 7 := rfl
theorem lenL (x : Link) : (encL x).length = 3 := rfl
theorem lenD (x : Die) : (encD x).length = 2 := rfl
theorem lenP (x : Pair) : (encP x).length = 2 := rfl

theorem oneI (x : Int) : ∀ u ∈ encI x, u.oneCell' = true := by simp [encI, Value.oneCell']
theorem oneS (x : Spec) : ∀ u ∈ encS x, u.oneCell' = true := by simp [encS, Value.oneCell']
theorem oneL (x : Link) : ∀ u ∈ encL x, u.oneCell' = true := by simp [encL, Value.oneCell']
theorem oneD (x : Die) : ∀ u ∈ encD x, u.oneCell' = true := by simp [encD, Value.oneCell']
theorem oneP (x : Pair) : ∀ u ∈ encP x, u.oneCell' = true := by simp [encP, Value.oneCell']

def Ints (w : World) (v : Value) (xs : List Int) : Prop := SlOf encI 1 w v xs
def Specs (w : World) (v : Value) (xs : List Spec) : Prop := SlOf encS 7 w v xs
def Links (w : World) (v : Value) (xs : List Link) : Prop := SlOf encL 3 w v xs
def Dies (w : World) (v : Value) (xs : List Die) : Prop := SlOf encD 2 w v xs
def Pairs (w : World) (v : Value) (xs : List Pair) : Prop := SlOf encP 2 w v xs
def GraphAt (w : World) (v : Value) (g : Graph) : Prop := ∃ v1 v2 v3, v = .agg #[v1, v2, v3] ∧ Ints w v1 g.obv ∧ Ints w v2 g.rev ∧ Links w v3 g.links

theorem Ints.below {w w' : World} {v : Value} {xs : List Int} (h : Ints w v xs) (hb : Below w.heap.size w w') : Ints w' v xs := SlOf.below h hb
theorem Specs.below {w w' : World} {v : Value} {xs : List Spec} (h : Specs w v xs) (hb : Below w.heap.size w w') : Specs w' v xs := SlOf.below h hb
theorem Links.below {w w' : World} {v : Value} {xs : List Link} (h : Links w v xs) (hb : Below w.heap.size w w') : Links w' v xs := SlOf.below h hb
theorem Dies.below {w w' : World} {v : Value} {xs : List Die} (h : Dies w v xs) (hb : Below w.heap.size w w') : Dies w' v xs := SlOf.below h hb
theorem Pairs.below {w w' : World} {v : Value} {xs : List Pair} (h : Pairs w v xs) (hb : Below w.heap.size w w') : Pairs w' v xs := SlOf.below h hb
theorem infoI : (Tryz.prog.info? 3).map (fun i => (i.zero, i.size, i.bytes)) = some (some (.int .i64 0), 1, 8) := by kernel_rfl
theorem infoS : (Tryz.prog.info? 31).map (fun i => (i.zero, i.size, i.bytes)) = some (some (.agg #[.int .i64 0, .int .i64 0, .int .i64 0, .int .i64 0, .int .i64 0, .int .i64 0, .int .i64 0]), 7, 56) := by kernel_rfl
theorem infoL : (Tryz.prog.info? 135).map (fun i => (i.zero, i.size, i.bytes)) = some (some (.agg #[.int .i64 0, .int .i64 0, .int .i64 0]), 3, 24) := by kernel_rfl
theorem infoD : (Tryz.prog.info? 143).map (fun i => (i.zero, i.size, i.bytes)) = some (some (.agg #[.int .i64 0, .int .i64 0]), 2, 16) := by kernel_rfl
theorem infoP : (Tryz.prog.info? 87).map (fun i => (i.zero, i.size, i.bytes)) = some (some (.agg #[.int .i64 0, .int .i64 0]), 2, 16) := by kernel_rfl
abbrev OwnI (B : Nat) (w : World) (v : Value) (xs : List Int) : Prop := Own encI 1 3 B w v xs
abbrev OwnS (B : Nat) (w : World) (v : Value) (xs : List Spec) : Prop := Own encS 7 31 B w v xs
abbrev OwnL (B : Nat) (w : World) (v : Value) (xs : List Link) : Prop := Own encL 3 135 B w v xs
abbrev OwnD (B : Nat) (w : World) (v : Value) (xs : List Die) : Prop := Own encD 2 143 B w v xs
abbrev OwnP (B : Nat) (w : World) (v : Value) (xs : List Pair) : Prop := Own encP 2 87 B w v xs

theorem get_of_lt {α : Type} {xs : List α} {k : Nat} (h : k < xs.length) : ∃ x, xs[k]? = some x := ⟨xs[k], List.getElem?_eq_getElem h⟩
theorem take_snoc' {α : Type} {xs : List α} {k : Nat} {x : α} (h : xs[k]? = some x) : xs.take (k + 1) = xs.take k ++ [x] := by
  rw [List.take_add_one, h]
  rfl
theorem lt_of_get {α : Type} {xs : List α} {k : Nat} {x : α} (h : xs[k]? = some x) : k < xs.length := (List.getElem?_eq_some_iff.1 h).1
theorem ret_bool {a b : Bool} (h : a = b) : Ending.returned (.bool a) = .returned (.bool b) := by rw [h]

end Go.Proofs.YthnckicnnhkkaaaGreat
