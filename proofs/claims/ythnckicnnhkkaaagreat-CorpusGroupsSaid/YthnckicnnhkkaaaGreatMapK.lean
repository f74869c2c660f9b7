/- Maps of the call's own as lists of pairs: keys and elements of whatever types the model reads; look-up, store, length. No condition. -/
import Derived.Test.YthnckicnnhkkaaaGreatLib
import Derived.Maps.Own
import Derived.Maps.OwnSet
import Derived.Maps.Views
import Derived.DeepKeys4
import Derived.Maps.RangeWalk
import Derived.Maps.Range
namespace Go.Proofs.YthnckicnnhkkaaaGreat
open Go.RowKit Go.Maps

structure KeyEnc (P : Program) (k : TypeId) (κ : Type) where
  ok : κ → Prop
  val : κ → Value
  lit : κ → Lit
  keyed : Keyed P k
  key : ∀ {x}, ok x → keyOf P k (val x) = some (lit x)
  inj : ∀ {x y}, ok x → ok y → lit x = lit y → x = y
  inv : ∀ {v l}, keyOf P k v = some l → ∃ x, ok x ∧ v = val x ∧ l = lit x
structure ElEnc (P : Program) (e : TypeId) (β : Type) where
  ok : β → Prop
  val : β → Value
  el : β → DataW Unit
  zero : β
  zrun : ∀ w, (zeroValue e).run P w = .ok (val zero) w
  zok : ok zero
  R : Value → Option (DataW Unit × List MemPlace) := plainElem (H := Unit) P e
  read : ∀ {x}, ok x → R (val x) = some (el x, [])
  inv : ∀ {v z}, R v = some z → ∃ x, ok x ∧ v = val x ∧ z = (el x, [])
  inj : ∀ {x y}, el x = el y → x = y

section
variable {κ β : Type} [DecidableEq κ]
/-- What a list of pairs has at a key. -/
def lookM : List (κ × β) → κ → Option β
  | [], _ => none
  | p :: m, x => if p.1 = x then some p.2 else lookM m x
def putM : List (κ × β) → κ → β → List (κ × β)
  | [], x, y => [(x, y)]
  | p :: m, x, y => if p.1 = x then (x, y) :: m else p :: putM m x y
theorem lookM_putM : ∀ (m : List (κ × β)) (x : κ) (y : β) (z : κ), lookM (putM m x y) z = if x = z then some y else lookM m z
  | [], x, y, z => by simp [putM, lookM]
  | p :: m, x, y, z => by
    unfold putM
    by_cases h : p.1 = x
    · rw [if_pos h, lookM]
      simp only
      by_cases hz : x = z
      · simp [hz]
      · rw [if_neg hz, if_neg hz, lookM, if_neg (by rw [h]; exact hz)]
    · rw [if_neg h, lookM, lookM_putM m x y z]
      by_cases hz : x = z
      · subst hz; simp [h]
      · simp [hz, lookM]
theorem lookM_none {m : List (κ × β)} {x : κ} : lookM m x = none ↔ x ∉ m.map Prod.fst := by
  induction m with
  | nil => simp [lookM]
  | cons p m ih =>
    rw [lookM]
    by_cases h : p.1 = x
    · simp [h]
    · rw [if_neg h, ih]
      simp only [List.map_cons, List.mem_cons, not_or]
      exact ⟨fun h' => ⟨fun e => h e.symm, h'⟩, fun h' => h'.2⟩
theorem lookM_some {m : List (κ × β)} {x : κ} {y : β} (h : lookM m x = some y) : (x, y) ∈ m := by
  induction m with
  | nil => simp [lookM] at h
  | cons p m ih =>
    rw [lookM] at h
    by_cases hx : p.1 = x
    · rw [if_pos hx] at h
      cases h
      subst hx
      exact List.mem_cons_self ..
    · rw [if_neg hx] at h
      exact List.mem_cons_of_mem _ (ih h)
theorem lookM_mem {m : List (κ × β)} (hd : (m.map Prod.fst).Nodup) {x : κ} {y : β} : lookM m x = some y ↔ (x, y) ∈ m := by
  refine ⟨lookM_some, fun h => ?_⟩
  induction m with
  | nil => simp at h
  | cons p m ih =>
    rw [List.map_cons, List.nodup_cons] at hd
    rw [lookM]
    rcases List.mem_cons.1 h with rfl | h
    · rw [if_pos rfl]
    · rw [if_neg (fun e => hd.1 (by rw [e]; exact List.mem_map_of_mem (f := Prod.fst) h)), ih hd.2 h]
theorem putM_keys (m : List (κ × β)) (x : κ) (y : β) : (putM m x y).map Prod.fst = if x ∈ m.map Prod.fst then m.map Prod.fst else m.map Prod.fst ++ [x] := by
  induction m with
  | nil => simp [putM]
  | cons p m ih =>
    unfold putM
    by_cases h : p.1 = x
    · rw [if_pos h, if_pos (by simp [h])]
      simp [h]
    · rw [if_neg h, List.map_cons, ih]
      by_cases hx : x ∈ m.map Prod.fst
      · rw [if_pos hx, if_pos (by simp only [List.map_cons, List.mem_cons]; exact .inr hx), List.map_cons]
      · rw [if_neg hx, if_neg (by simp only [List.map_cons, List.mem_cons, not_or]; exact ⟨fun e => h e.symm, hx⟩)]
        simp
theorem putM_nodup {m : List (κ × β)} (hd : (m.map Prod.fst).Nodup) (x : κ) (y : β) : ((putM m x y).map Prod.fst).Nodup := by
  rw [putM_keys]
  split
  · exact hd
  · rename_i h
    rw [List.nodup_append]
    refine ⟨hd, by simp, fun a ha b hb e => ?_⟩
    simp at hb
    subst hb; subst e
    exact h ha
theorem putM_len (m : List (κ × β)) (x : κ) (y : β) : (putM m x y).length = if x ∈ m.map Prod.fst then m.length else m.length + 1 := by
  have := congrArg List.length (putM_keys m x y)
  rw [List.length_map] at this
  rw [this]
  split <;> simp
theorem putM_mem {m : List (κ × β)} {x : κ} {y : β} {p : κ × β} (h : p ∈ putM m x y) : p = (x, y) ∨ p ∈ m := by
  induction m with
  | nil => simpa [putM] using h
  | cons q m ih =>
    unfold putM at h
    by_cases hq : q.1 = x
    · rw [if_pos hq] at h
      rcases List.mem_cons.1 h with h | h
      · exact .inl h
      · exact .inr (List.mem_cons_of_mem _ h)
    · rw [if_neg hq] at h
      rcases List.mem_cons.1 h with h | h
      · exact .inr (by rw [h]; exact List.mem_cons_self ..)
      · exact (ih h).imp id (List.mem_cons_of_mem _)

variable {P : Program} {k e t : TypeId} (KE : KeyEnc P k κ) (EE : ElEnc P e β)
/-- Block b is a map that reads as the list of pairs m. -/
structure MapAt (w : World) (b : Nat) (m : List (κ × β)) : Prop where
  own : ∃ D : DataW Unit, w.ownsMap P k EE.R b m.length D ∧ Tidy D ∧ Maps.size D = m.length ∧ ∀ x, KE.ok x → Maps.has D (KE.lit x) = (lookM m x).isSome ∧ ∀ zd, D.atKey (KE.lit x) zd = match lookM m x with | some y => EE.el y | none => zd
  nodup : (m.map Prod.fst).Nodup
  good : ∀ p ∈ m, KE.ok p.1 ∧ EE.ok p.2
variable {KE EE} {w w' : World} {b : Nat} {m : List (κ × β)}
theorem owns_tight {R : Value → Option (DataW Unit × List MemPlace)} {n : Nat} {D : DataW Unit} (h : w.ownsMap P k R b n D) : w.ownsMap P k R b (Maps.size D) D := by
  obtain ⟨es, clock, hb, F, hs, rfl⟩ := h
  exact ⟨es, clock, hb, F, by simp [Maps.size, length_sorted], rfl⟩
theorem mapAt_made (w : World) : MapAt (P := P) KE EE (w.alloc (.map #[] 0)) w.heap.size [] :=
  ⟨⟨_, World.ownsMap_made w P k _, tidy_empty, rfl, fun x _ => ⟨rfl, fun zd => rfl⟩⟩, by simp, by simp⟩
theorem MapAt.lt (h : MapAt KE EE w b m) : b < w.heap.size := by
  obtain ⟨⟨D, h1, _⟩, _, _⟩ := h
  exact h1.lt
theorem MapAt.kept {row : Option Nat} (h : MapAt KE EE w b m) (hg : w.grownBy w' row) (hne : some b ≠ row) : MapAt KE EE w' b m := by
  obtain ⟨⟨D, h1, h2⟩, h3, h4⟩ := h
  exact ⟨⟨D, h1.kept hg hne, h2⟩, h3, h4⟩
theorem MapAt.below (h : MapAt KE EE w b m) (hb : Below w.heap.size w w') : MapAt KE EE w' b m :=
  h.kept (row := none) ⟨hb.os, hb.tape, hb.output, hb.size, fun i hi _ => hb.block i hi⟩ (by simp)
theorem MapAt.look (h : MapAt KE EE w b m) (ht : P.underlying t = some (.map k e)) {x : κ} (hx : KE.ok x) :
    (Instr.lookup t (.map (some b)) (KE.val x) false).run P w = .ok (EE.val ((lookM m x).getD EE.zero)) w := by
  obtain ⟨⟨D, h1, _, _, h2⟩, _, _⟩ := h
  obtain ⟨v, ps, hr, hv⟩ := h1.lookup KE.keyed ht (EE.zrun w) (EE.read EE.zok) (KE.key hx)
  obtain ⟨y, _, rfl, hy⟩ := EE.inv hv
  rw [(h2 x hx).2] at hy
  rw [hr]
  have : y = (lookM m x).getD EE.zero := by
    cases hm : lookM m x with
    | none => rw [hm] at hy; exact (EE.inj (Prod.mk.inj hy).1).symm
    | some u => rw [hm] at hy; exact (EE.inj (Prod.mk.inj hy).1).symm
  rw [this]
theorem MapAt.look_ok (h : MapAt KE EE w b m) (ht : P.underlying t = some (.map k e)) {x : κ} (hx : KE.ok x) :
    (Instr.lookup t (.map (some b)) (KE.val x) true).run P w = .ok (.tuple #[EE.val ((lookM m x).getD EE.zero), .bool (lookM m x).isSome]) w := by
  obtain ⟨⟨D, h1, _, _, h2⟩, _, _⟩ := h
  obtain ⟨v, ps, hr, hv⟩ := h1.look_ok KE.keyed ht (EE.zrun w) (EE.read EE.zok) (KE.key hx)
  obtain ⟨y, _, rfl, hy⟩ := EE.inv hv
  rw [(h2 x hx).2] at hy
  rw [(h2 x hx).1] at hr
  rw [hr]
  have : y = (lookM m x).getD EE.zero := by
    cases hm : lookM m x with
    | none => rw [hm] at hy; exact (EE.inj (Prod.mk.inj hy).1).symm
    | some u => rw [hm] at hy; exact (EE.inj (Prod.mk.inj hy).1).symm
  rw [this]
theorem MapAt.len (h : MapAt KE EE w b m) (ht : P.underlying t = some (.map k e)) (ty : TypeId) : (Builtin.len_ #[t] ty #[.map (some b)]).run P w = .ok (.int .i64 (m.length : Nat)) w := by
  obtain ⟨⟨D, h1, _, h3, _⟩, _, _⟩ := h
  rw [← h3]
  exact h1.len ht ty
theorem MapAt.put (h : MapAt KE EE w b m) (ht : P.underlying t = some (.map k e)) {x : κ} {y : β} (hx : KE.ok x) (hy : EE.ok y) (hn : m.length < maxLen) :
    ∃ w', (Instr.mapUpdate t (.map (some b)) (KE.val x) (EE.val y)).run P w = .ok () w' ∧ MapAt KE EE w' b (putM m x y) ∧ w.grownBy w' (some b) := by
  obtain ⟨⟨D, h1, hti, hsz, h2⟩, hnd, hgood⟩ := h
  have hkey := KE.key hx
  have hkl := KE.keyed.key hkey
  obtain ⟨w', hr, ho, hg⟩ := h1.update KE.keyed ht hn hkey (EE.read hy)
  have hsize : Maps.size (D.put (KE.lit x) (EE.el y)) = (putM m x y).length := by
    rw [size_put hti, (h2 x hx).1, putM_len, hsz]
    by_cases hm : x ∈ m.map Prod.fst
    · rw [if_pos hm, if_pos]
      cases hl : lookM m x with
      | none => exact absurd hm (lookM_none.1 hl)
      | some u => rfl
    · rw [if_neg hm, if_neg]
      rw [lookM_none.2 hm]
      simp
  refine ⟨w', hr, ⟨⟨_, ?_, hti.put hkl _, hsize, fun z hz => ?_⟩, putM_nodup hnd x y, fun p hp => ?_⟩, hg⟩
  · rw [← hsize]; exact owns_tight ho
  · rw [lookM_putM]
    by_cases hxz : x = z
    · subst hxz
      rw [if_pos rfl]
      exact ⟨has_put_same hti.isMap hkl _, fun zd => atKey_put_same hti.isMap hkl _ _⟩
    · have hne : KE.lit z ≠ KE.lit x := fun e => hxz (KE.inj hx hz e.symm)
      rw [if_neg hxz]
      exact ⟨(has_put_other hne _).trans (h2 z hz).1, fun zd => (atKey_put_other hne _ _).trans ((h2 z hz).2 zd)⟩
  · rcases putM_mem hp with rfl | hp
    · exact ⟨hx, hy⟩
    · exact hgood p hp
end

/-! ### Keys and elements that are numbers, bools, dies -/
def keyInt {k : TypeId} {P : Program} (hk : P.underlying k = some (.int .i64)) : KeyEnc P k Int where
  ok x := (Lit.int .i64 x).wf = true
  val x := .int .i64 x
  lit x := .int .i64 x
  keyed := int_keyed hk
  key hx := keyOf_int_mk hk hx
  inj _ _ h := by cases h; rfl
  inv {v l} h := by
    cases v <;> simp [keyOf, hk, mapKey] at h
    obtain ⟨⟨rfl, hw⟩, rfl⟩ := h
    exact ⟨_, hw, rfl, rfl⟩
theorem plainElem_bool_inv' {P : Program} {e : TypeId} (he : P.underlying e = some .bool) {v : Value} {z : DataW Unit × List MemPlace} (h : plainElem P e v = some z) : ∃ x, v = .bool x ∧ z = (.lit (.bool x), []) := by
  unfold plainElem at h
  rw [he] at h
  cases v <;> simp at h
  exact ⟨_, rfl, h.symm⟩
def elInt {e : TypeId} {P : Program} (he : P.underlying e = some (.int .i64)) (hz : ∀ w, (zeroValue e).run P w = .ok (.int .i64 0) w) : ElEnc P e Int where
  ok x := (Lit.int .i64 x).wf = true
  val x := .int .i64 x
  el x := .lit (.int .i64 x)
  zero := 0
  zrun := hz
  zok := by decide
  read hx := plainElem_int he hx
  inv {v z} h := by
    obtain ⟨a, h1, h2, h3⟩ := plainElem_int_inv he h
    exact ⟨a, h3, h1, h2⟩
  inj h := by cases h; rfl
def elBool {e : TypeId} {P : Program} (he : P.underlying e = some .bool) (hz : ∀ w, (zeroValue e).run P w = .ok (.bool false) w) : ElEnc P e Bool where
  ok _ := True
  val x := .bool x
  el x := .lit (.bool x)
  zero := false
  zrun := hz
  zok := trivial
  read _ := plainElem_bool he _
  inv {v z} h := by
    obtain ⟨a, h1, h2⟩ := plainElem_bool_inv' he h
    exact ⟨a, trivial, h1, h2⟩
  inj h := by cases h; rfl
theorem zInt (w : World) : (zeroValue 3).run Tryz.prog w = .ok (.int .i64 0) w := by kernel_rfl
theorem zBool (w : World) : (zeroValue 4).run Tryz.prog w = .ok (.bool false) w := by kernel_rfl
abbrev wfI (x : Int) : Prop := (Lit.int .i64 x).wf = true
/-- A map from numbers to numbers. -/
def MapII (w : World) (b : Nat) (m : List (Int × Int)) : Prop := MapAt (P := Tryz.prog) (keyInt Tryz.underlying3) (elInt Tryz.underlying3 zInt) w b m
section
variable {w w' : World} {b : Nat} {m : List (Int × Int)}
theorem mapII_made (w : World) : MapII (w.alloc (.map #[] 0)) w.heap.size [] := mapAt_made w
theorem MapII.lt (h : MapII w b m) : b < w.heap.size := MapAt.lt h
theorem MapII.below (h : MapII w b m) (hb : Below w.heap.size w w') : MapII w' b m := MapAt.below h hb
theorem MapII.good (h : MapII w b m) : ∀ p ∈ m, wfI p.1 ∧ wfI p.2 := MapAt.good h
theorem MapII.look_ok (h : MapII w b m) {x : Int} (hx : wfI x) : (Instr.lookup 115 (.map (some b)) (.int .i64 x) true).run Tryz.prog w = .ok (.tuple #[.int .i64 ((lookM m x).getD 0), .bool (lookM m x).isSome]) w :=
  MapAt.look_ok h Tryz.underlying115 hx
theorem MapII.put (h : MapII w b m) {x y : Int} (hx : wfI x) (hy : wfI y) (hn : m.length < maxLen) :
    ∃ w', (Instr.mapUpdate 115 (.map (some b)) (.int .i64 x) (.int .i64 y)).run Tryz.prog w = .ok () w' ∧ MapII w' b (putM m x y) ∧ w.grownBy w' (some b) :=
  MapAt.put h Tryz.underlying115 hx hy hn
end
/-- A set of numbers: a map to bools that are all true. -/
def SetI (w : World) (b : Nat) (l : List Int) : Prop := l.Nodup ∧ MapAt (P := Tryz.prog) (keyInt Tryz.underlying3) (elBool Tryz.underlying4 zBool) w b (l.map fun x => (x, true))
theorem putM_set {l : List Int} {x : Int} (h : x ∉ l) : putM (l.map fun x => (x, true)) x true = (l ++ [x]).map fun x => (x, true) := by
  induction l with
  | nil => rfl
  | cons a l ih =>
    simp only [List.mem_cons, not_or] at h
    rw [List.map_cons, putM, if_neg (fun e => h.1 e.symm), ih h.2]
    rfl
section
variable {w w' : World} {b : Nat} {l : List Int}
theorem SetI.below (h : SetI w b l) (hb : Below w.heap.size w w') : SetI w' b l := ⟨h.1, MapAt.below h.2 hb⟩
theorem SetI.put (h : SetI w b l) {x : Int} (hx : wfI x) (hl : x ∉ l) (hn : l.length < maxLen) :
    ∃ w', (Instr.mapUpdate 237 (.map (some b)) (.int .i64 x) (.bool true)).run Tryz.prog w = .ok () w' ∧ SetI w' b (l ++ [x]) ∧ w.grownBy w' (some b) := by
  obtain ⟨w', h1, h2, h3⟩ := MapAt.put h.2 Tryz.underlying237 (x := x) (y := true) hx trivial (by simpa using hn)
  rw [putM_set hl] at h2
  refine ⟨w', h1, ⟨?_, h2⟩, h3⟩
  rw [List.nodup_append]
  exact ⟨h.1, by simp, fun a ha c hc e => by simp at hc; subst hc; subst e; exact hl ha⟩
end
end Go.Proofs.YthnckicnnhkkaaaGreat
/- A range over a map of the call's own: what is still to come. No condition. -/
namespace Go.Proofs.YthnckicnnhkkaaaGreat
open Go.RowKit Go.Maps

section
variable {κ β : Type} [DecidableEq κ] {P : Program} {k e t : TypeId} (KE : KeyEnc P k κ) (EE : ElEnc P e β)
/-- The walk r over the map b: the keys todo are still to come. -/
structure RangeAt (w : World) (b r : Nat) (m : List (κ × β)) (todo : List κ) : Prop where
  map : MapAt KE EE w b m
  run : ∃ (D : DataW Unit) (left : Lit → Bool) (cnt n : Nat), w.ranges P k EE.R b r n D left cnt ∧ (∀ x, KE.ok x → ∀ zd, D.atKey (KE.lit x) zd = match lookM m x with | some y => EE.el y | none => zd) ∧ ∀ x, KE.ok x → left (KE.lit x) = decide (x ∈ todo)
  sub : ∀ x ∈ todo, x ∈ m.map Prod.fst
variable {KE EE} {w w' : World} {b r : Nat} {m : List (κ × β)} {todo : List κ}
theorem RangeAt.kept {row : Option Nat} (h : RangeAt KE EE w b r m todo) (hg : w.grownBy w' row) (hb : some b ≠ row) (hr : some r ≠ row) : RangeAt KE EE w' b r m todo := by
  obtain ⟨D, left, cnt, n, h1, h2⟩ := h.run
  exact ⟨h.map.kept hg hb, ⟨D, left, cnt, n, h1.kept hg hb hr, h2⟩, h.sub⟩
theorem RangeAt.left_kept {row : Option Nat} (h : RangeAt KE EE w b r m todo) (hg : w.grownBy w' row) (hb : some b ≠ row) (hr : some r ≠ row) : w'.rangeLeft b r = w.rangeLeft b r := by
  obtain ⟨D, left, cnt, n, h1, h2⟩ := h.run
  rw [h1.left_eq, (h1.kept hg hb hr).left_eq]
theorem mem_ok (h : MapAt KE EE w b m) {x : κ} (hx : x ∈ m.map Prod.fst) : KE.ok x := by
  obtain ⟨p, hp, rfl⟩ := List.mem_map.1 hx
  exact (h.good p hp).1

variable {ops : Array Oper} {rest : List Oper} {o : Oper} {a : Act} {Q : Exit → Act → World → Prop}
theorem wpList_rangeAt (hg : o.guard = none) (mo : Operand) (hop : o.op = Op.range t mo) (ht : P.underlying t = some (.map k e)) (h : MapAt KE EE w b m) (hm : a.eval mo = .map (some b))
    (hK : ∀ w', RangeAt KE EE w' b w.heap.size m (m.map Prod.fst) → Below w.heap.size w w' → w'.heap.size = w.heap.size + 1 → wpList P ops Q rest (a.put o.dst (.pointer (some ⟨w.heap.size, 0, none⟩))) w') :
    wpList P ops Q (o :: rest) a w := by
  obtain ⟨D, h1, h2, h3, h4⟩ := h.own
  refine wpList_range_own w hg mo t hop k e KE.keyed ht _ b _ D hm h1 fun w' hrg hgr hsz => hK w' ⟨h.kept hgr (by simp), ⟨D, _, _, _, hrg, fun x hx => (h4 x hx).2, fun x hx => ?_⟩, fun _ h => h⟩ ?_ hsz
  · rw [(h4 x hx).1, Bool.eq_iff_iff, decide_eq_true_eq]
    cases hl : lookM m x with
    | none => simp only [Option.isSome_none, Bool.false_eq_true, false_iff]; exact lookM_none.1 hl
    | some y => simp only [Option.isSome_some, true_iff]; exact List.mem_map.2 ⟨_, lookM_some hl, rfl⟩
  · exact ⟨hgr.os, hgr.tape, hgr.output, hgr.size, fun i hi => hgr.block i hi (by simp)⟩
theorem wpList_nextAt (hg : o.guard = none) (it : Operand) (hop : o.op = Op.next it false) (h : RangeAt KE EE w b r m todo) (hit : a.eval it = .pointer (some ⟨r, 0, none⟩))
    (hDone : todo = [] → wpList P ops Q rest (a.put o.dst (.tuple #[.bool false])) w)
    (hMore : ∀ (x : κ) (y : β) (w' : World), x ∈ todo → lookM m x = some y → RangeAt KE EE w' b r m (todo.filter fun z => decide (z ≠ x)) → w'.rangeLeft b r < w.rangeLeft b r → w.grownBy w' (some r) → w'.heap.size = w.heap.size →
      (Instr.entry (.pointer (some ⟨r, 0, none⟩))).run P w' = .ok (.tuple #[KE.val x, EE.val y]) w' → wpList P ops Q rest (a.put o.dst (.tuple #[.bool true, KE.val x, EE.val y])) w') :
    wpList P ops Q (o :: rest) a w := by
  obtain ⟨D, left, cnt, n, h1, h2, h3⟩ := h.run
  refine wpList_next_ranges w hg it hop k KE.keyed EE.R KE.val EE.val (fun key kl hkey => by obtain ⟨x, _, hx, _⟩ := KE.inv hkey; exact ⟨x, hx⟩) (fun v y hv => by obtain ⟨x, _, hx, _⟩ := EE.inv hv; exact ⟨x, hx⟩) b r n D left cnt hit h1
    (fun _ hl => hDone ?_) (fun x c kl y w' cnt' hkey hlk hv hat hrg hlt hgr hsz hen => ?_)
  · refine List.eq_nil_iff_forall_not_mem.2 fun x hx => ?_
    have := h3 x (mem_ok h.map (h.sub x hx))
    rw [hl] at this
    simp [hx] at this
  · obtain ⟨x', hx', e1, e2⟩ := KE.inv hkey
    obtain ⟨c', hc', e3, e4⟩ := EE.inv hv
    have hin : ∀ {x y : κ}, KE.ok x → KE.ok y → KE.val x = KE.val y → x = y := fun {x y} hx hy e => by
      have k1 := KE.key hx
      rw [e, KE.key hy] at k1
      exact (KE.inj hy hx (Option.some.inj k1)).symm
    have hmem : x' ∈ todo := by
      have := h3 x' hx'
      rw [← e2, hlk] at this
      simpa using this.symm
    have hlook : lookM m x' = some c' := by
      have h5 := hat
      have h6 := h2 x' hx'
      rw [e2] at h5
      cases hl : lookM m x' with
      | none => exact absurd (List.mem_map.1 (h.sub x' hmem)) (fun ⟨p, hp, ep⟩ => (lookM_none.1 hl) (List.mem_map.2 ⟨p, hp, ep⟩))
      | some u =>
        rw [hl] at h6
        have e5 := (h6 (EE.el u)).symm.trans (h5 (EE.el u))
        rw [e4] at e5
        exact congrArg some (EE.inj e5)
    have hre : RangeAt KE EE w' b r m (todo.filter fun z => decide (z ≠ x')) := by
      refine ⟨h.map.kept hgr (fun e => h1.ne (Option.some.inj e).symm), ⟨D, _, cnt', n, hrg, h2, fun z hz => ?_⟩, fun z hz => h.sub z (List.mem_filter.1 hz).1⟩
      rw [h3 z hz, e2, Bool.eq_iff_iff]
      simp only [Bool.and_eq_true, decide_eq_true_eq, Bool.not_eq_true', List.mem_filter]
      refine and_congr_right fun hzt => ?_
      constructor
      · rintro h7 rfl
        rw [WideAt.sameKey_self (KE.keyed.key (KE.key hx'))] at h7
        cases h7
      · intro h7
        cases h8 : (KE.lit z).sameKey (KE.lit x')
        · rfl
        · exact absurd (KE.inj hz hx' (WideAt.sameKey_eq h8)) h7
    have hlt' : w'.rangeLeft b r < w.rangeLeft b r := by rw [h1.left_eq, hrg.left_eq]; exact hlt
    rw [e1, e3] at hen ⊢
    exact hMore x' c' w' hmem hlook hre hlt' hgr hsz hen
end
end Go.Proofs.YthnckicnnhkkaaaGreat
/- Maps from dies to numbers; a store at a key that is there while the map is ranged over. No condition. -/
namespace Go.Proofs.YthnckicnnhkkaaaGreat
open Go.RowKit Go.Maps Go.ChangeMaps Go.MapKept Go.WideShapes
open Go.WideElems (Fit rd rg pl rd_key rd_val rg_of other_key rd_mk)

/-! ### A store at a key that is there -/
section
variable {P : Program} {k e t : TypeId} {R : Value → Option (DataW Unit × List MemPlace)} {w : World} {b r n : Nat} {D : DataW Unit} {left : Lit → Bool} {cnt : Nat}
theorem ranges_put (h : w.ranges P k R b r n D left cnt) (K : Keyed P k) (ht : P.underlying t = some (.map k e)) {z : Value} (hz : (zeroValue e).run P w = .ok z w) {key val : Value} {kl : Lit} {yv : DataW Unit × List MemPlace} (hroom : ∀ es clock, w.heap[b]? = some (.map es clock) → es.size < maxLen)
    (hkey : keyOf P k key = some kl) (hv : R val = some yv) (hhas : has D kl = true) :
    ∃ w', (Instr.mapUpdate t (.map (some b)) key val).run P w = .ok () w' ∧ w'.ranges P k R b r n (D.put kl yv.1) left cnt ∧ w.grownBy w' (some b) := by
  have hne := h.ne
  obtain ⟨es, clock, since, seen, c0, hb, F, hs, rfl, hr, hold, hc, hl1, hl2, hsc, hsk⟩ := h
  obtain ⟨es', clock', hrun, F', hput, _⟩ := Maps.fit_store (R' := R) K ht hb F (hroom es clock hb) (fun _ _ _ _ hz => hz) hkey hv
  rcases K.find w hkey es.toList F.keys with ⟨h1, h2⟩ | ⟨j, e0, h1, h2, h3⟩
  · exfalso
    rcases Maps.fit_look false K ht hz hb F hkey with ⟨_, _, hat⟩ | ⟨e1, y, he1, hk1, _⟩
    · rw [has_false_of_atKey hat] at hhas
      cases hhas
    · exact h2 e1 he1 hk1
  · have hj : es[j]? = some e0 := by simpa using h2
    have hrun2 : (Instr.mapUpdate t (.map (some b)) key val).run P w = .ok () (setBlock w b (.map (es.modify j (fun e' => { e' with key := key, val := val })) clock)) := by
      simp [Instr.mapUpdate, run_underlying ht, MapKept.run_getObj_map hb, K.check w false hkey, h1, hj, h3, K.stays w hkey, MapKept.run_setObj_map _ hb, Result.andThen, setBlock]
    rw [hrun2] at hrun
    have hobj : (Obj.map (es.modify j (fun e' => { e' with key := key, val := val })) clock) = .map es' clock' := by
      have h5 := (Result.ok.inj hrun).2
      have h6 := congrArg (fun w' : World => w'.heap[b]?) h5
      simp only [heap_setBlock_same hb] at h6
      exact Option.some.inj h6
    injection hobj with e1 e2
    subst e1; subst e2
    obtain ⟨en, hen⟩ : ∃ en : MapEntry, en = { e0 with key := key, val := val } := ⟨_, rfl⟩
    have hlist : (es.modify j (fun e' => { e' with key := key, val := val })).toList = es.toList.set j en := by rw [Array.toList_modify, modify_eq_set _ _ _ _ h2, hen]
    have hborn : en.born = e0.born := by rw [hen]
    have hjl : j < es.toList.length := (List.getElem?_eq_some_iff.1 h2).1
    have hje : es.toList[j] = e0 := (List.getElem?_eq_some_iff.1 h2).2
    have who : ∀ x ∈ es.toList.set j en, x = en ∨ x ∈ es.toList := fun x hx => by
      obtain ⟨i, hi, ex⟩ := List.getElem_of_mem hx
      rw [List.getElem_set] at ex
      split at ex
      · exact .inl ex.symm
      · exact .inr (by rw [← ex]; exact List.getElem_mem _)
    have ohw : ∀ x ∈ es.toList, x = e0 ∨ x ∈ es.toList.set j en := fun x hx => by
      obtain ⟨i, hi, ex⟩ := List.getElem_of_mem hx
      by_cases hij : j = i
      · subst hij; exact .inl (by rw [← ex, hje])
      · refine .inr (List.mem_iff_getElem.2 ⟨i, by simpa using hi, ?_⟩)
        rw [List.getElem_set_ne hij]; exact ex
    have hmem0 : e0 ∈ es.toList := List.mem_of_getElem? h2
    have hrn : (rg P k R en).1 = kl := by rw [hen, rg_of (rd_mk hkey hv)]
    have hro : (rg P k R e0).1 = kl := by
      obtain ⟨y, hy⟩ := F.reads e0 hmem0
      have h7 := rd_key hy
      rw [h3, hkey] at h7
      rw [rg_of hy]
      exact (Option.some.inj h7).symm
    have hbm : (es.toList.set j en).map MapEntry.born = es.toList.map MapEntry.born := by
      rw [List.map_set, hborn, ← hje, ← List.getElem_map MapEntry.born (h := by simpa using hjl), List.set_getElem_self]
    have hcount : ∀ a : Array MapEntry, (leftOf a seen).size = ((a.toList.map MapEntry.born).filter fun c => !seen.contains c).length := fun a => by
      unfold leftOf
      rw [List.filter_map, List.length_map, ← Array.toList_filter, Array.length_toList]
      rfl
    refine ⟨_, hrun2, ⟨_, clock, since, seen, c0, heap_setBlock_same hb _, F', by simpa using hs, by rw [DataW.put_eq, hput], (heap_setBlock_other hb _ hne).trans hr, fun x hx => ?_, ?_, fun x hx => ?_, fun kl' hk' => ?_, hsc, hsk⟩, ⟨rfl, rfl, rfl, by simp [setBlock], fun i _ hi => heap_setBlock_other hb _ (fun e => hi (by rw [e]))⟩⟩
    · rw [hlist] at hx
      rcases who x hx with rfl | hx
      · rw [hborn]; exact hold e0 hmem0
      · exact hold x hx
    · rw [hcount, hlist, hbm, ← hcount]; exact hc
    · rw [hlist] at hx
      rcases who x hx with rfl | hx
      · rw [hrn, hborn, ← hro]; exact hl1 e0 hmem0
      · exact hl1 x hx
    · obtain ⟨x, hx, e⟩ := hl2 kl' hk'
      rw [hlist]
      rcases ohw x hx with rfl | hx
      · exact ⟨en, List.mem_iff_getElem.2 ⟨j, by simpa using hjl, by simp⟩, by rw [hrn, ← hro]; exact e⟩
      · exact ⟨x, hx, e⟩
end
section
variable {κ β : Type} [DecidableEq κ] {P : Program} {k e t : TypeId} {KE : KeyEnc P k κ} {EE : ElEnc P e β} {w : World} {b r : Nat} {m : List (κ × β)} {todo : List κ}
theorem RangeAt.put (h : RangeAt KE EE w b r m todo) (ht : P.underlying t = some (.map k e)) {x : κ} {y : β} (hx : x ∈ m.map Prod.fst) (hy : EE.ok y) (hn : m.length < maxLen) :
    ∃ w', (Instr.mapUpdate t (.map (some b)) (KE.val x) (EE.val y)).run P w = .ok () w' ∧ RangeAt KE EE w' b r (putM m x y) todo ∧ w.grownBy w' (some b) ∧ w'.rangeLeft b r = w.rangeLeft b r := by
  have hok := mem_ok h.map hx
  obtain ⟨w', hrun, hmap, hg⟩ := h.map.put ht hok hy hn
  obtain ⟨D, left, cnt, n, h1, h2, h3⟩ := h.run
  obtain ⟨y0, hy0⟩ : ∃ y0, lookM m x = some y0 := by
    cases hl : lookM m x with
    | none => exact absurd hx (lookM_none.1 hl)
    | some y0 => exact ⟨y0, rfl⟩
  have hhas : has D (KE.lit x) = true := has_true_of_atKey (y := EE.el y0) fun zd => by rw [h2 x hok, hy0]
  have hroom : ∀ es clock, w.heap[b]? = some (.map es clock) → es.size < maxLen := fun es clock hb => by
    obtain ⟨⟨D', ⟨es', clock', hb', _, _, rfl⟩, _, hs, _⟩, _, _⟩ := h.map
    rw [hb] at hb'
    cases hb'
    simp only [Maps.size, length_sorted] at hs
    simp at hs
    omega
  obtain ⟨w2, hrun2, hrg, _⟩ := ranges_put h1 KE.keyed ht (EE.zrun w) hroom (KE.key hok) (EE.read hy) hhas
  have hw : w2 = w' := by
    rw [hrun] at hrun2
    exact (Result.ok.inj hrun2).2.symm
  subst hw
  have hkl := KE.keyed.key (KE.key hok)
  have hisM : IsMap D := by
    obtain ⟨es, clock, since, seen, c0, _, _, _, rfl, _⟩ := h1
    exact ⟨_, rfl⟩
  refine ⟨w2, hrun, ⟨hmap, ⟨_, left, cnt, n, hrg, fun z hz zd => ?_, h3⟩, fun z hz => ?_⟩, hg, by rw [hrg.left_eq, h1.left_eq]⟩
  · rw [lookM_putM]
    by_cases e : x = z
    · subst e
      rw [if_pos rfl]
      exact atKey_put_same hisM hkl _ _
    · rw [if_neg e, atKey_put_other (fun e' => e (KE.inj hok hz e'.symm)) _ _]
      exact h2 z hz zd
  · rw [putM_keys, if_pos hx]
    exact h.sub z hz
end
/-! ### Dies as keys -/
theorem dieKey_type : Tryz.prog.keyType 143 = true := by kernel_rfl
theorem dieKey_types : ∃ n, Tryz.prog.types.size = n + 1 := ⟨Tryz.prog.types.size - 1, by kernel_rfl⟩
theorem dieKey_cells : Tryz.prog.cellsOf 143 = 2 ∧ Tryz.prog.cellsOf 3 = 1 := ⟨by kernel_rfl, by kernel_rfl⟩
theorem keyLits_one (d : Nat) (c : Value) (ls : List Lit) : Tryz.prog.keyLits (d + 1) 3 [c] = some ls ↔ ∃ n, wfI n ∧ c = .int .i64 n ∧ ls = [.int .i64 n] := by
  unfold Program.keyLits
  rw [Tryz.underlying3]
  constructor
  · intro h
    cases c <;> simp at h
    obtain ⟨⟨rfl, hw⟩, rfl⟩ := h
    exact ⟨_, hw, rfl, rfl⟩
  · rintro ⟨n, hw, rfl, rfl⟩
    simp [hw]
theorem keyLits_die (d : Nat) (c0 c1 : Value) (ls : List Lit) : Tryz.prog.keyLits (d + 1 + 1) 143 [c0, c1] = some ls ↔ ∃ s n, wfI s ∧ wfI n ∧ c0 = .int .i64 s ∧ c1 = .int .i64 n ∧ ls = [.int .i64 s, .int .i64 n] := by
  have h0 := fun c ls => keyLits_one d c ls
  unfold Program.keyLits
  rw [Tryz.underlying143]
  simp only [dieKey_cells.1, List.length_cons, List.length_nil]
  rw [if_pos ⟨trivial, by kernel_rfl⟩]
  simp only [List.mapM_cons, List.mapM_nil, dieKey_cells.2, List.drop_zero, List.drop_succ_cons, List.take_succ_cons, List.take_zero]
  constructor
  · intro h
    cases hA : Tryz.prog.keyLits (d + 1) 3 [c0] with
    | none => simp [hA] at h
    | some la =>
      cases hB : Tryz.prog.keyLits (d + 1) 3 [c1] with
      | none => simp [hA, hB] at h
      | some lb =>
        simp [hA, hB] at h
        obtain ⟨s, hs, e1, e2⟩ := (h0 c0 la).1 hA
        obtain ⟨n, hn, e3, e4⟩ := (h0 c1 lb).1 hB
        exact ⟨s, n, hs, hn, e1, e3, by rw [← h, e2, e4]; rfl⟩
  · rintro ⟨s, n, hs, hn, rfl, rfl, rfl⟩
    have e1 := (h0 (.int .i64 s) _).2 ⟨s, hs, rfl, rfl⟩
    have e2 := (h0 (.int .i64 n) _).2 ⟨n, hn, rfl, rfl⟩
    simp [e1, e2]
theorem two_of {cs : Array Value} (h : cs.size = 2) : ∃ c0 c1, cs = #[c0, c1] :=
  ⟨cs[0], cs[1], by
    apply Array.ext
    · simpa using h
    · intro i h1 h2
      simp at h2
      rcases (show i = 0 ∨ i = 1 by omega) with rfl | rfl <;> rfl⟩
theorem keyOf_die (v : Value) (l : Lit) : keyOf Tryz.prog 143 v = some l ↔ ∃ s n, wfI s ∧ wfI n ∧ v = .agg #[.int .i64 s, .int .i64 n] ∧ l = .string (keyBytes [.int .i64 s, .int .i64 n]) := by
  obtain ⟨N, hN⟩ : ∃ n, Tryz.prog.types.size = n + 1 := dieKey_types
  unfold keyOf
  rw [Tryz.underlying143]
  simp only [dieKey_type, Bool.true_and, hN]
  constructor
  · intro h
    split at h
    · rename_i hf
      cases v <;> simp [Value.formed, Tryz.underlying143] at hf
      rename_i cs
      obtain ⟨ls, h1, h2⟩ := Option.map_eq_some_iff.1 h
      rw [dieKey_cells.1] at hf
      obtain ⟨c0, c1, rfl⟩ := two_of hf
      obtain ⟨s, n, hs, hn, rfl, rfl, rfl⟩ := (keyLits_die N c0 c1 ls).1 h1
      exact ⟨s, n, hs, hn, rfl, h2.symm⟩
    · cases h
  · rintro ⟨s, n, hs, hn, rfl, rfl⟩
    have h1 := (keyLits_die N (.int .i64 s) (.int .i64 n) _).2 ⟨s, n, hs, hn, rfl, rfl, rfl⟩
    rw [if_pos (by simp [Value.formed, Tryz.underlying143, dieKey_cells.1])]
    exact congrArg (Option.map fun ls => Lit.string (keyBytes ls)) h1
def keyDie : KeyEnc Tryz.prog 143 Die where
  ok d := wfI d.side ∧ wfI d.num
  val d := .agg #[.int .i64 d.side, .int .i64 d.num]
  lit d := .string (keyBytes [.int .i64 d.side, .int .i64 d.num])
  keyed := Keyed.of_law (deep_law_laid (m := 3) (by kernel_rfl) (by decide) (of_decide_eq_true (by kernel_rfl)) (by kernel_rfl) (by rw [Tryz.underlying143]))
  key {x} hx := (keyOf_die _ _).2 ⟨x.side, x.num, hx.1, hx.2, rfl, rfl⟩
  inj {x y} hx hy e := by
    have K : Keyed Tryz.prog 143 := Keyed.of_law (deep_law_laid (m := 3) (by kernel_rfl) (by decide) (of_decide_eq_true (by kernel_rfl)) (by kernel_rfl) (by rw [Tryz.underlying143]))
    have h1 := (keyOf_die (.agg #[.int .i64 x.side, .int .i64 x.num]) _).2 ⟨x.side, x.num, hx.1, hx.2, rfl, rfl⟩
    have h2 := (keyOf_die (.agg #[.int .i64 y.side, .int .i64 y.num]) _).2 ⟨y.side, y.num, hy.1, hy.2, rfl, rfl⟩
    rw [← e] at h2
    have := K.inj h1 h2
    cases x; cases y
    simpa using this
  inv {v l} h := by
    obtain ⟨s, n, hs, hn, e1, e2⟩ := (keyOf_die v l).1 h
    exact ⟨⟨s, n⟩, ⟨hs, hn⟩, e1, e2⟩
abbrev wfD (d : Die) : Prop := wfI d.side ∧ wfI d.num
/-- A map from dies to numbers. -/
def MapD (w : World) (b : Nat) (m : List (Die × Int)) : Prop := MapAt (P := Tryz.prog) keyDie (elInt Tryz.underlying3 zInt) w b m
def RangeD (w : World) (b r : Nat) (m : List (Die × Int)) (todo : List Die) : Prop := RangeAt (P := Tryz.prog) keyDie (elInt Tryz.underlying3 zInt) w b r m todo
section
variable {w w' : World} {b : Nat} {m : List (Die × Int)}
theorem mapD_made (w : World) : MapD (w.alloc (.map #[] 0)) w.heap.size [] := mapAt_made w
theorem MapD.lt (h : MapD w b m) : b < w.heap.size := MapAt.lt h
theorem MapD.below (h : MapD w b m) (hb : Below w.heap.size w w') : MapD w' b m := MapAt.below h hb
theorem MapD.kept {row : Option Nat} (h : MapD w b m) (hg : w.grownBy w' row) (hne : some b ≠ row) : MapD w' b m := MapAt.kept h hg hne
theorem MapD.good (h : MapD w b m) : ∀ p ∈ m, wfD p.1 ∧ wfI p.2 := MapAt.good h
theorem MapD.nodup (h : MapD w b m) : (m.map Prod.fst).Nodup := MapAt.nodup h
theorem MapD.look (h : MapD w b m) {x : Die} (hx : wfD x) : (Instr.lookup 196 (.map (some b)) (.agg #[.int .i64 x.side, .int .i64 x.num]) false).run Tryz.prog w = .ok (.int .i64 ((lookM m x).getD 0)) w :=
  MapAt.look h Tryz.underlying196 hx
theorem MapD.look_ok (h : MapD w b m) {x : Die} (hx : wfD x) : (Instr.lookup 196 (.map (some b)) (.agg #[.int .i64 x.side, .int .i64 x.num]) true).run Tryz.prog w = .ok (.tuple #[.int .i64 ((lookM m x).getD 0), .bool (lookM m x).isSome]) w :=
  MapAt.look_ok h Tryz.underlying196 hx
theorem MapD.put (h : MapD w b m) {x : Die} {y : Int} (hx : wfD x) (hy : wfI y) (hn : m.length < maxLen) :
    ∃ w', (Instr.mapUpdate 196 (.map (some b)) (.agg #[.int .i64 x.side, .int .i64 x.num]) (.int .i64 y)).run Tryz.prog w = .ok () w' ∧ MapD w' b (putM m x y) ∧ w.grownBy w' (some b) :=
  MapAt.put h Tryz.underlying196 hx hy hn
end
end Go.Proofs.YthnckicnnhkkaaaGreat
