/- A law's argument of operations on a corpus, read as a list. No condition. -/
import Derived.Test.YthnckicnnhkkaaaGreatOpen
import Derived.Test.YthnckicnnhkkaaaGreatCorP
namespace Go.Proofs.YthnckicnnhkkaaaGreat
open Go.RowKit Go.ChangeShapes Go.WideShapes Go.ChangeAt Go.Maps Go.Deep

/-- An operation on a corpus. -/
structure OpC where
  ki : Int
  s : Spec
  d : Dec
  m : Mrk
  id : Int
instance : Inhabited OpC := ⟨⟨0, ⟨0, 0, 0, 0, 0, 0, 0⟩, ⟨0, 0, 0, 0, 0⟩, ⟨0, 0⟩, 0⟩⟩
def encOp (o : OpC) : List Value := [.int .i64 o.ki, .int .i64 o.s.id, .int .i64 o.s.obv, .int .i64 o.s.rev, .int .i64 o.s.os, .int .i64 o.s.rs, .int .i64 o.s.ax, .int .i64 o.s.wt, .int .i64 o.d.au, .int .i64 o.d.nu, .int .i64 o.d.ki, .int .i64 o.d.a, .int .i64 o.d.b, .int .i64 o.m.au, .int .i64 o.m.nu, .int .i64 o.id]
theorem lenOp (x : OpC) : (encOp x).length = 16 := rfl
def wfOp (o : OpC) : Prop := wfDc o.d ∧ wfMk o.m
def OpsC (w : World) (v : Value) (xs : List OpC) : Prop := SlOf encOp 16 w v xs ∧ ∀ x ∈ xs, wfOp x
abbrev valOp (o : OpC) : Value := .agg #[.int .i64 o.ki, .int .i64 o.s.id, .int .i64 o.s.obv, .int .i64 o.s.rev, .int .i64 o.s.os, .int .i64 o.s.rs, .int .i64 o.s.ax, .int .i64 o.s.wt, .int .i64 o.d.au, .int .i64 o.d.nu, .int .i64 o.d.ki, .int .i64 o.d.a, .int .i64 o.d.b, .int .i64 o.m.au, .int .i64 o.m.nu, .int .i64 o.id]
theorem OpsC.cells {w : World} {v : Value} {xs : List OpC} (h : OpsC w v xs) : ∃ A c, v = .slice A xs.length c ∧ xs.length ≤ c ∧ (c : Int) ≤ 9223372036854775807 ∧
    ∀ k, k < xs.length → ∃ b o, A = some ⟨b, o, none⟩ ∧ b < w.heap.size ∧ ∀ w', Below w.heap.size w w' → ∀ i x, xs[i]? = some x → ∀ j u, (encOp x)[j]? = some u → w'.cell? ⟨b, o + i * 16 + j, none⟩ = some u := by
  obtain ⟨⟨A, c, e, h1, h2, h3⟩, _⟩ := h
  refine ⟨A, c, e, h1, by simp only [maxLen] at h2; omega, fun k hk => ?_⟩
  obtain ⟨b, o, e, hb, hc⟩ := SlOf.opens lenOp h3 (by omega)
  exact ⟨b, o, e, hb, fun w' hw' i x hx j u hu => cell_later hw' (by have := hc i x hx j u hu; simpa [Nat.add_assoc] using this)⟩
section
variable {H : Type} {enc : TypeId × Value → H} {P : Program} {w : World} {base : Nat} {spare : Nat → Bool} {held : Bool}
theorem slOf_elemsQ {α : Type} [Inhabited α] {encA : α → List Value} {q : α → Prop} {k : Nat} (hk : ∀ x, (encA x).length = k) (k0 : 0 < k) {t e : TypeId} {fuel : Nat} {v : Value} {x : DataW H × List MemPlace} (ht : P.underlying t = some (.slice e)) (hC : P.cellsOf e = k)
    (hel : ∀ n cs y, DataW.trod enc P w base spare held n e cs = some y → ∃ x : α, cs = encA x ∧ q x)
    (h : DataW.trod enc P w base spare held fuel t [v] = some x) : ∃ xs : List α, SlOf encA k w v xs ∧ ∀ x ∈ xs, q x := by
  rcases open_slice ht h with ⟨h0, _⟩ | ⟨a, len, cap, m, n, D, Pl, hcs, hb, hl, hm, hmm, hx, hi⟩
  · cases h0
    exact ⟨[], ⟨none, 0, rfl, Nat.le_refl _, by simp [maxLen], Sl.nil _ _ _⟩, by simp⟩
  · cases hcs
    obtain ⟨f, hf⟩ := choose_lt (α := α) (p := fun i z => (∀ j, j < k → w.cell? (a.add (i * k + j)) = (encA z)[j]?) ∧ q z) (n := len) (fun i him => by
      obtain ⟨cs', hc, ht'⟩ := hi i (by rw [hmm]; split <;> omega)
      rw [hC] at hc
      obtain ⟨z, rfl, hz⟩ := hel _ _ _ ht'
      obtain ⟨_, _, hat⟩ := World.cells?_some hc
      exact ⟨z, fun j hj => by rw [← Go.Deep.add_add]; exact hat j hj, hz⟩)
    refine ⟨_, slOf_cells hk k0 f hl hm fun i hi => (hf i hi).1, fun x hx => ?_⟩
    obtain ⟨i, hi, rfl⟩ := List.mem_map.1 hx
    exact (hf i (List.mem_range.1 hi)).2
/-- A struct of numbers. -/
theorem ints_elem {t : TypeId} {fs : Array Field} {n : Nat} {cs : List Value} {y : DataW H × List MemPlace} (he : P.underlying t = some (.struct fs)) (hC : P.cellsOf t = fs.size)
    (hint : fs.all (fun f => match P.underlying f.type with | some (.int .i64) => true | _ => false) = true) (hone : ∀ (j : Nat) (f : Field), fs[j]? = some f → f.offset = j ∧ P.cellsOf f.type = 1)
    (h : DataW.trod enc P w base spare held n t cs = some y) : cs.length = fs.size ∧ ∃ g : Nat → Int, ∀ j < fs.size, cs[j]? = some (.int .i64 (g j)) ∧ wfI (g j) := by
  obtain ⟨xs, m, _, _, hl, hxl, hf⟩ := DataW.trod_struct he h
  rw [hC] at hl
  refine ⟨hl, ?_⟩
  have hex : ∀ j, ∃ z : Int, j < fs.size → cs[j]? = some (.int .i64 z) ∧ wfI z := fun j => by
    by_cases hj : j < fs.size
    · have hjf : fs[j]? = some (fs[j]'hj) := Array.getElem?_eq_getElem hj
      have ht := hf j _ hjf
      obtain ⟨h1, h2⟩ := hone j _ hjf
      rw [h1, h2, List.getElem?_eq_getElem (by omega)] at ht
      have hi64 : P.underlying (fs[j]'hj).type = some (.int .i64) := by
        have := Array.all_eq_true.1 hint j hj
        split at this
        · assumption
        · cases this
      obtain ⟨z, hz, _, hwf⟩ := DataW.trod_int hi64 ht
      refine ⟨z, fun _ => ⟨?_, hwf⟩⟩
      have h3 : ((cs.drop j).take 1)[0]? = cs[j]? := by simp [List.getElem?_drop]
      rw [← h3, hz]
      rfl
    · exact ⟨0, fun h => absurd h hj⟩
  exact ⟨fun j => Classical.choose (hex j), fun j hj => Classical.choose_spec (hex j) hj⟩
end
section
variable {H : Type} {enc : TypeId × Value → H} {w : World} {base : Nat} {spare : Nat → Bool} {held : Bool}
theorem spec_elem {n : Nat} {cs : List Value} {y : DataW H × List MemPlace} (h : DataW.trod enc Tryz.prog w base spare held n 31 cs = some y) : ∃ s : Spec, cs = encS s := by
  obtain ⟨hl, g, hg⟩ := ints_elem Tryz.underlying31 (by kernel_rfl) (by kernel_rfl) (fun j f hf => by
    have hj := (Array.getElem?_eq_some_iff.1 hf).1
    match j, hj with
    | 0, _ => cases hf; exact ⟨rfl, by kernel_rfl⟩
    | 1, _ => cases hf; exact ⟨rfl, by kernel_rfl⟩
    | 2, _ => cases hf; exact ⟨rfl, by kernel_rfl⟩
    | 3, _ => cases hf; exact ⟨rfl, by kernel_rfl⟩
    | 4, _ => cases hf; exact ⟨rfl, by kernel_rfl⟩
    | 5, _ => cases hf; exact ⟨rfl, by kernel_rfl⟩
    | 6, _ => cases hf; exact ⟨rfl, by kernel_rfl⟩) h
  refine ⟨⟨g 0, g 1, g 2, g 3, g 4, g 5, g 6⟩, ?_⟩
  match cs, hl with
  | [a0, a1, a2, a3, a4, a5, a6], _ =>
    have h0 := (hg 0 (by decide)).1; have h1 := (hg 1 (by decide)).1; have h2 := (hg 2 (by decide)).1; have h3 := (hg 3 (by decide)).1; have h4 := (hg 4 (by decide)).1; have h5 := (hg 5 (by decide)).1; have h6 := (hg 6 (by decide)).1
    simp at h0 h1 h2 h3 h4 h5 h6
    subst h0 h1 h2 h3 h4 h5 h6
    rfl
theorem dec_elem {n : Nat} {cs : List Value} {y : DataW H × List MemPlace} (h : DataW.trod enc Tryz.prog w base spare held n 33 cs = some y) : ∃ s : Dec, cs = encDc s ∧ wfDc s := by
  obtain ⟨hl, g, hg⟩ := ints_elem Tryz.underlying33 (by kernel_rfl) (by kernel_rfl) (fun j f hf => by
    have hj := (Array.getElem?_eq_some_iff.1 hf).1
    match j, hj with
    | 0, _ => cases hf; exact ⟨rfl, by kernel_rfl⟩
    | 1, _ => cases hf; exact ⟨rfl, by kernel_rfl⟩
    | 2, _ => cases hf; exact ⟨rfl, by kernel_rfl⟩
    | 3, _ => cases hf; exact ⟨rfl, by kernel_rfl⟩
    | 4, _ => cases hf; exact ⟨rfl, by kernel_rfl⟩) h
  refine ⟨⟨g 0, g 1, g 2, g 3, g 4⟩, ?_, (hg 0 (by decide)).2, (hg 1 (by decide)).2, (hg 2 (by decide)).2, (hg 3 (by decide)).2, (hg 4 (by decide)).2⟩
  match cs, hl with
  | [a0, a1, a2, a3, a4], _ =>
    have h0 := (hg 0 (by decide)).1; have h1 := (hg 1 (by decide)).1; have h2 := (hg 2 (by decide)).1; have h3 := (hg 3 (by decide)).1; have h4 := (hg 4 (by decide)).1
    simp at h0 h1 h2 h3 h4
    subst h0 h1 h2 h3 h4
    rfl
theorem mrk_elem {n : Nat} {cs : List Value} {y : DataW H × List MemPlace} (h : DataW.trod enc Tryz.prog w base spare held n 35 cs = some y) : ∃ s : Mrk, cs = encMk s ∧ wfMk s := by
  obtain ⟨hl, g, hg⟩ := ints_elem Tryz.underlying35 (by kernel_rfl) (by kernel_rfl) (fun j f hf => by
    have hj := (Array.getElem?_eq_some_iff.1 hf).1
    match j, hj with
    | 0, _ => cases hf; exact ⟨rfl, by kernel_rfl⟩
    | 1, _ => cases hf; exact ⟨rfl, by kernel_rfl⟩) h
  refine ⟨⟨g 0, g 1⟩, ?_, (hg 0 (by decide)).2, (hg 1 (by decide)).2⟩
  match cs, hl with
  | [a0, a1], _ =>
    have h0 := (hg 0 (by decide)).1; have h1 := (hg 1 (by decide)).1
    simp at h0 h1
    subst h0 h1
    rfl
set_option maxRecDepth 100000 in
theorem opC_elem {n : Nat} {cs : List Value} {y : DataW H × List MemPlace} (h : DataW.trod enc Tryz.prog w base spare held n 37 cs = some y) : ∃ x : OpC, cs = encOp x ∧ wfOp x := by
  obtain ⟨xs, m, _, _, hl, hxl, hf⟩ := DataW.trod_struct Tryz.underlying37 h
  have c16 : Tryz.prog.cellsOf 37 = 16 := by kernel_rfl
  have cI : Tryz.prog.cellsOf 3 = 1 := by kernel_rfl
  have c7 : Tryz.prog.cellsOf 31 = 7 := by kernel_rfl
  have c5 : Tryz.prog.cellsOf 33 = 5 := by kernel_rfl
  have c2 : Tryz.prog.cellsOf 35 = 2 := by kernel_rfl
  rw [c16] at hl
  have hx5 : xs.length = 5 := hxl
  match cs, hl with
  | [a0, a1, a2, a3, a4, a5, a6, a7, a8, a9, a10, a11, a12, a13, a14, a15], _ =>
    have g0 : DataW.trod enc Tryz.prog w base spare held m 3 ((List.drop 0 [a0, a1, a2, a3, a4, a5, a6, a7, a8, a9, a10, a11, a12, a13, a14, a15]).take (Tryz.prog.cellsOf 3)) = xs[0]? := hf 0 _ rfl
    have g1 : DataW.trod enc Tryz.prog w base spare held m 31 ((List.drop 1 [a0, a1, a2, a3, a4, a5, a6, a7, a8, a9, a10, a11, a12, a13, a14, a15]).take (Tryz.prog.cellsOf 31)) = xs[1]? := hf 1 _ rfl
    have g2 : DataW.trod enc Tryz.prog w base spare held m 33 ((List.drop 8 [a0, a1, a2, a3, a4, a5, a6, a7, a8, a9, a10, a11, a12, a13, a14, a15]).take (Tryz.prog.cellsOf 33)) = xs[2]? := hf 2 _ rfl
    have g3 : DataW.trod enc Tryz.prog w base spare held m 35 ((List.drop 13 [a0, a1, a2, a3, a4, a5, a6, a7, a8, a9, a10, a11, a12, a13, a14, a15]).take (Tryz.prog.cellsOf 35)) = xs[3]? := hf 3 _ rfl
    have g4 : DataW.trod enc Tryz.prog w base spare held m 3 ((List.drop 15 [a0, a1, a2, a3, a4, a5, a6, a7, a8, a9, a10, a11, a12, a13, a14, a15]).take (Tryz.prog.cellsOf 3)) = xs[4]? := hf 4 _ rfl
    rw [cI, List.getElem?_eq_getElem (by omega)] at g0 g4
    rw [c7, List.getElem?_eq_getElem (by omega)] at g1
    rw [c5, List.getElem?_eq_getElem (by omega)] at g2
    rw [c2, List.getElem?_eq_getElem (by omega)] at g3
    obtain ⟨n0, e0, _⟩ := DataW.trod_int Tryz.underlying3 g0
    obtain ⟨n4, e4, _⟩ := DataW.trod_int Tryz.underlying3 g4
    obtain ⟨s, es⟩ := spec_elem g1
    obtain ⟨d, ed, hd⟩ := dec_elem g2
    obtain ⟨k, ek, hk⟩ := mrk_elem g3
    simp [encS, encDc, encMk] at e0 e4 es ed ek
    obtain ⟨r1, r2, r3, r4, r5, r6, r7⟩ := es
    obtain ⟨q1, q2, q3, q4, q5⟩ := ed
    obtain ⟨t1, t2⟩ := ek
    subst e0 e4 r1 r2 r3 r4 r5 r6 r7 q1 q2 q3 q4 q5 t1 t2
    exact ⟨⟨n0, s, d, k, n4⟩, rfl, hd, hk⟩
set_option maxRecDepth 100000 in
theorem opens_opsC {r : Reach} {b0 : Nat} {v : Value} {d : DataW H} {p : List MemPlace} (hv : Value.okWide Tryz.prog w r b0 22 v) (h : DataW.Trod enc Tryz.prog w base spare held 22 v d p) : ∃ xs, OpsC w v xs := by
  obtain ⟨a, l, c, rfl⟩ := okWide_slice Tryz.underlying22 hv
  obtain ⟨fuel, hf⟩ := h
  obtain ⟨xs, h1, h2⟩ := slOf_elemsQ lenOp (by omega) Tryz.underlying22 (by kernel_rfl) (fun n cs y hy => opC_elem hy) (by simpa [Value.cells] using hf)
  exact ⟨xs, h1, h2⟩
end
end Go.Proofs.YthnckicnnhkkaaaGreat
