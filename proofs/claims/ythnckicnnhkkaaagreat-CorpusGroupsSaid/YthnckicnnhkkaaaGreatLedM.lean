/- Ledgers' types; maps from marks to decisions and to bools; a range over a map inside a fence. No condition. -/
import Derived.Test.YthnckicnnhkkaaaGreatMapK
import Derived.Test.YthnckicnnhkkaaaGreatOwn
import Derived.Sort.MapsRangeIn
import Derived.Maps.OwnIn
namespace Go.Proofs.YthnckicnnhkkaaaGreat
open Go.RowKit Go.Maps

/-! ### A range over a map of the call's own, inside a fence -/
section
variable {κ β : Type} [DecidableEq κ] {P : Program} {k e t : TypeId} {KE : KeyEnc P k κ} {EE : ElEnc P e β} {w w' : World} {b r : Nat} {m : List (κ × β)} {todo : List κ}
variable {F : Fence} {nF : Nat} {ops : Array Oper} {rest : List Oper} {o : Oper} {a : Act} {Q : Exit → Act → World → Prop}
theorem wpListIn_rangeAt (hg : o.guard = none) (mo : Operand) (hop : o.op = Op.range t mo) (ht : P.underlying t = some (.map k e)) (h : MapAt KE EE w b m) (hm : a.eval mo = .map (some b))
    (hK : ∀ w', RangeAt KE EE w' b w.heap.size m (m.map Prod.fst) → Below w.heap.size w w' → w'.heap.size = w.heap.size + 1 → wpListIn F nF P ops Q rest (a.put o.dst (.pointer (some ⟨w.heap.size, 0, none⟩))) w') :
    wpListIn F nF P ops Q (o :: rest) a w := by
  obtain ⟨D, h1, h2, h3, h4⟩ := h.own
  refine wpListIn_range_own w hg mo t hop k e KE.keyed ht _ b _ D hm h1 fun w' hrg hgr hsz => hK w' ⟨h.kept hgr (by simp), ⟨D, _, _, _, hrg, fun x hx => (h4 x hx).2, fun x hx => ?_⟩, fun _ h => h⟩ ?_ hsz
  · rw [(h4 x hx).1, Bool.eq_iff_iff, decide_eq_true_eq]
    cases hl : lookM m x with
    | none => simp only [Option.isSome_none, Bool.false_eq_true, false_iff]; exact lookM_none.1 hl
    | some y => simp only [Option.isSome_some, true_iff]; exact List.mem_map.2 ⟨_, lookM_some hl, rfl⟩
  · exact ⟨hgr.os, hgr.tape, hgr.output, hgr.size, fun i hi => hgr.block i hi (by simp)⟩
theorem wpListIn_nextAt (hg : o.guard = none) (it : Operand) (hop : o.op = Op.next it false) (h : RangeAt KE EE w b r m todo) (hit : a.eval it = .pointer (some ⟨r, 0, none⟩))
    (hDone : todo = [] → wpListIn F nF P ops Q rest (a.put o.dst (.tuple #[.bool false])) w)
    (hMore : ∀ (x : κ) (y : β) (w' : World), x ∈ todo → lookM m x = some y → RangeAt KE EE w' b r m (todo.filter fun z => decide (z ≠ x)) → w'.rangeLeft b r < w.rangeLeft b r → w.grownBy w' (some r) → w'.heap.size = w.heap.size →
      (Instr.entry (.pointer (some ⟨r, 0, none⟩))).run P w' = .ok (.tuple #[KE.val x, EE.val y]) w' → wpListIn F nF P ops Q rest (a.put o.dst (.tuple #[.bool true, KE.val x, EE.val y])) w') :
    wpListIn F nF P ops Q (o :: rest) a w := by
  obtain ⟨D, left, cnt, n, h1, h2, h3⟩ := h.run
  refine wpListIn_next_ranges w hg it hop k KE.keyed EE.R KE.val EE.val (fun key kl hkey => by obtain ⟨x, _, hx, _⟩ := KE.inv hkey; exact ⟨x, hx⟩) (fun v y hv => by obtain ⟨x, _, hx, _⟩ := EE.inv hv; exact ⟨x, hx⟩) b r n D left cnt hit h1
    (fun _ hl => hDone ?_) (fun x c kl y w' cnt' hkey hlk hv hat hrg hlt hgr hsz hen => ?_)
  · refine List.eq_nil_iff_forall_not_mem.2 fun x hx => ?_
    have := h3 x (mem_ok h.map (h.sub x hx))
    rw [hl] at this
    simp [hx] at this
  · obtain ⟨x', hx', e1, e2⟩ := KE.inv hkey
    obtain ⟨c', hc', e3, e4⟩ := EE.inv hv
    have hmem : x' ∈ todo := by
      have := h3 x' hx'
      rw [← e2, hlk] at this
      simpa using this.symm
    have hlook : lookM m x' = some c' := by
      have h5 := hat
      have h6 := h2 x' hx'
      rw [e2] at h5
      cases hl : lookM m x' with
      | none => exact absurd (List.mem_map.1 (h.sub x' hmem)) (fun ⟨p, hp, ep⟩ => (lookM_none.1 hl) (List.mem_map.2 ⟨p, hp, ep⟩))
      | some u =>
        rw [hl] at h6
        have e5 := (h6 (EE.el u)).symm.trans (h5 (EE.el u))
        rw [e4] at e5
        exact congrArg some (EE.inj e5)
    have hre : RangeAt KE EE w' b r m (todo.filter fun z => decide (z ≠ x')) := by
      refine ⟨h.map.kept hgr (fun e => h1.ne (Option.some.inj e).symm), ⟨D, _, cnt', n, hrg, h2, fun z hz => ?_⟩, fun z hz => h.sub z (List.mem_filter.1 hz).1⟩
      rw [h3 z hz, e2, Bool.eq_iff_iff]
      simp only [Bool.and_eq_true, decide_eq_true_eq, Bool.not_eq_true', List.mem_filter]
      refine and_congr_right fun hzt => ?_
      constructor
      · rintro h7 rfl
        rw [WideAt.sameKey_self (KE.keyed.key (KE.key hx'))] at h7
        cases h7
      · intro h7
        cases h8 : (KE.lit z).sameKey (KE.lit x')
        · rfl
        · exact absurd (KE.inj hz hx' (WideAt.sameKey_eq h8)) h7
    have hlt' : w'.rangeLeft b r < w.rangeLeft b r := by rw [h1.left_eq, hrg.left_eq]; exact hlt
    rw [e1, e3] at hen ⊢
    exact hMore x' c' w' hmem hlook hre hlt' hgr hsz hen
end
/-! ### Decisions and marks -/
structure Dec where
  au : Int
  nu : Int
  ki : Int
  a : Int
  b : Int
  deriving DecidableEq
structure Mrk where
  au : Int
  nu : Int
  deriving DecidableEq
instance : Inhabited Dec := ⟨⟨0, 0, 0, 0, 0⟩⟩
instance : Inhabited Mrk := ⟨⟨0, 0⟩⟩
def mkOf (d : Dec) : Mrk := ⟨d.au, d.nu⟩
def encDc (d : Dec) : List Value := [.int .i64 d.au, .int .i64 d.nu, .int .i64 d.ki, .int .i64 d.a, .int .i64 d.b]
def encMk (m : Mrk) : List Value := [.int .i64 m.au, .int .i64 m.nu]
theorem lenDc (x : Dec) : (encDc x).length = 5 := rfl
theorem lenMk (x : Mrk) : (encMk x).length = 2 := rfl
theorem oneDc (x : Dec) : ∀ u ∈ encDc x, u.oneCell' = true := by simp [encDc, Value.oneCell']
theorem oneMk (x : Mrk) : ∀ u ∈ encMk x, u.oneCell' = true := by simp [encMk, Value.oneCell']
theorem infoDc : (Tryz.prog.info? 33).map (fun i => (i.zero, i.size, i.bytes)) = some (some (.agg #[.int .i64 0, .int .i64 0, .int .i64 0, .int .i64 0, .int .i64 0]), 5, 40) := by kernel_rfl
theorem infoMk : (Tryz.prog.info? 35).map (fun i => (i.zero, i.size, i.bytes)) = some (some (.agg #[.int .i64 0, .int .i64 0]), 2, 16) := by kernel_rfl
abbrev OwnDc (B : Nat) (w : World) (v : Value) (xs : List Dec) : Prop := Own encDc 5 33 B w v xs
abbrev OwnMk (B : Nat) (w : World) (v : Value) (xs : List Mrk) : Prop := Own encMk 2 35 B w v xs
def Decs (w : World) (v : Value) (xs : List Dec) : Prop := SlOf encDc 5 w v xs
def Mrks (w : World) (v : Value) (xs : List Mrk) : Prop := SlOf encMk 2 w v xs
/-! ### Marks as keys -/
theorem mrkKey_type : Tryz.prog.keyType 35 = true := by kernel_rfl
theorem mrkKey_types : ∃ n, Tryz.prog.types.size = n + 1 := ⟨Tryz.prog.types.size - 1, by kernel_rfl⟩
theorem mrkKey_cells : Tryz.prog.cellsOf 35 = 2 ∧ Tryz.prog.cellsOf 3 = 1 := ⟨by kernel_rfl, by kernel_rfl⟩
theorem keyLits_mrk (d : Nat) (c0 c1 : Value) (ls : List Lit) : Tryz.prog.keyLits (d + 1 + 1) 35 [c0, c1] = some ls ↔ ∃ s n, wfI s ∧ wfI n ∧ c0 = .int .i64 s ∧ c1 = .int .i64 n ∧ ls = [.int .i64 s, .int .i64 n] := by
  have h0 := fun c ls => keyLits_one d c ls
  unfold Program.keyLits
  rw [Tryz.underlying35]
  simp only [mrkKey_cells.1, List.length_cons, List.length_nil]
  rw [if_pos ⟨trivial, by kernel_rfl⟩]
  simp only [List.mapM_cons, List.mapM_nil, mrkKey_cells.2, List.drop_zero, List.drop_succ_cons, List.take_succ_cons, List.take_zero]
  constructor
  · intro h
    cases hA : Tryz.prog.keyLits (d + 1) 3 [c0] with
    | none => simp [hA] at h
    | some la =>
      cases hB : Tryz.prog.keyLits (d + 1) 3 [c1] with
      | none => simp [hA, hB] at h
      | some lb =>
        simp [hA, hB] at h
        obtain ⟨s, hs, e1, e2⟩ := (h0 c0 la).1 hA
        obtain ⟨n, hn, e3, e4⟩ := (h0 c1 lb).1 hB
        exact ⟨s, n, hs, hn, e1, e3, by rw [← h, e2, e4]; rfl⟩
  · rintro ⟨s, n, hs, hn, rfl, rfl, rfl⟩
    have e1 := (h0 (.int .i64 s) _).2 ⟨s, hs, rfl, rfl⟩
    have e2 := (h0 (.int .i64 n) _).2 ⟨n, hn, rfl, rfl⟩
    simp [e1, e2]
theorem keyOf_mrk (v : Value) (l : Lit) : keyOf Tryz.prog 35 v = some l ↔ ∃ s n, wfI s ∧ wfI n ∧ v = .agg #[.int .i64 s, .int .i64 n] ∧ l = .string (keyBytes [.int .i64 s, .int .i64 n]) := by
  obtain ⟨N, hN⟩ : ∃ n, Tryz.prog.types.size = n + 1 := mrkKey_types
  unfold keyOf
  rw [Tryz.underlying35]
  simp only [mrkKey_type, Bool.true_and, hN]
  constructor
  · intro h
    split at h
    · rename_i hf
      cases v <;> simp [Value.formed, Tryz.underlying35] at hf
      rename_i cs
      obtain ⟨ls, h1, h2⟩ := Option.map_eq_some_iff.1 h
      rw [mrkKey_cells.1] at hf
      obtain ⟨c0, c1, rfl⟩ := two_of hf
      obtain ⟨s, n, hs, hn, rfl, rfl, rfl⟩ := (keyLits_mrk N c0 c1 ls).1 h1
      exact ⟨s, n, hs, hn, rfl, h2.symm⟩
    · cases h
  · rintro ⟨s, n, hs, hn, rfl, rfl⟩
    have h1 := (keyLits_mrk N (.int .i64 s) (.int .i64 n) _).2 ⟨s, n, hs, hn, rfl, rfl, rfl⟩
    rw [if_pos (by simp [Value.formed, Tryz.underlying35, mrkKey_cells.1])]
    exact congrArg (Option.map fun ls => Lit.string (keyBytes ls)) h1
abbrev wfMk (m : Mrk) : Prop := wfI m.au ∧ wfI m.nu
def keyMrk : KeyEnc Tryz.prog 35 Mrk where
  ok m := wfI m.au ∧ wfI m.nu
  val m := .agg #[.int .i64 m.au, .int .i64 m.nu]
  lit m := .string (keyBytes [.int .i64 m.au, .int .i64 m.nu])
  keyed := Keyed.of_law (deep_law_laid (m := 3) (by kernel_rfl) (by decide) (of_decide_eq_true (by kernel_rfl)) (by kernel_rfl) (by rw [Tryz.underlying35]))
  key {x} hx := (keyOf_mrk _ _).2 ⟨x.au, x.nu, hx.1, hx.2, rfl, rfl⟩
  inj {x y} hx hy e := by
    have K : Keyed Tryz.prog 35 := Keyed.of_law (deep_law_laid (m := 3) (by kernel_rfl) (by decide) (of_decide_eq_true (by kernel_rfl)) (by kernel_rfl) (by rw [Tryz.underlying35]))
    have h1 := (keyOf_mrk (.agg #[.int .i64 x.au, .int .i64 x.nu]) _).2 ⟨x.au, x.nu, hx.1, hx.2, rfl, rfl⟩
    have h2 := (keyOf_mrk (.agg #[.int .i64 y.au, .int .i64 y.nu]) _).2 ⟨y.au, y.nu, hy.1, hy.2, rfl, rfl⟩
    rw [← e] at h2
    have := K.inj h1 h2
    cases x; cases y
    simpa using this
  inv {v l} h := by
    obtain ⟨s, n, hs, hn, e1, e2⟩ := (keyOf_mrk v l).1 h
    exact ⟨⟨s, n⟩, ⟨hs, hn⟩, e1, e2⟩
/-! ### Decisions as elements -/
abbrev wfDc (d : Dec) : Prop := wfI d.au ∧ wfI d.nu ∧ wfI d.ki ∧ wfI d.a ∧ wfI d.b
abbrev decV (d : Dec) : Value := .agg #[.int .i64 d.au, .int .i64 d.nu, .int .i64 d.ki, .int .i64 d.a, .int .i64 d.b]
def decEl (d : Dec) : DataW Unit := .agg [.lit (.int .i64 d.au), .lit (.int .i64 d.nu), .lit (.int .i64 d.ki), .lit (.int .i64 d.a), .lit (.int .i64 d.b)]
theorem decV_inj {x y : Dec} (h : decV x = decV y) : x = y := by
  cases x; cases y
  simpa using h
theorem decEl_inj {x y : Dec} (h : decEl x = decEl y) : x = y := by
  cases x; cases y
  simpa [decEl] using h
open Classical in
noncomputable def decR (v : Value) : Option (DataW Unit × List MemPlace) := if h : ∃ d, wfDc d ∧ v = decV d then some (decEl h.choose, []) else none
theorem decR_read {d : Dec} (h : wfDc d) : decR (decV d) = some (decEl d, []) := by
  have hx : ∃ d', wfDc d' ∧ decV d = decV d' := ⟨d, h, rfl⟩
  unfold decR
  rw [dif_pos hx, ← decV_inj hx.choose_spec.2]
theorem decR_inv {v : Value} {z : DataW Unit × List MemPlace} (h : decR v = some z) : ∃ d, wfDc d ∧ v = decV d ∧ z = (decEl d, []) := by
  unfold decR at h
  split at h
  · rename_i hx
    exact ⟨hx.choose, hx.choose_spec.1, hx.choose_spec.2, (Option.some.inj h).symm⟩
  · cases h
theorem zDec (w : World) : (zeroValue 33).run Tryz.prog w = .ok (.agg #[.int .i64 0, .int .i64 0, .int .i64 0, .int .i64 0, .int .i64 0]) w := by kernel_rfl
noncomputable def elDec : ElEnc Tryz.prog 33 Dec where
  ok := wfDc
  val d := .agg #[.int .i64 d.au, .int .i64 d.nu, .int .i64 d.ki, .int .i64 d.a, .int .i64 d.b]
  el := decEl
  zero := ⟨0, 0, 0, 0, 0⟩
  zrun := zDec
  zok := by decide
  R := decR
  read := decR_read
  inv := decR_inv
  inj := decEl_inj
/-- A map from marks to decisions. -/
def MapDc (w : World) (b : Nat) (m : List (Mrk × Dec)) : Prop := MapAt (P := Tryz.prog) keyMrk elDec w b m
/-- A map from marks to bools. -/
def MapMk (w : World) (b : Nat) (m : List (Mrk × Bool)) : Prop := MapAt (P := Tryz.prog) keyMrk (elBool Tryz.underlying4 zBool) w b m
end Go.Proofs.YthnckicnnhkkaaaGreat
/- Ledgers, plain: decisions and marks in order; what may be made and withdrawn. No program in sight, no condition. -/
namespace Go.Proofs.YthnckicnnhkkaaaGreat
open Go.RowKit

/-! ### The order of marks -/
def mkLt (x y : Mrk) : Prop := x.au < y.au ∨ (x.au = y.au ∧ x.nu < y.nu)
instance (x y : Mrk) : Decidable (mkLt x y) := by unfold mkLt; infer_instance
section
variable {x y z : Mrk}
theorem mkLt_irrefl (x : Mrk) : ¬ mkLt x x := by unfold mkLt; omega
theorem mkLt_trans (h : mkLt x y) (k : mkLt y z) : mkLt x z := by unfold mkLt at *; omega
theorem mkLt_asymm (h : mkLt x y) : ¬ mkLt y x := by unfold mkLt at *; omega
theorem mk_tri (x y : Mrk) : mkLt x y ∨ x = y ∨ mkLt y x := by
  by_cases h : x = y
  · exact .inr (.inl h)
  · have : ¬ (x.au = y.au ∧ x.nu = y.nu) := fun ⟨a, b⟩ => h (by cases x; cases y; simp_all)
    unfold mkLt; omega
end
/-- Decisions in the order of their marks. -/
def SrtD (D : List Dec) : Prop := D.Pairwise fun x y => mkLt (mkOf x) (mkOf y)
def SrtM (W : List Mrk) : Prop := W.Pairwise mkLt
theorem srt_uniq {α : Type} (f : α → Mrk) : ∀ {xs ys : List α}, xs.Pairwise (fun x y => mkLt (f x) (f y)) → ys.Pairwise (fun x y => mkLt (f x) (f y)) → (∀ n, n ∈ xs ↔ n ∈ ys) → xs = ys
  | [], [], _, _, _ => rfl
  | [], y :: ys, _, _, h => absurd ((h y).2 (by simp)) (by simp)
  | x :: xs, [], _, _, h => absurd ((h x).1 (by simp)) (by simp)
  | x :: xs, y :: ys, hx, hy, h => by
    obtain ⟨h1, h2⟩ := List.pairwise_cons.1 hx
    obtain ⟨k1, k2⟩ := List.pairwise_cons.1 hy
    have e : x = y := by
      rcases List.mem_cons.1 ((h x).1 (by simp)) with e | e
      · exact e
      · rcases List.mem_cons.1 ((h y).2 (by simp)) with e' | e'
        · exact e'.symm
        · exact absurd (h1 y e') (mkLt_asymm (k1 x e))
    subst e
    congr 1
    refine srt_uniq f h2 k2 fun n => ?_
    constructor
    · intro hn
      rcases List.mem_cons.1 ((h n).1 (List.mem_cons_of_mem _ hn)) with e | e
      · subst e; exact absurd (h1 n hn) (mkLt_irrefl _)
      · exact e
    · intro hn
      rcases List.mem_cons.1 ((h n).2 (List.mem_cons_of_mem _ hn)) with e | e
      · subst e; exact absurd (k1 n hn) (mkLt_irrefl _)
      · exact e
/-- One more element at its place. -/
def insF {α : Type} (f : α → Mrk) (D : List α) (d : α) : List α := D.filter (fun x => decide (mkLt (f x) (f d))) ++ d :: D.filter (fun x => decide (mkLt (f d) (f x)))
theorem insF_mem {α : Type} (f : α → Mrk) {D : List α} {d : α} (hn : ∀ x ∈ D, f x ≠ f d) (x : α) : x ∈ insF f D d ↔ x ∈ D ∨ x = d := by
  unfold insF
  simp only [List.mem_append, List.mem_filter, List.mem_cons, decide_eq_true_eq]
  constructor
  · rintro (h | h | h)
    · exact .inl h.1
    · exact .inr h
    · exact .inl h.1
  · rintro (h | h)
    · rcases mk_tri (f x) (f d) with e | e | e
      · exact .inl ⟨h, e⟩
      · exact absurd e (hn x h)
      · exact .inr (.inr ⟨h, e⟩)
    · exact .inr (.inl h)
theorem insF_srt {α : Type} (f : α → Mrk) {D : List α} {d : α} (h : D.Pairwise fun x y => mkLt (f x) (f y)) : (insF f D d).Pairwise fun x y => mkLt (f x) (f y) := by
  unfold insF
  rw [List.pairwise_append, List.pairwise_cons]
  refine ⟨h.filter _, ⟨fun x hx => by simpa using (List.mem_filter.1 hx).2, h.filter _⟩, fun x hx y hy => ?_⟩
  have h1 : mkLt (f x) (f d) := by simpa using (List.mem_filter.1 hx).2
  rcases List.mem_cons.1 hy with rfl | hy
  · exact h1
  · exact mkLt_trans h1 (by simpa using (List.mem_filter.1 hy).2)
theorem insF_len {α : Type} (f : α → Mrk) {D : List α} {d : α} (hn : ∀ x ∈ D, f x ≠ f d) : (insF f D d).length = D.length + 1 := by
  unfold insF
  rw [List.length_append, List.length_cons]
  have : ∀ (D : List α), (∀ x ∈ D, f x ≠ f d) → (D.filter fun x => decide (mkLt (f x) (f d))).length + (D.filter fun x => decide (mkLt (f d) (f x))).length = D.length := fun D => by
    induction D with
    | nil => simp
    | cons x xs ih =>
      intro hn
      have := ih fun y hy => hn y (List.mem_cons_of_mem _ hy)
      rw [List.filter_cons, List.filter_cons]
      rcases mk_tri (f x) (f d) with e | e | e
      · rw [if_pos (by simpa using e), if_neg (by simpa using mkLt_asymm e)]
        simp only [List.length_cons]; omega
      · exact absurd e (hn x (by simp))
      · rw [if_neg (by simpa using mkLt_asymm e), if_pos (by simpa using e)]
        simp only [List.length_cons]; omega
  have := this D hn
  omega
/-! ### What is valid -/
def rngB (n lo hi : Int) : Bool := decide (lo ≤ n) && decide (n ≤ hi)
def mrkB (m : Mrk) : Bool := rngB m.au 0 7 && rngB m.nu 1 200
def mostI (ki : Int) : Int := if ki = 1 ∨ ki = 2 then 999 else 9999
def decB (d : Dec) : Bool := (decide (d.ki = 1) || decide (d.ki = 2) || decide (d.ki = 3) || decide (d.ki = 4)) && mrkB (mkOf d) && rngB d.a 1 (mostI d.ki) && rngB d.b 1 (mostI d.ki) && (decide (d.a < d.b) || (decide (d.ki = 3) && decide (d.b < d.a)))
def findD (D : List Dec) (m : Mrk) : Option Dec := D.find? fun d => decide (mkOf d = m)
def makeE (D : List Dec) (d : Dec) : Int := if decB d = true then (match findD D (mkOf d) with
  | some o => if o = d then 0 else 10
  | none => if 200 ≤ D.length then 6 else 0) else 1
def makeL (D : List Dec) (d : Dec) : List Dec := if makeE D d = 0 ∧ findD D (mkOf d) = none then insF mkOf D d else D
def drawE (W : List Mrk) (m : Mrk) : Int := if mrkB m = true then (if m ∈ W then 0 else if 200 ≤ W.length then 6 else 0) else 1
def drawL (W : List Mrk) (m : Mrk) : List Mrk := if drawE W m = 0 ∧ m ∉ W then insF id W m else W
theorem find_none {D : List Dec} {m : Mrk} : findD D m = none ↔ ∀ x ∈ D, mkOf x ≠ m := by
  unfold findD
  rw [List.find?_eq_none]
  simp
theorem find_some {D : List Dec} {m : Mrk} {o : Dec} (h : findD D m = some o) : o ∈ D ∧ mkOf o = m := by
  unfold findD at h
  exact ⟨List.mem_of_find?_eq_some h, by simpa using List.find?_some h⟩
theorem find_of {D : List Dec} (hs : SrtD D) {o : Dec} (h : o ∈ D) : findD D (mkOf o) = some o := by
  cases hf : findD D (mkOf o) with
  | none => exact absurd rfl (find_none.1 hf o h)
  | some p =>
    obtain ⟨h1, h2⟩ := find_some hf
    have : p = o := by
      have hne : ∀ {x y : Dec}, x ∈ D → y ∈ D → mkOf x = mkOf y → x = y := by
        intro x y hx hy e
        clear hf h1 h2 h
        induction D with
        | nil => simp at hx
        | cons z zs ih =>
          obtain ⟨k1, k2⟩ := List.pairwise_cons.1 hs
          rcases List.mem_cons.1 hx with ex | hx'
          · rcases List.mem_cons.1 hy with ey | hy'
            · rw [ex, ey]
            · have := k1 y hy'; rw [← ex, e] at this; exact absurd this (mkLt_irrefl _)
          · rcases List.mem_cons.1 hy with ey | hy'
            · have := k1 x hx'; rw [← ey, e] at this; exact absurd this (mkLt_irrefl _)
            · exact ih k2 hx' hy'
      exact hne h1 h h2
    rw [this]
theorem makeL_srt {D : List Dec} (hs : SrtD D) (d : Dec) : SrtD (makeL D d) := by
  unfold makeL
  split
  · exact insF_srt mkOf hs
  · exact hs
theorem drawL_srt {W : List Mrk} (hs : SrtM W) (m : Mrk) : SrtM (drawL W m) := by
  unfold drawL
  split
  · exact insF_srt id hs
  · exact hs
/-- The standing decisions. -/
def standL (D : List Dec) (W : List Mrk) : List Dec := D.filter fun d => !decide (mkOf d ∈ W)
end Go.Proofs.YthnckicnnhkkaaaGreat
/- Ledgers, plain: lists of decisions and of marks in order together, one by one. No program in sight, no condition. -/
namespace Go.Proofs.YthnckicnnhkkaaaGreat
open Go.RowKit

/-- One more decision; none if its mark has another one. -/
def stepD (out : List Dec) (d : Dec) : Option (List Dec) := match findD out (mkOf d) with
  | some o => if o = d then some out else none
  | none => some (insF mkOf out d)
def decsF : List Dec → List Dec → Option (List Dec)
  | out, [] => some out
  | out, d :: ds => match stepD out d with
    | some o => decsF o ds
    | none => none
def stepM (out : List Mrk) (m : Mrk) : List Mrk := if m ∈ out then out else insF id out m
def mrksF (out : List Mrk) (ms : List Mrk) : List Mrk := ms.foldl stepM out
theorem stepD_srt {out o : List Dec} {d : Dec} (hs : SrtD out) (h : stepD out d = some o) : SrtD o := by
  unfold stepD at h
  split at h
  · split at h
    · cases h; exact hs
    · cases h
  · cases h; exact insF_srt mkOf hs
theorem stepM_srt {out : List Mrk} (hs : SrtM out) (m : Mrk) : SrtM (stepM out m) := by
  unfold stepM
  split
  · exact hs
  · exact insF_srt id hs
section
variable {α : Type} {f : α → Mrk} {out : List α} {m : Mrk}
/-- The place of a mark: what stands ahead, and what stands from there on. -/
def ahd (f : α → Mrk) (out : List α) (m : Mrk) : Nat := (out.filter fun x => decide (mkLt (f x) m)).length
theorem ahd_le : ahd f out m ≤ out.length := List.length_filter_le _ _
theorem ahd_split : ∀ {out : List α}, out.Pairwise (fun x y => mkLt (f x) (f y)) → out.take (ahd f out m) = (out.filter fun x => decide (mkLt (f x) m)) ∧ out.drop (ahd f out m) = out.filter fun x => !decide (mkLt (f x) m)
  | [], _ => ⟨rfl, rfl⟩
  | x :: xs, h => by
    obtain ⟨h1, h2⟩ := List.pairwise_cons.1 h
    obtain ⟨k1, k2⟩ := ahd_split h2
    by_cases c : mkLt (f x) m
    · have e : ahd f (x :: xs) m = ahd f xs m + 1 := by unfold ahd; rw [List.filter_cons, if_pos (by simpa using c)]; rfl
      rw [e, List.take_succ_cons, List.drop_succ_cons, k1, k2, List.filter_cons, List.filter_cons, if_pos (by simpa using c), if_neg (by simpa using c)]
      exact ⟨rfl, rfl⟩
    · have e0 : xs.filter (fun x => decide (mkLt (f x) m)) = [] := List.filter_eq_nil_iff.2 fun y hy => by
        have h3 := h1 y hy
        simp only [decide_eq_true_eq]
        exact fun h4 => c (mkLt_trans h3 h4)
      have e : ahd f (x :: xs) m = 0 := by unfold ahd; rw [List.filter_cons, if_neg (by simpa using c), e0]; rfl
      have e1 : xs.filter (fun x => !decide (mkLt (f x) m)) = xs := List.filter_eq_self.2 fun y hy => by
        have h3 := h1 y hy
        simp only [Bool.not_eq_true', decide_eq_false_iff_not]
        exact fun h4 => c (mkLt_trans h3 h4)
      rw [e, List.filter_cons, List.filter_cons, if_neg (by simpa using c), if_pos (by simpa using c), e0, e1]
      exact ⟨rfl, rfl⟩
/-- The scan stops at the place. -/
theorem ahd_step (hs : out.Pairwise (fun x y => mkLt (f x) (f y))) {k : Nat} {x : α} (hk : out[k]? = some x) : mkLt (f x) m ↔ k < ahd f out m := by
  obtain ⟨h1, h2⟩ := ahd_split (m := m) hs
  constructor
  · intro hx
    rcases Nat.lt_or_ge k (ahd f out m) with h | h
    · exact h
    · exfalso
      have hm : x ∈ out.drop (ahd f out m) := List.mem_of_getElem? (i := k - ahd f out m) (by rw [List.getElem?_drop, show ahd f out m + (k - ahd f out m) = k by omega]; exact hk)
      rw [h2] at hm
      have := (List.mem_filter.1 hm).2
      simp [hx] at this
  · intro h
    have hm : x ∈ out.take (ahd f out m) := List.mem_of_getElem? (i := k) (by rw [List.getElem?_take_of_lt h]; exact hk)
    rw [h1] at hm
    simpa using (List.mem_filter.1 hm).2
end
/-- At the place of a mark stands its decision, or one of a greater mark, or nothing. -/
theorem at_found {out : List Dec} (hs : SrtD out) {o : Dec} (h : findD out (mkOf o) = some o) : out[ahd mkOf out (mkOf o)]? = some o := by
  obtain ⟨h1, h2⟩ := find_some h
  obtain ⟨k, hk⟩ := List.getElem?_of_mem h1
  have hn : ¬ k < ahd mkOf out (mkOf o) := fun h => mkLt_irrefl _ ((ahd_step hs hk).2 h)
  rcases Nat.lt_or_ge (ahd mkOf out (mkOf o)) k with h | h
  · exfalso
    have hlk := (List.getElem?_eq_some_iff.1 hk)
    have hlk1 := hlk.1
    have h3 := List.pairwise_iff_getElem.1 hs _ _ (by omega) hlk.1 h
    rw [hlk.2] at h3
    have := (ahd_step hs (List.getElem?_eq_getElem (show ahd mkOf out (mkOf o) < out.length by omega))).1 h3
    omega
  · rw [show ahd mkOf out (mkOf o) = k by omega]; exact hk
theorem at_other {α : Type} {f : α → Mrk} {out : List α} {m : Mrk} (hn : ∀ x ∈ out, f x ≠ m) (hs : out.Pairwise (fun x y => mkLt (f x) (f y))) (d : α) (hd : f d = m) : out.take (ahd f out m) ++ d :: out.drop (ahd f out m) = insF f out d := by
  obtain ⟨h1, h2⟩ := ahd_split (m := m) hs
  rw [h1, h2]
  unfold insF
  rw [hd]
  congr 2
  refine List.filter_congr fun x hx => ?_
  rcases mk_tri (f x) m with e | e | e
  · simp [e, mkLt_asymm e]
  · exact absurd e (hn x hx)
  · simp [e, mkLt_asymm e]
theorem at_none {out : List Dec} (hs : SrtD out) {m : Mrk} (h : ∀ o, out[ahd mkOf out m]? = some o → mkOf o ≠ m) : findD out m = none := by
  refine find_none.2 fun x hx e => ?_
  subst e
  exact h x (at_found hs (find_of hs hx)) rfl
theorem atM_none {out : List Mrk} (hs : SrtM out) {m : Mrk} (h : ∀ o, out[ahd id out m]? = some o → o ≠ m) : m ∉ out := fun hx => by
  obtain ⟨k, hk⟩ := List.getElem?_of_mem hx
  have hn : ¬ k < ahd id out m := fun h => mkLt_irrefl m ((ahd_step (f := id) hs hk).2 h)
  have hlk := (List.getElem?_eq_some_iff.1 hk)
  have hlk1 := hlk.1
  rcases Nat.lt_or_ge (ahd id out m) k with h' | h'
  · have h3 := List.pairwise_iff_getElem.1 hs _ _ (by omega) hlk.1 h'
    rw [hlk.2] at h3
    have := (ahd_step (f := id) hs (List.getElem?_eq_getElem (show ahd id out m < out.length by omega))).1 h3
    omega
  · exact h m (by rw [show ahd id out m = k by omega]; exact hk) rfl
theorem decsF_append : ∀ (xs a b : List Dec), decsF xs (a ++ b) = (decsF xs a).bind fun o => decsF o b
  | xs, [], b => rfl
  | xs, d :: a, b => by
    rw [List.cons_append, decsF, decsF]
    cases stepD xs d with
    | none => rfl
    | some o => exact decsF_append o a b
theorem decsF_snoc {xs ys out : List Dec} {k : Nat} {d : Dec} (h : decsF xs (ys.take k) = some out) (hd : ys[k]? = some d) : decsF xs (ys.take (k + 1)) = stepD out d := by
  have e : ys.take (k + 1) = ys.take k ++ [d] := by rw [List.take_add_one, hd]; rfl
  rw [e, decsF_append, h]
  show decsF out [d] = _
  rw [decsF]
  cases stepD out d <;> rfl
theorem decsF_stop {xs ys out : List Dec} {k : Nat} {d : Dec} (h : decsF xs (ys.take k) = some out) (hd : ys[k]? = some d) (hn : stepD out d = none) : decsF xs ys = none := by
  have h1 := decsF_snoc h hd
  rw [hn] at h1
  rw [← List.take_append_drop (k + 1) ys, decsF_append, h1]
  rfl
theorem mrksF_snoc {xs ys : List Mrk} {k : Nat} {d : Mrk} (hd : ys[k]? = some d) : mrksF xs (ys.take (k + 1)) = stepM (mrksF xs (ys.take k)) d := by
  have e : ys.take (k + 1) = ys.take k ++ [d] := by rw [List.take_add_one, hd]; rfl
  rw [e]
  unfold mrksF
  rw [List.foldl_append]
  rfl
end Go.Proofs.YthnckicnnhkkaaaGreat
