/- Maps from dies to numbers; a store at a key that is there while the map is ranged over. No condition. -/
import Derived.Test.YtgpbdembjdileaaGreatDoorMapK
import Derived.Maps.Range
namespace Go.Proofs.YtgpbdembjdileaaGreatDoor
open Go.RowKit Go.Maps Go.ChangeMaps Go.MapKept Go.WideShapes
open Go.WideElems (Fit rd rg pl rd_key rd_val rg_of other_key rd_mk)

/-! ### A store at a key that is there -/
section
variable {P : Program} {k e t : TypeId} {R : Value → Option (DataW Unit × List MemPlace)} {w : World} {b r n : Nat} {D : DataW Unit} {left : Lit → Bool} {cnt : Nat}
theorem ranges_put (h : w.ranges P k R b r n D left cnt) (K : Keyed P k) (ht : P.underlying t = some (.map k e)) {z : Value} (hz : (zeroValue e).run P w = .ok z w) {key val : Value} {kl : Lit} {yv : DataW Unit × List MemPlace} (hroom : ∀ es clock, w.heap[b]? = some (.map es clock) → es.size < maxLen)
    (hkey : keyOf P k key = some kl) (hv : R val = some yv) (hhas : has D kl = true) :
    ∃ w', (Instr.mapUpdate t (.map (some b)) key val).run P w = .ok () w' ∧ w'.ranges P k R b r n (D.put kl yv.1) left cnt ∧ w.grownBy w' (some b) := by
  have hne := h.ne
  obtain ⟨es, clock, since, seen, c0, hb, F, hs, rfl, hr, hold, hc, hl1, hl2, hsc, hsk⟩ := h
  obtain ⟨es', clock', hrun, F', hput, _⟩ := Maps.fit_store (R' := R) K ht hb F (hroom es clock hb) (fun _ _ _ _ hz => hz) hkey hv
  rcases K.find w hkey es.toList F.keys with ⟨h1, h2⟩ | ⟨j, e0, h1, h2, h3⟩
  · exfalso
    rcases Maps.fit_look false K ht hz hb F hkey with ⟨_, _, hat⟩ | ⟨e1, y, he1, hk1, _⟩
    · rw [has_false_of_atKey hat] at hhas
      cases hhas
    · exact h2 e1 he1 hk1
  · have hj : es[j]? = some e0 := by simpa using h2
    have hrun2 : (Instr.mapUpdate t (.map (some b)) key val).run P w = .ok () (setBlock w b (.map (es.modify j (fun e' => { e' with key := key, val := val })) clock)) := by
      simp [Instr.mapUpdate, run_underlying ht, MapKept.run_getObj_map hb, K.check w false hkey, h1, hj, h3, K.stays w hkey, MapKept.run_setObj_map _ hb, Result.andThen, setBlock]
    rw [hrun2] at hrun
    have hobj : (Obj.map (es.modify j (fun e' => { e' with key := key, val := val })) clock) = .map es' clock' := by
      have h5 := (Result.ok.inj hrun).2
      have h6 := congrArg (fun w' : World => w'.heap[b]?) h5
      simp only [heap_setBlock_same hb] at h6
      exact Option.some.inj h6
    injection hobj with e1 e2
    subst e1; subst e2
    obtain ⟨en, hen⟩ : ∃ en : MapEntry, en = { e0 with key := key, val := val } := ⟨_, rfl⟩
    have hlist : (es.modify j (fun e' => { e' with key := key, val := val })).toList = es.toList.set j en := by rw [Array.toList_modify, modify_eq_set _ _ _ _ h2, hen]
    have hborn : en.born = e0.born := by rw [hen]
    have hjl : j < es.toList.length := (List.getElem?_eq_some_iff.1 h2).1
    have hje : es.toList[j] = e0 := (List.getElem?_eq_some_iff.1 h2).2
    have who : ∀ x ∈ es.toList.set j en, x = en ∨ x ∈ es.toList := fun x hx => by
      obtain ⟨i, hi, ex⟩ := List.getElem_of_mem hx
      rw [List.getElem_set] at ex
      split at ex
      · exact .inl ex.symm
      · exact .inr (by rw [← ex]; exact List.getElem_mem _)
    have ohw : ∀ x ∈ es.toList, x = e0 ∨ x ∈ es.toList.set j en := fun x hx => by
      obtain ⟨i, hi, ex⟩ := List.getElem_of_mem hx
      by_cases hij : j = i
      · subst hij; exact .inl (by rw [← ex, hje])
      · refine .inr (List.mem_iff_getElem.2 ⟨i, by simpa using hi, ?_⟩)
        rw [List.getElem_set_ne hij]; exact ex
    have hmem0 : e0 ∈ es.toList := List.mem_of_getElem? h2
    have hrn : (rg P k R en).1 = kl := by rw [hen, rg_of (rd_mk hkey hv)]
    have hro : (rg P k R e0).1 = kl := by
      obtain ⟨y, hy⟩ := F.reads e0 hmem0
      have h7 := rd_key hy
      rw [h3, hkey] at h7
      rw [rg_of hy]
      exact (Option.some.inj h7).symm
    have hbm : (es.toList.set j en).map MapEntry.born = es.toList.map MapEntry.born := by
      rw [List.map_set, hborn, ← hje, ← List.getElem_map MapEntry.born (h := by simpa using hjl), List.set_getElem_self]
    have hcount : ∀ a : Array MapEntry, (leftOf a seen).size = ((a.toList.map MapEntry.born).filter fun c => !seen.contains c).length := fun a => by
      unfold leftOf
      rw [List.filter_map, List.length_map, ← Array.toList_filter, Array.length_toList]
      rfl
    refine ⟨_, hrun2, ⟨_, clock, since, seen, c0, heap_setBlock_same hb _, F', by simpa using hs, by rw [DataW.put_eq, hput], (heap_setBlock_other hb _ hne).trans hr, fun x hx => ?_, ?_, fun x hx => ?_, fun kl' hk' => ?_, hsc, hsk⟩, ⟨rfl, rfl, rfl, by simp [setBlock], fun i _ hi => heap_setBlock_other hb _ (fun e => hi (by rw [e]))⟩⟩
    · rw [hlist] at hx
      rcases who x hx with rfl | hx
      · rw [hborn]; exact hold e0 hmem0
      · exact hold x hx
    · rw [hcount, hlist, hbm, ← hcount]; exact hc
    · rw [hlist] at hx
      rcases who x hx with rfl | hx
      · rw [hrn, hborn, ← hro]; exact hl1 e0 hmem0
      · exact hl1 x hx
    · obtain ⟨x, hx, e⟩ := hl2 kl' hk'
      rw [hlist]
      rcases ohw x hx with rfl | hx
      · exact ⟨en, List.mem_iff_getElem.2 ⟨j, by simpa using hjl, by simp⟩, by rw [hrn, ← hro]; exact e⟩
      · exact ⟨x, hx, e⟩
end
section
variable {κ β : Type} [DecidableEq κ] {P : Program} {k e t : TypeId} {KE : KeyEnc P k κ} {EE : ElEnc P e β} {w : World} {b r : Nat} {m : List (κ × β)} {todo : List κ}
theorem RangeAt.put (h : RangeAt KE EE w b r m todo) (ht : P.underlying t = some (.map k e)) {x : κ} {y : β} (hx : x ∈ m.map Prod.fst) (hy : EE.ok y) (hn : m.length < maxLen) :
    ∃ w', (Instr.mapUpdate t (.map (some b)) (KE.val x) (EE.val y)).run P w = .ok () w' ∧ RangeAt KE EE w' b r (putM m x y) todo ∧ w.grownBy w' (some b) ∧ w'.rangeLeft b r = w.rangeLeft b r := by
  have hok := mem_ok h.map hx
  obtain ⟨w', hrun, hmap, hg⟩ := h.map.put ht hok hy hn
  obtain ⟨D, left, cnt, n, h1, h2, h3⟩ := h.run
  obtain ⟨y0, hy0⟩ : ∃ y0, lookM m x = some y0 := by
    cases hl : lookM m x with
    | none => exact absurd hx (lookM_none.1 hl)
    | some y0 => exact ⟨y0, rfl⟩
  have hhas : has D (KE.lit x) = true := has_true_of_atKey (y := EE.el y0) fun zd => by rw [h2 x hok, hy0]
  have hroom : ∀ es clock, w.heap[b]? = some (.map es clock) → es.size < maxLen := fun es clock hb => by
    obtain ⟨⟨D', ⟨es', clock', hb', _, _, rfl⟩, _, hs, _⟩, _, _⟩ := h.map
    rw [hb] at hb'
    cases hb'
    simp only [Maps.size, length_sorted] at hs
    simp at hs
    omega
  obtain ⟨w2, hrun2, hrg, _⟩ := ranges_put h1 KE.keyed ht (EE.zrun w) hroom (KE.key hok) (EE.read hy) hhas
  have hw : w2 = w' := by
    rw [hrun] at hrun2
    exact (Result.ok.inj hrun2).2.symm
  subst hw
  have hkl := KE.keyed.key (KE.key hok)
  have hisM : IsMap D := by
    obtain ⟨es, clock, since, seen, c0, _, _, _, rfl, _⟩ := h1
    exact ⟨_, rfl⟩
  refine ⟨w2, hrun, ⟨hmap, ⟨_, left, cnt, n, hrg, fun z hz zd => ?_, h3⟩, fun z hz => ?_⟩, hg, by rw [hrg.left_eq, h1.left_eq]⟩
  · rw [lookM_putM]
    by_cases e : x = z
    · subst e
      rw [if_pos rfl]
      exact atKey_put_same hisM hkl _ _
    · rw [if_neg e, atKey_put_other (fun e' => e (KE.inj hok hz e'.symm)) _ _]
      exact h2 z hz zd
  · rw [putM_keys, if_pos hx]
    exact h.sub z hz
end
/-! ### Dies as keys -/
theorem dieKey_type : Tryz.prog.keyType 24 = true := by kernel_rfl
theorem dieKey_types : ∃ n, Tryz.prog.types.size = n + 1 := ⟨Tryz.prog.types.size - 1, by kernel_rfl⟩
theorem dieKey_cells : Tryz.prog.cellsOf 24 = 2 ∧ Tryz.prog.cellsOf 3 = 1 := ⟨by kernel_rfl, by kernel_rfl⟩
theorem keyLits_one (d : Nat) (c : Value) (ls : List Lit) : Tryz.prog.keyLits (d + 1) 3 [c] = some ls ↔ ∃ n, wfI n ∧ c = .int .i64 n ∧ ls = [.int .i64 n] := by
  unfold Program.keyLits
  rw [Tryz.underlying3]
  constructor
  · intro h
    cases c <;> simp at h
    obtain ⟨⟨rfl, hw⟩, rfl⟩ := h
    exact ⟨_, hw, rfl, rfl⟩
  · rintro ⟨n, hw, rfl, rfl⟩
    simp [hw]
theorem keyLits_die (d : Nat) (c0 c1 : Value) (ls : List Lit) : Tryz.prog.keyLits (d + 1 + 1) 24 [c0, c1] = some ls ↔ ∃ s n, wfI s ∧ wfI n ∧ c0 = .int .i64 s ∧ c1 = .int .i64 n ∧ ls = [.int .i64 s, .int .i64 n] := by
  have h0 := fun c ls => keyLits_one d c ls
  unfold Program.keyLits
  rw [Tryz.underlying24]
  simp only [dieKey_cells.1, List.length_cons, List.length_nil]
  rw [if_pos ⟨trivial, by kernel_rfl⟩]
  simp only [List.mapM_cons, List.mapM_nil, dieKey_cells.2, List.drop_zero, List.drop_succ_cons, List.take_succ_cons, List.take_zero]
  constructor
  · intro h
    cases hA : Tryz.prog.keyLits (d + 1) 3 [c0] with
    | none => simp [hA] at h
    | some la =>
      cases hB : Tryz.prog.keyLits (d + 1) 3 [c1] with
      | none => simp [hA, hB] at h
      | some lb =>
        simp [hA, hB] at h
        obtain ⟨s, hs, e1, e2⟩ := (h0 c0 la).1 hA
        obtain ⟨n, hn, e3, e4⟩ := (h0 c1 lb).1 hB
        exact ⟨s, n, hs, hn, e1, e3, by rw [← h, e2, e4]; rfl⟩
  · rintro ⟨s, n, hs, hn, rfl, rfl, rfl⟩
    have e1 := (h0 (.int .i64 s) _).2 ⟨s, hs, rfl, rfl⟩
    have e2 := (h0 (.int .i64 n) _).2 ⟨n, hn, rfl, rfl⟩
    simp [e1, e2]
theorem two_of {cs : Array Value} (h : cs.size = 2) : ∃ c0 c1, cs = #[c0, c1] :=
  ⟨cs[0], cs[1], by
    apply Array.ext
    · simpa using h
    · intro i h1 h2
      simp at h2
      rcases (show i = 0 ∨ i = 1 by omega) with rfl | rfl <;> rfl⟩
theorem keyOf_die (v : Value) (l : Lit) : keyOf Tryz.prog 24 v = some l ↔ ∃ s n, wfI s ∧ wfI n ∧ v = .agg #[.int .i64 s, .int .i64 n] ∧ l = .string (keyBytes [.int .i64 s, .int .i64 n]) := by
  obtain ⟨N, hN⟩ : ∃ n, Tryz.prog.types.size = n + 1 := dieKey_types
  unfold keyOf
  rw [Tryz.underlying24]
  simp only [dieKey_type, Bool.true_and, hN]
  constructor
  · intro h
    split at h
    · rename_i hf
      cases v <;> simp [Value.formed, Tryz.underlying24] at hf
      rename_i cs
      obtain ⟨ls, h1, h2⟩ := Option.map_eq_some_iff.1 h
      rw [dieKey_cells.1] at hf
      obtain ⟨c0, c1, rfl⟩ := two_of hf
      obtain ⟨s, n, hs, hn, rfl, rfl, rfl⟩ := (keyLits_die N c0 c1 ls).1 h1
      exact ⟨s, n, hs, hn, rfl, h2.symm⟩
    · cases h
  · rintro ⟨s, n, hs, hn, rfl, rfl⟩
    have h1 := (keyLits_die N (.int .i64 s) (.int .i64 n) _).2 ⟨s, n, hs, hn, rfl, rfl, rfl⟩
    rw [if_pos (by simp [Value.formed, Tryz.underlying24, dieKey_cells.1])]
    exact congrArg (Option.map fun ls => Lit.string (keyBytes ls)) h1
def keyDie : KeyEnc Tryz.prog 24 Die where
  ok d := wfI d.side ∧ wfI d.num
  val d := .agg #[.int .i64 d.side, .int .i64 d.num]
  lit d := .string (keyBytes [.int .i64 d.side, .int .i64 d.num])
  keyed := Keyed.of_law (deep_law_laid (m := 3) (by kernel_rfl) (by decide) (of_decide_eq_true (by kernel_rfl)) (by kernel_rfl) (by rw [Tryz.underlying24]))
  key {x} hx := (keyOf_die _ _).2 ⟨x.side, x.num, hx.1, hx.2, rfl, rfl⟩
  inj {x y} hx hy e := by
    have K : Keyed Tryz.prog 24 := Keyed.of_law (deep_law_laid (m := 3) (by kernel_rfl) (by decide) (of_decide_eq_true (by kernel_rfl)) (by kernel_rfl) (by rw [Tryz.underlying24]))
    have h1 := (keyOf_die (.agg #[.int .i64 x.side, .int .i64 x.num]) _).2 ⟨x.side, x.num, hx.1, hx.2, rfl, rfl⟩
    have h2 := (keyOf_die (.agg #[.int .i64 y.side, .int .i64 y.num]) _).2 ⟨y.side, y.num, hy.1, hy.2, rfl, rfl⟩
    rw [← e] at h2
    have := K.inj h1 h2
    cases x; cases y
    simpa using this
  inv {v l} h := by
    obtain ⟨s, n, hs, hn, e1, e2⟩ := (keyOf_die v l).1 h
    exact ⟨⟨s, n⟩, ⟨hs, hn⟩, e1, e2⟩
abbrev wfD (d : Die) : Prop := wfI d.side ∧ wfI d.num
/-- A map from dies to numbers. -/
def MapD (w : World) (b : Nat) (m : List (Die × Int)) : Prop := MapAt (P := Tryz.prog) keyDie (elInt Tryz.underlying3 zInt) w b m
def RangeD (w : World) (b r : Nat) (m : List (Die × Int)) (todo : List Die) : Prop := RangeAt (P := Tryz.prog) keyDie (elInt Tryz.underlying3 zInt) w b r m todo
section
variable {w w' : World} {b : Nat} {m : List (Die × Int)}
theorem mapD_made (w : World) : MapD (w.alloc (.map #[] 0)) w.heap.size [] := mapAt_made w
theorem MapD.lt (h : MapD w b m) : b < w.heap.size := MapAt.lt h
theorem MapD.below (h : MapD w b m) (hb : Below w.heap.size w w') : MapD w' b m := MapAt.below h hb
theorem MapD.kept {row : Option Nat} (h : MapD w b m) (hg : w.grownBy w' row) (hne : some b ≠ row) : MapD w' b m := MapAt.kept h hg hne
theorem MapD.good (h : MapD w b m) : ∀ p ∈ m, wfD p.1 ∧ wfI p.2 := MapAt.good h
theorem MapD.nodup (h : MapD w b m) : (m.map Prod.fst).Nodup := MapAt.nodup h
theorem MapD.look (h : MapD w b m) {x : Die} (hx : wfD x) : (Instr.lookup 70 (.map (some b)) (.agg #[.int .i64 x.side, .int .i64 x.num]) false).run Tryz.prog w = .ok (.int .i64 ((lookM m x).getD 0)) w :=
  MapAt.look h Tryz.underlying70 hx
theorem MapD.look_ok (h : MapD w b m) {x : Die} (hx : wfD x) : (Instr.lookup 70 (.map (some b)) (.agg #[.int .i64 x.side, .int .i64 x.num]) true).run Tryz.prog w = .ok (.tuple #[.int .i64 ((lookM m x).getD 0), .bool (lookM m x).isSome]) w :=
  MapAt.look_ok h Tryz.underlying70 hx
theorem MapD.put (h : MapD w b m) {x : Die} {y : Int} (hx : wfD x) (hy : wfI y) (hn : m.length < maxLen) :
    ∃ w', (Instr.mapUpdate 70 (.map (some b)) (.agg #[.int .i64 x.side, .int .i64 x.num]) (.int .i64 y)).run Tryz.prog w = .ok () w' ∧ MapD w' b (putM m x y) ∧ w.grownBy w' (some b) :=
  MapAt.put h Tryz.underlying70 hx hy hn
end
end Go.Proofs.YtgpbdembjdileaaGreatDoor
