/- specimen.Valid and specimen.Check. Condition: the argument reads as a list of specimens. -/
import Derived.Test.YtikfffojeakjoaaGreatDoorLib2
import Derived.Maps.Own
import Derived.Maps.Views
import Derived.Test.YtikfffojeakjoaaGreatDoorShelf
import Derived.Test.YtikfffojeakjoaaGreatDoorIter
import Derived.Test.YtikfffojeakjoaaGreatDoorOwn
namespace Go.Proofs.YtikfffojeakjoaaGreatDoor
open Go.RowKit Go.Maps

set_option maxHeartbeats 400000 in
theorem in_ok (n lo hi : Int) (w : World) : Calls Tryz.prog 83 #[.int .i64 n, .int .i64 lo, .int .i64 hi] w fun e w' => e = .returned (.bool (inB n lo hi)) ∧ w = w' := by
  by_cases h1 : lo ≤ n
  · have hd : decide (lo ≤ n) = true := by simpa using h1
    go_enter Tryz.func83, Tryz.ntmps83
    go_wp2
    go_ret
    exact ⟨ret_bool (by simp [inB, h1]), rfl⟩
  · have hd : decide (lo ≤ n) = false := by simpa using h1
    go_enter Tryz.func83, Tryz.ntmps83
    go_wp2
    go_ret
    exact ⟨ret_bool (by simp only [inB, hd, Bool.false_and]), rfl⟩

set_option maxHeartbeats 1000000 in
theorem SValid_ok (s : Spec) (w : World) : Calls Tryz.prog 52 #[.agg #[.int .i64 s.id, .int .i64 s.obv, .int .i64 s.rev, .int .i64 s.os, .int .i64 s.rs, .int .i64 s.ax, .int .i64 s.wt]] w
    fun e w' => e = .returned (.bool (specB s)) ∧ Below w.heap.size w w' := by
  go_enter Tryz.func52, Tryz.ntmps52
  go_wp2_with (go_at_call 83; refine (in_ok _ _ _ _).mono ?_; rintro e w' ⟨rfl, rfl⟩)
  all_goals
    go_ret
    exact ⟨ret_bool (by simp [specB, *]), (Below.refl _ _).alloc (Nat.le_refl _) _⟩

theorem wf_small {x : Int} (h0 : 0 ≤ x) (h1 : x ≤ 1000000) : (Lit.int .i64 x).wf = true := by
  have e1 : IntKind.i64.min = -9223372036854775808 := by decide
  have e2 : IntKind.i64.max = 9223372036854775807 := by decide
  simp only [Lit.wf, Bool.and_eq_true, decide_eq_true_eq, e1, e2]
  omega
theorem plainElem_bool_inv {H : Type} {P : Program} {e : TypeId} (he : P.underlying e = some .bool) {v : Value} {x : Bool} {ps : List MemPlace} (h : plainElem (H := H) P e v = some (.lit (.bool x), ps)) : v = .bool x := by
  unfold plainElem at h
  rw [he] at h
  cases v <;> simp at h
  rw [h.1]

/-- The map of the numbers seen. -/
def Seen (w : World) (b n : Nat) (ids : List Int) : Prop :=
  ∃ D : DataW Unit, w.ownsMap Tryz.prog 3 (plainElem Tryz.prog 4) b n D ∧ IsMap D ∧ ∀ x, (Lit.int .i64 x).wf = true → D.atKey (.int .i64 x) (.lit (.bool false)) = .lit (.bool (decide (x ∈ ids)))
theorem seen_made (w : World) : Seen (w.alloc (.map #[] 0)) w.heap.size 0 [] := ⟨_, World.ownsMap_made _ _ _ _, isMap_empty, fun x _ => by simp [DataW.atKey]⟩
theorem Seen.below {w w' : World} {b n : Nat} {ids : List Int} (h : Seen w b n ids) (hb : Below w.heap.size w w') : Seen w' b n ids := by
  obtain ⟨D, h1, h2, h3⟩ := h
  exact ⟨D, h1.kept (row := none) ⟨hb.os, hb.tape, hb.output, hb.size, fun i hi _ => hb.block i hi⟩ (by simp), h2, h3⟩
theorem Seen.look {w : World} {b n : Nat} {ids : List Int} (h : Seen w b n ids) {x : Int} (hx : (Lit.int .i64 x).wf = true) : (Instr.lookup 123 (.map (some b)) (.int .i64 x) false).run Tryz.prog w = .ok (.bool (decide (x ∈ ids))) w := by
  obtain ⟨D, h1, h2, h3⟩ := h
  obtain ⟨v, ps, hr, hv⟩ := h1.lookup (int_keyed Tryz.underlying3) Tryz.underlying123 (z := .bool false) (by kernel_rfl) (plainElem_bool Tryz.underlying4 false) (keyOf_int_mk Tryz.underlying3 hx)
  rw [h3 x hx] at hv
  rw [plainElem_bool_inv Tryz.underlying4 hv] at hr
  exact hr
theorem Seen.put {w : World} {b n : Nat} {ids : List Int} (h : Seen w b n ids) {x : Int} (hx : (Lit.int .i64 x).wf = true) (hn : n < maxLen) :
    ∃ w', (Instr.mapUpdate 123 (.map (some b)) (.int .i64 x) (.bool true)).run Tryz.prog w = .ok () w' ∧ Seen w' b (n + 1) (ids ++ [x]) ∧ w.grownBy w' (some b) := by
  obtain ⟨D, h1, h2, h3⟩ := h
  obtain ⟨w', hr, ho, hg⟩ := h1.update (int_keyed Tryz.underlying3) Tryz.underlying123 hn (keyOf_int_mk Tryz.underlying3 hx) (plainElem_bool Tryz.underlying4 true)
  refine ⟨w', hr, ⟨_, ho, h2.put _ _, fun y hy => ?_⟩, hg⟩
  by_cases e : y = x
  · subst e
    rw [atKey_put_same h2 (by trivial)]
    simp
  · rw [atKey_put_other (by simpa using e), h3 y hy]
    simp [e]

def dupB (l : List Spec) : Bool := !decide (l.map Spec.id).Nodup
theorem dup_snoc (l : List Spec) (s : Spec) : dupB (l ++ [s]) = (dupB l || decide (s.id ∈ l.map Spec.id)) := by
  unfold dupB
  rw [Bool.eq_iff_iff]
  simp only [List.map_append, List.nodup_append, List.map_cons, List.map_nil, Bool.not_eq_true', decide_eq_false_iff_not, Bool.or_eq_true, decide_eq_true_eq]
  simp
  grind

set_option maxHeartbeats 2000000 in
theorem SCheck_ok (v : Value) (l : List Spec) (w : World) (h : Specs w v l) :
    Calls Tryz.prog 29 #[v] w fun e w' => e = .returned (.int .i64 (checkE l)) ∧ Below w.heap.size w w' := by
  obtain ⟨A, c, rfl, h1, h2, hc⟩ := h.cells
  have hmm := @run_makeMap Tryz.prog
  by_cases hf : 64 < l.length
  · have hd : decide ((64 : Int) < (l.length : Int)) = true := by simp; omega
    go_enter Tryz.func29, Tryz.ntmps29
    go_wp2
    go_ret
    exact ⟨ret_i64 (checkE_full hf).symm, Below.refl _ _⟩
  · have hd : decide ((64 : Int) < (l.length : Int)) = false := by simp; omega
    go_enter Tryz.func29, Tryz.ntmps29
    go_wp2
    go_loopw [4, 13] (fun tw i wr => ∃ k : Nat, k ≤ l.length ∧ i = .int .i64 k ∧ (l.take k).all specB = true ∧ tw = .bool (dupB (l.take k)) ∧ Seen wr w.heap.size k ((l.take k).map Spec.id) ∧ Below w.heap.size w wr) (fun _ i _ => l.length - (intOf i).toNat)
    case atStart => exact ⟨0, Nat.zero_le _, rfl, by simp, by simp [dupB], seen_made _, (Below.refl _ _).alloc (Nat.le_refl _) _⟩
    case round =>
      clear hmm
      obtain ⟨k, hk, rfl, hr, rfl, hs, hb⟩ := hrel
      have Hr := Lib.hid hr; clear hr
      by_cases hlt : k < l.length
      · obtain ⟨b, o, rfl, _, hc⟩ := hc k hlt
        obtain ⟨s, hs'⟩ := get_of_lt hlt
        obtain ⟨c0, c1, c2, c3, c4, c5, c6⟩ := hc wr hb k s hs'
        have Hs := Lib.hid hs'; clear hs' hc
        have hbs := hb.size
        obtain ⟨W1, hW1, Hz1, hb1, hlt1, hc1⟩ := boxed wr #[.int .i64 s.id, .int .i64 s.obv, .int .i64 s.rev, .int .i64 s.os, .int .i64 s.rs, .int .i64 s.ax, .int .i64 s.wt] 27
        have m0 := hc1 0 _ rfl; have m1 := hc1 1 _ rfl; have m2 := hc1 2 _ rfl; have m3 := hc1 3 _ rfl; have m4 := hc1 4 _ rfl; have m5 := hc1 5 _ rfl; have m6 := hc1 6 _ rfl
        clear hc1
        go_wp2_with fail
        refine (SValid_ok s _).mono ?_
        rintro e w1 ⟨rfl, hb2⟩
        have hb3 := below_trans hb1 hb2
        have n0 := (hb2.cell (p := ⟨wr.heap.size, 0, none⟩) hlt1).trans m0
        have n1 := (hb2.cell (p := ⟨wr.heap.size, 1, none⟩) hlt1).trans m1
        clear m0 m1 m2 m3 m4 m5 m6
        cases hv : specB s
        · go_wp2_with fail
          go_ret
          exact ⟨ret_i64 (checkE_arg hf Hs.out hv).symm, below_trans hb hb3⟩
        have hv' := hv
        simp only [specB, inB, Bool.and_eq_true, decide_eq_true_eq] at hv'
        have hwf : (Lit.int .i64 s.id).wf = true := wf_small (by omega) (by omega)
        clear hv'
        have hs1 := hs.below hb3
        have hlk := hs1.look hwf
        obtain ⟨w2, hup, hs2, hg2⟩ := hs1.put hwf (show k < maxLen by simp only [maxLen]; omega)
        have hds := dup_snoc (l.take k) s
        rw [← take_snoc' Hs.out] at hds
        rw [← map_take_snoc Spec.id Hs.out] at hs2
        have hB2 : Below w.heap.size w w2 := (below_trans hb hb3).grown hg2 (below_trans hb hb3).size (fun j e => by cases e; exact Nat.le_refl _)
        have Hds := Lib.hid hds; have Hs2 := Lib.hid hs2; clear hds hs2 hs hs1 hg2
        cases hdu : dupB (l.take k)
        · cases hin : decide (s.id ∈ (l.take k).map Spec.id)
          · rw [hin] at hlk
            go_wp2_with fail
            refine ⟨?rel, ?measure⟩
            case rel => exact ⟨k + 1, by omega, by go_num, all_snoc Hs.out Hr.out hv, by rw [Hds.out, hdu, hin]; rfl, Hs2.out, hB2⟩
            case measure => simp [intOf]; omega
          · rw [hin] at hlk
            go_wp2_with fail
            refine ⟨?rel, ?measure⟩
            case rel => exact ⟨k + 1, by omega, by go_num, all_snoc Hs.out Hr.out hv, by rw [Hds.out, hdu, hin]; rfl, Hs2.out, hB2⟩
            case measure => simp [intOf]; omega
        · go_wp2_with fail
          refine ⟨?rel, ?measure⟩
          case rel => exact ⟨k + 1, by omega, by go_num, all_snoc Hs.out Hr.out hv, by rw [Hds.out, hdu]; rfl, Hs2.out, hB2⟩
          case measure => simp [intOf]; omega
      · have Ha := Lib.hid (all_end hlt Hr.out)
        have e1 : l.take k = l := List.take_of_length_le (by omega)
        rw [e1] at hs ⊢
        clear Hr e1
        cases hdu : dupB l
        · go_wp2
          go_ret
          exact ⟨ret_i64 (checkE_ok hf Ha.out (by simpa [dupB] using hdu)).symm, hb⟩
        · go_wp2
          go_ret
          refine ⟨ret_i64 ?_, hb⟩
          have : ¬ (l.map Spec.id).Nodup := by simpa [dupB] using hdu
          simp only [checkE, if_neg hf, if_pos Ha.out, if_neg this]
end Go.Proofs.YtikfffojeakjoaaGreatDoor
/- specimen.Sort. Condition: the argument reads as a list of specimens. -/
namespace Go.Proofs.YtikfffojeakjoaaGreatDoor
open Go.RowKit Go.Shelf

instance : Inhabited Spec := ⟨⟨0, 0, 0, 0, 0, 0, 0⟩⟩
def cmpS (x y : Spec) : Int := Lib.compareInt x.id y.id
theorem cmpS_lt (x y : Spec) : ltOf cmpS x y = decide (x.id < y.id) := by
  unfold ltOf cmpS Lib.compareInt
  by_cases h1 : x.id < y.id
  · simp [h1]
  · by_cases h2 : y.id < x.id <;> simp [h1, h2]
theorem cmpS_swo : Go.Sort.SWO (ltOf cmpS) where
  irrefl x := by rw [cmpS_lt]; simp
  trans x y z h1 h2 := by rw [cmpS_lt] at *; simp at *; omega
  ntrans x y z h1 h2 := by rw [cmpS_lt] at *; simp at *; omega

set_option maxHeartbeats 1000000 in
theorem cmpS_ok (x y : Spec) (W : World) : Calls Tryz.prog 95 #[valS x, valS y] W fun e w' => e = .returned (.int .i64 (cmpS x y)) ∧ ∃ q os', w' = Go.Sort.grow (W.drewN q) os' := by
  have hcon := fun W' => AnyG.cmp_Compare_int Tryz.layCmp x.id y.id W'
  change ∀ W', Calls Tryz.prog 20 _ _ _ at hcon
  unfold cmpS
  generalize Lib.compareInt x.id y.id = r at hcon ⊢
  go_enter Tryz.func95, Tryz.ntmps95
  go_wp2_with (go_at_call 20; refine (hcon _).mono ?_; rintro e w' ⟨rfl, rfl⟩)
  go_ret
  exact ⟨rfl, 0, _, by rw [Go.Sort.alloc_eq_grow, Go.Sort.alloc_eq_grow, Go.Sort.grow_grow]; rfl⟩
theorem cmpS_lays (blk off size : Nat) (w : World) : CmpLays Tryz.prog 95 #[] encS 7 cmpS blk off size w := fun _ _ _ _ x y => cmpS_ok x y _

/-- zs is l by Id. -/
def ById (l zs : List Spec) : Prop := zs.Perm l ∧ zs.Pairwise fun a b => a.id ≤ b.id
theorem byId_of {zs : List Spec} {d' : Array Spec} (hp : Go.Sort.PermIn 0 zs.toArray.size zs.toArray d') (hs : Go.Sort.SortedIn (ltOf cmpS) 0 zs.toArray.size d') : ById zs d'.toList ∧ d'.toList.length = zs.length := by
  obtain ⟨hsz, _, hperm⟩ := hp
  rw [← hsz, Array.extract_size, hsz, Array.extract_size] at hperm
  have hl : d'.size = zs.length := by simpa using hsz
  refine ⟨⟨by simpa using hperm, ?_⟩, by simpa using hl⟩
  rw [List.pairwise_iff_getElem]
  intro i j hi hj hij
  have hi' : i < d'.size := by simpa using hi
  have hj' : j < d'.size := by simpa using hj
  have := hs i j (Nat.zero_le _) hij (by rw [← hsz]; exact hj')
  rw [cmpS_lt, getElem!_pos d' i hi', getElem!_pos d' j hj'] at this
  simp at this
  simpa using this

set_option maxHeartbeats 2000000 in
theorem sortFuncS_ok (B : Nat) (v : Value) (zs : List Spec) (w : World) (h : OwnS B w v zs) (hB : B ≤ w.heap.size) (hn : zs.length ≤ 1048576) :
    Calls Tryz.prog 107 #[v, .func (.func 95) #[] #[]] w fun e w' => e = .returned (.tuple #[]) ∧ ∃ ys, OwnS B w' v ys ∧ ById zs ys ∧ Below B w w' := by
  have eg : ∀ args w, (callFunc 95 args).run Tryz.prog w = .ok (.enter 95 args) w := enters_of Tryz.func95 (by kernel_rfl) rfl
  rcases h.cases with ⟨rfl, rfl⟩ | ⟨g, cap, rfl, hg, hgw, _, _⟩
  · refine (show Calls Tryz.prog 107 _ w _ from AnyF.slices_SortFunc_none Tryz.laySortS none 0 _ w).mono ?_
    rintro e w' ⟨rfl, rfl⟩
    exact ⟨rfl, [], h, ⟨List.Perm.refl _, List.Pairwise.nil⟩, Below.refl _ _⟩
  · have hH := h.holdsK rfl lenS
    refine (show Calls Tryz.prog 107 _ w _ from AnyQ.slices_SortFunc Tryz.laySortS 7 Tryz.isAgg27 Tryz.sizeOf27 encS lenS oneS cmpS cmpS_swo 95 #[] g 0 cap zs.toArray w eg (cmpS_lays g 0 _ w) hH hgw (by simp; omega)).mono ?_
    rintro e w' ⟨rfl, d', n, os, hp, hs, rfl⟩
    obtain ⟨hby, hl⟩ := byId_of hp hs
    exact ⟨rfl, d'.toList, h.sorted rfl lenS hl, hby, (Below.refl B w).grown (Own.grown encS 7 (ys := d'.toList)) hB (fun k e => by cases e; exact hg)⟩

set_option maxHeartbeats 2000000 in
theorem sortedFuncS_ok (Bs : Nat) (A : Option Addr) (c : Nat) (zs : List Spec) (hlen : zs.length ≤ 1048576) (w0 w : World) (hb : Below w0.heap.size w0 w) (hBs : Bs < w.heap.size)
    (hc : w.cell? ⟨Bs, 0, none⟩ = some (.slice A zs.length c)) (hS : Specs w0 (.slice A zs.length c) zs) :
    Calls Tryz.prog 93 #[.func (.func 108) #[] #[.pointer (some ⟨Bs, 0, none⟩)], .func (.func 95) #[] #[]] w fun e W' =>
      ∃ v ys, e = .returned v ∧ OwnS w.heap.size W' v ys ∧ ById zs ys ∧ Below w.heap.size w W' := by
  have h := collectS_ok Bs A c zs hlen w0 w hb hBs hc hS
  clear hc
  go_enter Tryz.func93, Tryz.ntmps93
  go_wp2_with (first
    | (go_at_call 106; refine h.mono ?_; rintro e W' ⟨v, rfl, ho, hb1⟩)
    | (go_at_call 107; refine (sortFuncS_ok _ v zs _ ho hb1.size hlen).mono ?_; rintro e W2 ⟨rfl, ys, ho2, hby, hb2⟩))
  go_ret
  exact ⟨v, ys, rfl, ho2, hby, hb1.trans hb2⟩

set_option maxHeartbeats 2000000 in
theorem sorted_ok (v : Value) (zs : List Spec) (w : World) (h : Specs w v zs) (hlen : zs.length ≤ 1048576) :
    Calls Tryz.prog 72 #[v] w fun e W' => ∃ v ys, e = .returned v ∧ OwnS w.heap.size W' v ys ∧ ById zs ys ∧ Below w.heap.size w W' := by
  obtain ⟨A, c, rfl, h1, h2, hc⟩ := h.cells
  clear hc
  have hb : Below w.heap.size w (w.alloc (.cells #[.slice A zs.length c] 22)) := (Below.refl _ _).alloc (Nat.le_refl _) _
  have hk := sortedFuncS_ok w.heap.size A c zs hlen w (w.alloc (.cells #[.slice A zs.length c] 22)) hb (by simp) (by simp) h
  go_enter Tryz.func72, Tryz.ntmps72
  go_wp2_with (first
    | (go_at_call 94; refine (valuesS_ok _ _ _ _).mono ?_; rintro e W' ⟨rfl, rfl⟩)
    | (go_at_call 93; refine hk.mono ?_; rintro e W2 ⟨v, ys, rfl, ho2, hby, hb2⟩))
  go_ret
  refine ⟨v, ys, rfl, ?_, hby, below_trans hb hb2⟩
  exact ho2.base (by simp)

set_option maxHeartbeats 2000000 in
theorem Sort_ok (v : Value) (l : List Spec) (w : World) (h : Specs w v l) :
    Calls Tryz.prog 38 #[v] w fun e W' => ∃ v ys, e = .returned (.tuple #[v, .int .i64 (checkE l)]) ∧ OwnS w.heap.size W' v ys ∧ (checkE l = 0 → ById l ys) ∧ Below w.heap.size w W' := by
  by_cases hE : checkE l = 0
  · have hd : (checkE l != 0) = false := by simp [hE]
    have hlen : l.length ≤ 1048576 := by
      have : ¬ 64 < l.length := fun hf => by rw [checkE_full hf] at hE; cases hE
      omega
    have HE := Lib.hid hE; clear hE
    go_enter Tryz.func38, Tryz.ntmps38
    go_wp2_with (first
      | (go_at_call 29; refine (SCheck_ok _ _ _ h).mono ?_; rintro e w1 ⟨rfl, hb1⟩)
      | (go_at_call 72; refine (sorted_ok _ _ _ (h.below hb1) hlen).mono ?_; rintro e W2 ⟨u, ys, rfl, ho2, hby, hb2⟩))
    go_ret2
    exact ⟨u, ys, by have := HE.out; simp [this], ho2.base hb1.size, fun _ => hby, below_trans hb1 hb2⟩
  · have hd : (checkE l != 0) = true := by simp [hE]
    have HE := Lib.hid hE; clear hE
    go_enter Tryz.func38, Tryz.ntmps38
    go_wp2_with (go_at_call 29; refine (SCheck_ok _ _ _ h).mono ?_; rintro e w1 ⟨rfl, hb1⟩)
    go_ret2
    exact ⟨_, [], rfl, own_nil _ _ _ _ _, fun e => absurd e HE.out, hb1⟩
end Go.Proofs.YtikfffojeakjoaaGreatDoor
