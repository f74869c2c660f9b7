/- specimen.Valid and specimen.Check. Condition: the argument reads as a list of specimens. -/
import Derived.Test.YthnckicnnhkkaaaGreatBase
import Derived.Maps.Own
import Derived.Maps.Views
import Derived.Test.YthnckicnnhkkaaaGreatShelf
import Derived.Test.YthnckicnnhkkaaaGreatIter
import Derived.Test.YthnckicnnhkkaaaGreatOwn
import Derived.Test.YthnckicnnhkkaaaGreatLinkA
import Derived.Test.YthnckicnnhkkaaaGreatRefA
namespace Go.Proofs.YthnckicnnhkkaaaGreat
open Go.RowKit Go.Maps

set_option maxHeartbeats 400000 in
theorem in_ok (n lo hi : Int) (w : World) : Calls Tryz.prog 118 #[.int .i64 n, .int .i64 lo, .int .i64 hi] w fun e w' => e = .returned (.bool (inB n lo hi)) ∧ w = w' := by
  by_cases h1 : lo ≤ n
  · have hd : decide (lo ≤ n) = true := by simpa using h1
    go_enter Tryz.func118, Tryz.ntmps118
    go_wp2
    go_ret
    exact ⟨ret_bool (by simp [inB, h1]), rfl⟩
  · have hd : decide (lo ≤ n) = false := by simpa using h1
    go_enter Tryz.func118, Tryz.ntmps118
    go_wp2
    go_ret
    exact ⟨ret_bool (by simp only [inB, hd, Bool.false_and]), rfl⟩

set_option maxHeartbeats 1000000 in
theorem SValid_ok (s : Spec) (w : World) : Calls Tryz.prog 69 #[.agg #[.int .i64 s.id, .int .i64 s.obv, .int .i64 s.rev, .int .i64 s.os, .int .i64 s.rs, .int .i64 s.ax, .int .i64 s.wt]] w
    fun e w' => e = .returned (.bool (specB s)) ∧ Below w.heap.size w w' := by
  go_enter Tryz.func69, Tryz.ntmps69
  go_wp2_with (go_at_call 118; refine (in_ok _ _ _ _).mono ?_; rintro e w' ⟨rfl, rfl⟩)
  all_goals
    go_ret
    exact ⟨ret_bool (by simp [specB, *]), (Below.refl _ _).alloc (Nat.le_refl _) _⟩

theorem wf_small {x : Int} (h0 : 0 ≤ x) (h1 : x ≤ 1000000) : (Lit.int .i64 x).wf = true := by
  have e1 : IntKind.i64.min = -9223372036854775808 := by decide
  have e2 : IntKind.i64.max = 9223372036854775807 := by decide
  simp only [Lit.wf, Bool.and_eq_true, decide_eq_true_eq, e1, e2]
  omega
theorem plainElem_bool_inv {H : Type} {P : Program} {e : TypeId} (he : P.underlying e = some .bool) {v : Value} {x : Bool} {ps : List MemPlace} (h : plainElem (H := H) P e v = some (.lit (.bool x), ps)) : v = .bool x := by
  unfold plainElem at h
  rw [he] at h
  cases v <;> simp at h
  rw [h.1]

/-- The map of the numbers seen. -/
def Seen (w : World) (b n : Nat) (ids : List Int) : Prop :=
  ∃ D : DataW Unit, w.ownsMap Tryz.prog 3 (plainElem Tryz.prog 4) b n D ∧ IsMap D ∧ ∀ x, (Lit.int .i64 x).wf = true → D.atKey (.int .i64 x) (.lit (.bool false)) = .lit (.bool (decide (x ∈ ids)))
theorem seen_made (w : World) : Seen (w.alloc (.map #[] 0)) w.heap.size 0 [] := ⟨_, World.ownsMap_made _ _ _ _, isMap_empty, fun x _ => by simp [DataW.atKey]⟩
theorem Seen.below {w w' : World} {b n : Nat} {ids : List Int} (h : Seen w b n ids) (hb : Below w.heap.size w w') : Seen w' b n ids := by
  obtain ⟨D, h1, h2, h3⟩ := h
  exact ⟨D, h1.kept (row := none) ⟨hb.os, hb.tape, hb.output, hb.size, fun i hi _ => hb.block i hi⟩ (by simp), h2, h3⟩
theorem Seen.look {w : World} {b n : Nat} {ids : List Int} (h : Seen w b n ids) {x : Int} (hx : (Lit.int .i64 x).wf = true) : (Instr.lookup 237 (.map (some b)) (.int .i64 x) false).run Tryz.prog w = .ok (.bool (decide (x ∈ ids))) w := by
  obtain ⟨D, h1, h2, h3⟩ := h
  obtain ⟨v, ps, hr, hv⟩ := h1.lookup (int_keyed Tryz.underlying3) Tryz.underlying237 (z := .bool false) (by kernel_rfl) (plainElem_bool Tryz.underlying4 false) (keyOf_int_mk Tryz.underlying3 hx)
  rw [h3 x hx] at hv
  rw [plainElem_bool_inv Tryz.underlying4 hv] at hr
  exact hr
theorem Seen.put {w : World} {b n : Nat} {ids : List Int} (h : Seen w b n ids) {x : Int} (hx : (Lit.int .i64 x).wf = true) (hn : n < maxLen) :
    ∃ w', (Instr.mapUpdate 237 (.map (some b)) (.int .i64 x) (.bool true)).run Tryz.prog w = .ok () w' ∧ Seen w' b (n + 1) (ids ++ [x]) ∧ w.grownBy w' (some b) := by
  obtain ⟨D, h1, h2, h3⟩ := h
  obtain ⟨w', hr, ho, hg⟩ := h1.update (int_keyed Tryz.underlying3) Tryz.underlying237 hn (keyOf_int_mk Tryz.underlying3 hx) (plainElem_bool Tryz.underlying4 true)
  refine ⟨w', hr, ⟨_, ho, h2.put _ _, fun y hy => ?_⟩, hg⟩
  by_cases e : y = x
  · subst e
    rw [atKey_put_same h2 (by trivial)]
    simp
  · rw [atKey_put_other (by simpa using e), h3 y hy]
    simp [e]

def dupB (l : List Spec) : Bool := !decide (l.map Spec.id).Nodup
theorem dup_snoc (l : List Spec) (s : Spec) : dupB (l ++ [s]) = (dupB l || decide (s.id ∈ l.map Spec.id)) := by
  unfold dupB
  rw [Bool.eq_iff_iff]
  simp only [List.map_append, List.nodup_append, List.map_cons, List.map_nil, Bool.not_eq_true', decide_eq_false_iff_not, Bool.or_eq_true, decide_eq_true_eq]
  simp
  grind

set_option maxHeartbeats 2000000 in
theorem SCheck_ok (v : Value) (l : List Spec) (w : World) (h : Specs w v l) :
    Calls Tryz.prog 157 #[v] w fun e w' => e = .returned (.int .i64 (checkE l)) ∧ Below w.heap.size w w' := by
  obtain ⟨A, c, rfl, h1, h2, hc⟩ := h.cells
  have hmm := @run_makeMap Tryz.prog
  by_cases hf : 64 < l.length
  · have hd : decide ((64 : Int) < (l.length : Int)) = true := by simp; omega
    go_enter Tryz.func157, Tryz.ntmps157
    go_wp2
    go_ret
    exact ⟨ret_i64 (checkE_full hf).symm, Below.refl _ _⟩
  · have hd : decide ((64 : Int) < (l.length : Int)) = false := by simp; omega
    go_enter Tryz.func157, Tryz.ntmps157
    go_wp2
    go_loopw [4, 13] (fun tw i wr => ∃ k : Nat, k ≤ l.length ∧ i = .int .i64 k ∧ (l.take k).all specB = true ∧ tw = .bool (dupB (l.take k)) ∧ Seen wr w.heap.size k ((l.take k).map Spec.id) ∧ Below w.heap.size w wr) (fun _ i _ => l.length - (intOf i).toNat)
    case atStart => exact ⟨0, Nat.zero_le _, rfl, by simp, by simp [dupB], seen_made _, (Below.refl _ _).alloc (Nat.le_refl _) _⟩
    case round =>
      clear hmm
      obtain ⟨k, hk, rfl, hr, rfl, hs, hb⟩ := hrel
      have Hr := Lib.hid hr; clear hr
      by_cases hlt : k < l.length
      · obtain ⟨b, o, rfl, _, hc⟩ := hc k hlt
        obtain ⟨s, hs'⟩ := get_of_lt hlt
        obtain ⟨c0, c1, c2, c3, c4, c5, c6⟩ := hc wr hb k s hs'
        have Hs := Lib.hid hs'; clear hs' hc
        have hbs := hb.size
        obtain ⟨W1, hW1, Hz1, hb1, hlt1, hc1⟩ := boxed wr #[.int .i64 s.id, .int .i64 s.obv, .int .i64 s.rev, .int .i64 s.os, .int .i64 s.rs, .int .i64 s.ax, .int .i64 s.wt] 31
        have m0 := hc1 0 _ rfl; have m1 := hc1 1 _ rfl; have m2 := hc1 2 _ rfl; have m3 := hc1 3 _ rfl; have m4 := hc1 4 _ rfl; have m5 := hc1 5 _ rfl; have m6 := hc1 6 _ rfl
        clear hc1
        go_wp2_with fail
        refine (SValid_ok s _).mono ?_
        rintro e w1 ⟨rfl, hb2⟩
        have hb3 := below_trans hb1 hb2
        have n0 := (hb2.cell (p := ⟨wr.heap.size, 0, none⟩) hlt1).trans m0
        have n1 := (hb2.cell (p := ⟨wr.heap.size, 1, none⟩) hlt1).trans m1
        clear m0 m1 m2 m3 m4 m5 m6
        cases hv : specB s
        · go_wp2_with fail
          go_ret
          exact ⟨ret_i64 (checkE_arg hf Hs.out hv).symm, below_trans hb hb3⟩
        have hv' := hv
        simp only [specB, inB, Bool.and_eq_true, decide_eq_true_eq] at hv'
        have hwf : (Lit.int .i64 s.id).wf = true := wf_small (by omega) (by omega)
        clear hv'
        have hs1 := hs.below hb3
        have hlk := hs1.look hwf
        obtain ⟨w2, hup, hs2, hg2⟩ := hs1.put hwf (show k < maxLen by simp only [maxLen]; omega)
        have hds := dup_snoc (l.take k) s
        rw [← take_snoc' Hs.out] at hds
        rw [← map_take_snoc Spec.id Hs.out] at hs2
        have hB2 : Below w.heap.size w w2 := (below_trans hb hb3).grown hg2 (below_trans hb hb3).size (fun j e => by cases e; exact Nat.le_refl _)
        have Hds := Lib.hid hds; have Hs2 := Lib.hid hs2; clear hds hs2 hs hs1 hg2
        cases hdu : dupB (l.take k)
        · cases hin : decide (s.id ∈ (l.take k).map Spec.id)
          · rw [hin] at hlk
            go_wp2_with fail
            refine ⟨?rel, ?measure⟩
            case rel => exact ⟨k + 1, by omega, by go_num, all_snoc Hs.out Hr.out hv, by rw [Hds.out, hdu, hin]; rfl, Hs2.out, hB2⟩
            case measure => simp [intOf]; omega
          · rw [hin] at hlk
            go_wp2_with fail
            refine ⟨?rel, ?measure⟩
            case rel => exact ⟨k + 1, by omega, by go_num, all_snoc Hs.out Hr.out hv, by rw [Hds.out, hdu, hin]; rfl, Hs2.out, hB2⟩
            case measure => simp [intOf]; omega
        · go_wp2_with fail
          refine ⟨?rel, ?measure⟩
          case rel => exact ⟨k + 1, by omega, by go_num, all_snoc Hs.out Hr.out hv, by rw [Hds.out, hdu]; rfl, Hs2.out, hB2⟩
          case measure => simp [intOf]; omega
      · have Ha := Lib.hid (all_end hlt Hr.out)
        have e1 : l.take k = l := List.take_of_length_le (by omega)
        rw [e1] at hs ⊢
        clear Hr e1
        cases hdu : dupB l
        · go_wp2
          go_ret
          exact ⟨ret_i64 (checkE_ok hf Ha.out (by simpa [dupB] using hdu)).symm, hb⟩
        · go_wp2
          go_ret
          refine ⟨ret_i64 ?_, hb⟩
          have : ¬ (l.map Spec.id).Nodup := by simpa [dupB] using hdu
          simp only [checkE, if_neg hf, if_pos Ha.out, if_neg this]
end Go.Proofs.YthnckicnnhkkaaaGreat
/- specimen.Sort. Condition: the argument reads as a list of specimens. -/
namespace Go.Proofs.YthnckicnnhkkaaaGreat
open Go.RowKit Go.Shelf

instance : Inhabited Spec := ⟨⟨0, 0, 0, 0, 0, 0, 0⟩⟩
def cmpS (x y : Spec) : Int := Lib.compareInt x.id y.id
theorem cmpS_lt (x y : Spec) : ltOf cmpS x y = decide (x.id < y.id) := by
  unfold ltOf cmpS Lib.compareInt
  by_cases h1 : x.id < y.id
  · simp [h1]
  · by_cases h2 : y.id < x.id <;> simp [h1, h2]
theorem cmpS_swo : Go.Sort.SWO (ltOf cmpS) where
  irrefl x := by rw [cmpS_lt]; simp
  trans x y z h1 h2 := by rw [cmpS_lt] at *; simp at *; omega
  ntrans x y z h1 h2 := by rw [cmpS_lt] at *; simp at *; omega

set_option maxHeartbeats 1000000 in
theorem cmpS_ok (x y : Spec) (W : World) : Calls Tryz.prog 210 #[valS x, valS y] W fun e w' => e = .returned (.int .i64 (cmpS x y)) ∧ ∃ q os', w' = Go.Sort.grow (W.drewN q) os' := by
  have hcon := fun W' => AnyG.cmp_Compare_int Tryz.layCmp x.id y.id W'
  change ∀ W', Calls Tryz.prog 83 _ _ _ at hcon
  unfold cmpS
  generalize Lib.compareInt x.id y.id = r at hcon ⊢
  go_enter Tryz.func210, Tryz.ntmps210
  go_wp2_with (go_at_call 83; refine (hcon _).mono ?_; rintro e w' ⟨rfl, rfl⟩)
  go_ret
  exact ⟨rfl, 0, _, by rw [Go.Sort.alloc_eq_grow, Go.Sort.alloc_eq_grow, Go.Sort.grow_grow]; rfl⟩
theorem cmpS_lays (blk off size : Nat) (w : World) : CmpLays Tryz.prog 210 #[] encS 7 cmpS blk off size w := fun _ _ _ _ x y => cmpS_ok x y _

/-- zs is l by Id. -/
def ById (l zs : List Spec) : Prop := zs.Perm l ∧ zs.Pairwise fun a b => a.id ≤ b.id
theorem byId_of {zs : List Spec} {d' : Array Spec} (hp : Go.Sort.PermIn 0 zs.toArray.size zs.toArray d') (hs : Go.Sort.SortedIn (ltOf cmpS) 0 zs.toArray.size d') : ById zs d'.toList ∧ d'.toList.length = zs.length := by
  obtain ⟨hsz, _, hperm⟩ := hp
  rw [← hsz, Array.extract_size, hsz, Array.extract_size] at hperm
  have hl : d'.size = zs.length := by simpa using hsz
  refine ⟨⟨by simpa using hperm, ?_⟩, by simpa using hl⟩
  rw [List.pairwise_iff_getElem]
  intro i j hi hj hij
  have hi' : i < d'.size := by simpa using hi
  have hj' : j < d'.size := by simpa using hj
  have := hs i j (Nat.zero_le _) hij (by rw [← hsz]; exact hj')
  rw [cmpS_lt, getElem!_pos d' i hi', getElem!_pos d' j hj'] at this
  simp at this
  simpa using this

set_option maxHeartbeats 2000000 in
theorem sortFuncS_ok (B : Nat) (v : Value) (zs : List Spec) (w : World) (h : OwnS B w v zs) (hB : B ≤ w.heap.size) (hn : zs.length ≤ 1048576) :
    Calls Tryz.prog 236 #[v, .func (.func 210) #[] #[]] w fun e w' => e = .returned (.tuple #[]) ∧ ∃ ys, OwnS B w' v ys ∧ ById zs ys ∧ Below B w w' := by
  have eg : ∀ args w, (callFunc 210 args).run Tryz.prog w = .ok (.enter 210 args) w := enters_of Tryz.func210 (by kernel_rfl) rfl
  rcases h.cases with ⟨rfl, rfl⟩ | ⟨g, cap, rfl, hg, hgw, _, _⟩
  · refine (show Calls Tryz.prog 236 _ w _ from AnyF.slices_SortFunc_none Tryz.laySortS none 0 _ w).mono ?_
    rintro e w' ⟨rfl, rfl⟩
    exact ⟨rfl, [], h, ⟨List.Perm.refl _, List.Pairwise.nil⟩, Below.refl _ _⟩
  · have hH := h.holdsK rfl lenS
    refine (show Calls Tryz.prog 236 _ w _ from AnyQ.slices_SortFunc Tryz.laySortS 7 Tryz.isAgg31 Tryz.sizeOf31 encS lenS oneS cmpS cmpS_swo 210 #[] g 0 cap zs.toArray w eg (cmpS_lays g 0 _ w) hH hgw (by simp; omega)).mono ?_
    rintro e w' ⟨rfl, d', n, os, hp, hs, rfl⟩
    obtain ⟨hby, hl⟩ := byId_of hp hs
    exact ⟨rfl, d'.toList, h.sorted rfl lenS hl, hby, (Below.refl B w).grown (Own.grown encS 7 (ys := d'.toList)) hB (fun k e => by cases e; exact hg)⟩

set_option maxHeartbeats 2000000 in
theorem sortedFuncS_ok (Bs : Nat) (A : Option Addr) (c : Nat) (zs : List Spec) (hlen : zs.length ≤ 1048576) (w0 w : World) (hb : Below w0.heap.size w0 w) (hBs : Bs < w.heap.size)
    (hc : w.cell? ⟨Bs, 0, none⟩ = some (.slice A zs.length c)) (hS : Specs w0 (.slice A zs.length c) zs) :
    Calls Tryz.prog 208 #[.func (.func 237) #[] #[.pointer (some ⟨Bs, 0, none⟩)], .func (.func 210) #[] #[]] w fun e W' =>
      ∃ v ys, e = .returned v ∧ OwnS w.heap.size W' v ys ∧ ById zs ys ∧ Below w.heap.size w W' := by
  have h := collectS_ok Bs A c zs hlen w0 w hb hBs hc hS
  clear hc
  go_enter Tryz.func208, Tryz.ntmps208
  go_wp2_with (first
    | (go_at_call 235; refine h.mono ?_; rintro e W' ⟨v, rfl, ho, hb1⟩)
    | (go_at_call 236; refine (sortFuncS_ok _ v zs _ ho hb1.size hlen).mono ?_; rintro e W2 ⟨rfl, ys, ho2, hby, hb2⟩))
  go_ret
  exact ⟨v, ys, rfl, ho2, hby, hb1.trans hb2⟩

set_option maxHeartbeats 2000000 in
theorem sorted_ok (v : Value) (zs : List Spec) (w : World) (h : Specs w v zs) (hlen : zs.length ≤ 1048576) :
    Calls Tryz.prog 158 #[v] w fun e W' => ∃ v ys, e = .returned v ∧ OwnS w.heap.size W' v ys ∧ ById zs ys ∧ Below w.heap.size w W' := by
  obtain ⟨A, c, rfl, h1, h2, hc⟩ := h.cells
  clear hc
  have hb : Below w.heap.size w (w.alloc (.cells #[.slice A zs.length c] 51)) := (Below.refl _ _).alloc (Nat.le_refl _) _
  have hk := sortedFuncS_ok w.heap.size A c zs hlen w (w.alloc (.cells #[.slice A zs.length c] 51)) hb (by simp) (by simp) h
  go_enter Tryz.func158, Tryz.ntmps158
  go_wp2_with (first
    | (go_at_call 209; refine (valuesS_ok _ _ _ _).mono ?_; rintro e W' ⟨rfl, rfl⟩)
    | (go_at_call 208; refine hk.mono ?_; rintro e W2 ⟨v, ys, rfl, ho2, hby, hb2⟩))
  go_ret
  refine ⟨v, ys, rfl, ?_, hby, below_trans hb hb2⟩
  exact ho2.base (by simp)

set_option maxHeartbeats 2000000 in
theorem Sort_ok (v : Value) (l : List Spec) (w : World) (h : Specs w v l) :
    Calls Tryz.prog 121 #[v] w fun e W' => ∃ v ys, e = .returned (.tuple #[v, .int .i64 (checkE l)]) ∧ OwnS w.heap.size W' v ys ∧ (checkE l = 0 → ById l ys) ∧ Below w.heap.size w W' := by
  by_cases hE : checkE l = 0
  · have hd : (checkE l != 0) = false := by simp [hE]
    have hlen : l.length ≤ 1048576 := by
      have : ¬ 64 < l.length := fun hf => by rw [checkE_full hf] at hE; cases hE
      omega
    have HE := Lib.hid hE; clear hE
    go_enter Tryz.func121, Tryz.ntmps121
    go_wp2_with (first
      | (go_at_call 157; refine (SCheck_ok _ _ _ h).mono ?_; rintro e w1 ⟨rfl, hb1⟩)
      | (go_at_call 158; refine (sorted_ok _ _ _ (h.below hb1) hlen).mono ?_; rintro e W2 ⟨u, ys, rfl, ho2, hby, hb2⟩))
    go_ret2
    exact ⟨u, ys, by have := HE.out; simp [this], ho2.base hb1.size, fun _ => hby, below_trans hb1 hb2⟩
  · have hd : (checkE l != 0) = true := by simp [hE]
    have HE := Lib.hid hE; clear hE
    go_enter Tryz.func121, Tryz.ntmps121
    go_wp2_with (go_at_call 157; refine (SCheck_ok _ _ _ h).mono ?_; rintro e w1 ⟨rfl, hb1⟩)
    go_ret2
    exact ⟨_, [], rfl, own_nil _ _ _ _ _, fun e => absurd e HE.out, hb1⟩
end Go.Proofs.YthnckicnnhkkaaaGreat
/- linkage.Of. Condition: the argument reads as a list of specimens. -/
namespace Go.Proofs.YthnckicnnhkkaaaGreat
open Go.RowKit Go.Shelf

theorem checkE_zero {l : List Spec} (h : checkE l = 0) : l.length ≤ 64 ∧ l.all specB = true ∧ (l.map Spec.id).Nodup := by
  unfold checkE at h
  split at h
  · cases h
  · split at h
    · split at h
      · exact ⟨by omega, by assumption, by assumption⟩
      · cases h
    · cases h
theorem byId_links {l ys : List Spec} (hE : checkE l = 0) (hb : ById l ys) : madeG (l.map linkOf) = ⟨withs ((ys.map linkOf).map Link.obv), withs ((ys.map linkOf).map Link.rev), ys.map linkOf⟩ := by
  obtain ⟨hp, hs⟩ := hb
  have hm : ∀ n, n ∈ ys.map linkOf ↔ n ∈ l.map linkOf := fun n => (hp.map linkOf).mem_iff
  have hd : ((l.map linkOf).map Link.id).Nodup := by
    rw [List.map_map]
    exact (checkE_zero hE).2.2
  have hd2 : (ys.map Spec.id).Nodup := (hp.map Spec.id).nodup_iff.2 (checkE_zero hE).2.2
  have ha : (ys.map linkOf).Pairwise (fun x y => x.id < y.id) := by
    rw [List.pairwise_map]
    unfold List.Nodup at hd2
    rw [List.pairwise_map] at hd2
    refine (hs.and hd2).imp fun h => ?_
    obtain ⟨h1, h2⟩ := h
    simp only [linkOf]
    omega
  unfold madeG
  rw [inss_unique hd ha hm]
  have e1 : withs ((inss (l.map linkOf)).map Link.obv) = withs ((l.map linkOf).map Link.obv) := withs_congr fun n => by
    simp only [List.mem_map]
    exact ⟨fun ⟨a, h, e⟩ => ⟨a, (inss_mem hd a).1 h |> List.mem_map.1, e⟩, fun ⟨a, h, e⟩ => ⟨a, (inss_mem hd a).2 (List.mem_map.2 h), e⟩⟩
  have e2 : withs ((inss (l.map linkOf)).map Link.rev) = withs ((l.map linkOf).map Link.rev) := withs_congr fun n => by
    simp only [List.mem_map]
    exact ⟨fun ⟨a, h, e⟩ => ⟨a, (inss_mem hd a).1 h |> List.mem_map.1, e⟩, fun ⟨a, h, e⟩ => ⟨a, (inss_mem hd a).2 (List.mem_map.2 h), e⟩⟩
  rw [e1, e2]

set_option maxHeartbeats 4000000 in
theorem Of_ok (v : Value) (l : List Spec) (w : World) (h : Specs w v l) :
    Calls Tryz.prog 73 #[v] w fun e w' => ∃ u, e = .returned (.tuple #[u, .int .i64 (ofE l)]) ∧ GraphAt w' u (ofG l) ∧ Below w.heap.size w w' := by
  have h0 := h
  obtain ⟨A0, c0, rfl, _, _, _⟩ := h.cells
  clear h
  obtain ⟨W, hW, Hz, hwW, hlt0, hc0⟩ := boxed w #[.slice none 0 0, .slice none 0 0, .slice none 0 0] 76
  clear hc0
  have hWg : W.heap[w.heap.size]? = some (.cells #[.slice none 0 0, .slice none 0 0, .slice none 0 0] 76 (0, 0)) := by rw [← hW]; exact heap_alloc_new _ _
  have HWg := Lib.hid hWg; clear hWg
  go_enter Tryz.func73, Tryz.ntmps73
  go_wp2_with fail
  refine (Sort_ok _ _ _ (h0.below hwW)).mono ?_
  rintro e w1 ⟨u, ys, rfl, hys, hby, hb1⟩
  have Hr1 := Lib.hid (heap_below HWg.out hb1 hlt0)
  have hw1 := below_trans hwW hb1
  obtain ⟨A, c, rfl, h1, h2, hc⟩ := (show Specs _ _ _ from hys.slOf).cells
  clear hys
  by_cases hE : checkE l = 0
  case neg =>
    have hd : (checkE l != 0) = true := by simp [hE]
    have HE := Lib.hid hE; clear hE hc hby
    obtain ⟨r0, r1, r2, q0, q1, q2⟩ := blk3 Hr1.out
    go_wp2_with fail
    refine bodyPost_ret (results_cell_tmp_row rfl _ _ w.heap.size 76 #[.slice none 0 0, .slice none 0 0, .slice none 0 0] (0, 0) _ (by simp) (heap_set3 Hr1.out) Tryz.underlying76 rfl infoG) rfl
      ⟨_, ret_pair (by simp [ofE, HE.out]), ?_, below_set3 hw1 (Nat.le_refl _) _ _ _⟩
    simp only [ofG, ofE, HE.out, if_false]
    exact ⟨_, _, _, rfl, (own_nil _ _ 0 0 _).slOf, (own_nil _ _ 0 0 _).slOf, (own_nil _ _ 0 0 _).slOf⟩
  have hd : (checkE l != 0) = false := by simp [hE]
  have HE := Lib.hid hE; have Hby := Lib.hid (hby hE); clear hE hby
  have hyl : ys.length ≤ 64 := by have := Hby.out.1.length_eq; have := (checkE_zero HE.out).1; omega
  have hWs : w.heap.size < w1.heap.size := heap_lt Hr1.out
  obtain ⟨iL, hiL, hzL, hkL, hbL⟩ := info_parts infoL
  go_wp2_with fail
  go_loopw [6, 21] (fun u i wr => ∃ k : Nat, k ≤ ys.length ∧ i = .int .i64 k ∧ OwnL w1.heap.size wr u ((ys.take k).map linkOf) ∧ Below w1.heap.size w1 wr) (fun _ i _ => ys.length - (intOf i).toNat)
  case atStart => exact ⟨0, Nat.zero_le _, rfl, own_nil _ _ _ _ _, Below.refl _ _⟩
  case round =>
    obtain ⟨k, hk, rfl, hown, hb⟩ := hrel
    by_cases hlt : k < ys.length
    · obtain ⟨b, o, rfl, hbb, hc⟩ := hc k hlt
      obtain ⟨x, hx⟩ := get_of_lt hlt
      obtain ⟨c0, c1, c2, c3, c4, c5, c6⟩ := hc wr hb k x hx
      have Hx := Lib.hid hx; clear hx hc
      obtain ⟨W1, hW1, Hz1, hb2, hlt1, hc1⟩ := boxed wr #[.int .i64 x.id, .int .i64 x.obv, .int .i64 x.rev, .int .i64 x.os, .int .i64 x.rs, .int .i64 x.ax, .int .i64 x.wt] 31
      have m0 := hc1 0 _ rfl; have m1 := hc1 1 _ rfl; have m2 := hc1 2 _ rfl; have m3 := hc1 3 _ rfl; have m4 := hc1 4 _ rfl; have m5 := hc1 5 _ rfl; have m6 := hc1 6 _ rfl
      clear hc1
      have hq := hown.below hb2
      have hlen : ((ys.take k).map linkOf).length ≤ 64 := by simp; omega
      have hBs : w1.heap.size ≤ W1.heap.size := by have := hb.size; have := hb2.size; omega
      have hbW : Below w1.heap.size w1 W1 := below_trans hb hb2
      go_wp2_with (at_builtin; refine wpList_append1 (enc := encL) (size := 3) (B := w1.heap.size) rfl (.tmp 25) (.tmp 33) _ rfl 135 iL _ 24 Tryz.underlying74 hiL hzL hkL hbL rfl (by decide) rfl hq (linkOf x) _ rfl lenL oneL _ rfl rfl (by omega) (by omega) hBs ?_; intro v' w2 hown' hgrow hat)
      refine ⟨?rel, ?measure⟩
      case rel => exact ⟨k + 1, by omega, by go_num, by rw [map_take_snoc _ Hx.out]; exact hown', hbW.trans (below_append hq hgrow hBs)⟩
      case measure => simp [intOf]; omega
    · have e1 : ys.take k = ys := List.take_of_length_le (by omega)
      rw [e1] at hown
      clear e1 hc
      have Hr2 := Lib.hid (heap_below Hr1.out hb hWs)
      have hlen : (ys.map linkOf).length ≤ 1048576 := by simp; omega
      have hGe := byId_links HE.out Hby.out
      have hEf : ofE l = if full (madeG (l.map linkOf)) then 6 else 0 := by rw [ofE, if_pos HE.out]
      obtain ⟨G, hG⟩ : ∃ G, madeG (l.map linkOf) = G := ⟨_, rfl⟩
      rw [hG] at hEf hGe
      have hGf : full G = false → ofG l = G := fun h => by rw [ofG, hEf, h, hG]; rfl
      have hGt : full G = true → ofG l = emptyG := fun h => by rw [ofG, hEf, h]; rfl
      have HEf := Lib.hid hEf; have HGf := Lib.hid hGf; have HGt := Lib.hid hGt; clear hEf hGf hGt hG
      go_wp2_with fail
      refine (with_ok _ _ _ hown.slOf hlen).mono ?_
      rintro e w2 ⟨v1, v2, rfl, hg1, hg2, hf1, hf2, hb2⟩
      have hg3 : Links w2 u6 G.links := by rw [hGe]; exact (show Links _ _ _ from hown.slOf).below hb2
      have hf3 : Fresh w1.heap.size u6 := hown.fresh
      have hg1' : Ints w2 v1 G.obv := by rw [hGe]; exact hg1
      have hg2' : Ints w2 v2 G.rev := by rw [hGe]; exact hg2
      clear hg1 hg2 hGe hown
      obtain ⟨A1, cc1, rfl, _, _, _⟩ := hg1'.cells
      obtain ⟨A2, cc2, rfl, _, _, _⟩ := hg2'.cells
      obtain ⟨A3, cc3, rfl, _, _, _⟩ := hg3.cells
      obtain ⟨W3, hW3, Hz3, hb23, hlt3, hc3⟩ := boxed w2 #[.slice A1 G.obv.length cc1, .slice A2 G.rev.length cc2, .slice A3 G.links.length cc3] 76
      have s0 := hc3 0 _ rfl; have s1 := hc3 1 _ rfl; have s2 := hc3 2 _ rfl
      clear hc3
      have hwr := heap_lt Hr2.out
      have Hr3 := Lib.hid (heap_below (heap_below Hr2.out hb2 hwr) hb23 (heap_lt (heap_below Hr2.out hb2 hwr)))
      obtain ⟨r0, r1, r2, q0, q1, q2⟩ := blk3 Hr3.out
      have hww : Below w.heap.size w W3 := below_trans (below_trans (hw1.trans (hb.mono hw1.size)) hb2) hb23
      by_cases n1 : 32 < G.obv.length
      · have d1 : decide ((32 : Int) < (G.obv.length : Int)) = true := by simp; omega
        have hfu : full G = true := by simp [full, n1]
        have HE' : Hid (ofE l = 6) := by show _ = _; rw [HEf.out, hfu]; rfl
        have HG' : Hid (ofG l = emptyG) := HGt.out hfu
        clear n1 hfu
        go_wp2_with fail
        refine bodyPost_ret (results_cell_tmp_row rfl _ _ w.heap.size 76 #[.slice none 0 0, .slice none 0 0, .slice none 0 0] (0, 0) _ (by simp) (heap_set3 Hr3.out) Tryz.underlying76 rfl infoG) rfl
          ⟨_, ret_pair HE'.out.symm, ?_, below_set3 hww (Nat.le_refl _) _ _ _⟩
        rw [HG'.out]
        exact ⟨_, _, _, rfl, (own_nil _ _ 0 0 _).slOf, (own_nil _ _ 0 0 _).slOf, (own_nil _ _ 0 0 _).slOf⟩
      have d1 : decide ((32 : Int) < (G.obv.length : Int)) = false := by simp; omega
      by_cases n2 : 32 < G.rev.length
      · have d2 : decide ((32 : Int) < (G.rev.length : Int)) = true := by simp; omega
        have hfu : full G = true := by simp [full, n2]
        have HE' : Hid (ofE l = 6) := by show _ = _; rw [HEf.out, hfu]; rfl
        have HG' : Hid (ofG l = emptyG) := HGt.out hfu
        clear n1 n2 hfu
        go_wp2_with fail
        refine bodyPost_ret (results_cell_tmp_row rfl _ _ w.heap.size 76 #[.slice none 0 0, .slice none 0 0, .slice none 0 0] (0, 0) _ (by simp) (heap_set3 Hr3.out) Tryz.underlying76 rfl infoG) rfl
          ⟨_, ret_pair HE'.out.symm, ?_, below_set3 hww (Nat.le_refl _) _ _ _⟩
        rw [HG'.out]
        exact ⟨_, _, _, rfl, (own_nil _ _ 0 0 _).slOf, (own_nil _ _ 0 0 _).slOf, (own_nil _ _ 0 0 _).slOf⟩
      have d2 : decide ((32 : Int) < (G.rev.length : Int)) = false := by simp; omega
      have hfu : full G = false := by simp [full]; omega
      have HE' : Hid (ofE l = 0) := by show _ = _; rw [HEf.out, hfu]; rfl
      have HG' : Hid (ofG l = G) := HGf.out hfu
      clear n1 n2 hfu
      go_wp2_with fail
      refine bodyPost_ret (results_cell_tmp_row rfl _ _ w.heap.size 76 #[.slice A1 G.obv.length cc1, .slice A2 G.rev.length cc2, .slice A3 G.links.length cc3] (0, 0) _ (by simp) (heap_set3 Hr3.out) Tryz.underlying76 rfl infoG) rfl
        ⟨_, ret_pair HE'.out.symm, ?_, below_set3 hww (Nat.le_refl _) _ _ _⟩
      rw [HG'.out]
      exact ⟨_, _, _, rfl, (hg1'.below hb23).set3 (hf1.ne hwr) _ _ _, (hg2'.below hb23).set3 (hf2.ne hwr) _ _ _, (hg3.below hb23).set3 (hf3.ne hWs) _ _ _⟩
end Go.Proofs.YthnckicnnhkkaaaGreat
