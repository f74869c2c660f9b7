/- specimen.Sort. Condition: the argument reads as a list of specimens. -/
import Derived.Test.YtcpobcfncmcakaaGreatShelf
import Derived.Test.YtcpobcfncmcakaaGreatIter
import Derived.Test.YtcpobcfncmcakaaGreatOwn
import Derived.Test.YtcpobcfncmcakaaGreatSpecA
namespace Go.Proofs.YtcpobcfncmcakaaGreat
open Go.RowKit Go.Shelf

instance : Inhabited Spec := ⟨⟨0, 0, 0, 0, 0, 0, 0⟩⟩
def cmpS (x y : Spec) : Int := Lib.compareInt x.id y.id
theorem cmpS_lt (x y : Spec) : ltOf cmpS x y = decide (x.id < y.id) := by
  unfold ltOf cmpS Lib.compareInt
  by_cases h1 : x.id < y.id
  · simp [h1]
  · by_cases h2 : y.id < x.id <;> simp [h1, h2]
theorem cmpS_swo : Go.Sort.SWO (ltOf cmpS) where
  irrefl x := by rw [cmpS_lt]; simp
  trans x y z h1 h2 := by rw [cmpS_lt] at *; simp at *; omega
  ntrans x y z h1 h2 := by rw [cmpS_lt] at *; simp at *; omega

set_option maxHeartbeats 1000000 in
theorem cmpS_ok (x y : Spec) (W : World) : Calls Tryz.prog 84 #[valS x, valS y] W fun e w' => e = .returned (.int .i64 (cmpS x y)) ∧ ∃ q os', w' = Go.Sort.grow (W.drewN q) os' := by
  have hcon := fun W' => AnyG.cmp_Compare_int Tryz.layCmp x.id y.id W'
  change ∀ W', Calls Tryz.prog 85 _ _ _ at hcon
  unfold cmpS
  generalize Lib.compareInt x.id y.id = r at hcon ⊢
  go_enter Tryz.func84, Tryz.ntmps84
  go_wp2_with (go_at_call 85; refine (hcon _).mono ?_; rintro e w' ⟨rfl, rfl⟩)
  go_ret
  exact ⟨rfl, 0, _, by rw [Go.Sort.alloc_eq_grow, Go.Sort.alloc_eq_grow, Go.Sort.grow_grow]; rfl⟩
theorem cmpS_lays (blk off size : Nat) (w : World) : CmpLays Tryz.prog 84 #[] encS 7 cmpS blk off size w := fun _ _ _ _ x y => cmpS_ok x y _

/-- zs is l by Id. -/
def ById (l zs : List Spec) : Prop := zs.Perm l ∧ zs.Pairwise fun a b => a.id ≤ b.id
theorem byId_of {zs : List Spec} {d' : Array Spec} (hp : Go.Sort.PermIn 0 zs.toArray.size zs.toArray d') (hs : Go.Sort.SortedIn (ltOf cmpS) 0 zs.toArray.size d') : ById zs d'.toList ∧ d'.toList.length = zs.length := by
  obtain ⟨hsz, _, hperm⟩ := hp
  rw [← hsz, Array.extract_size, hsz, Array.extract_size] at hperm
  have hl : d'.size = zs.length := by simpa using hsz
  refine ⟨⟨by simpa using hperm, ?_⟩, by simpa using hl⟩
  rw [List.pairwise_iff_getElem]
  intro i j hi hj hij
  have hi' : i < d'.size := by simpa using hi
  have hj' : j < d'.size := by simpa using hj
  have := hs i j (Nat.zero_le _) hij (by rw [← hsz]; exact hj')
  rw [cmpS_lt, getElem!_pos d' i hi', getElem!_pos d' j hj'] at this
  simp at this
  simpa using this

set_option maxHeartbeats 2000000 in
theorem sortFuncS_ok (B : Nat) (v : Value) (zs : List Spec) (w : World) (h : OwnS B w v zs) (hB : B ≤ w.heap.size) (hn : zs.length ≤ 1048576) :
    Calls Tryz.prog 90 #[v, .func (.func 84) #[] #[]] w fun e w' => e = .returned (.tuple #[]) ∧ ∃ ys, OwnS B w' v ys ∧ ById zs ys ∧ Below B w w' := by
  have eg : ∀ args w, (callFunc 84 args).run Tryz.prog w = .ok (.enter 84 args) w := enters_of Tryz.func84 (by kernel_rfl) rfl
  rcases h.cases with ⟨rfl, rfl⟩ | ⟨g, cap, rfl, hg, hgw, _, _⟩
  · refine (show Calls Tryz.prog 90 _ w _ from AnyF.slices_SortFunc_none Tryz.laySortS none 0 _ w).mono ?_
    rintro e w' ⟨rfl, rfl⟩
    exact ⟨rfl, [], h, ⟨List.Perm.refl _, List.Pairwise.nil⟩, Below.refl _ _⟩
  · have hH := h.holdsK rfl lenS
    refine (show Calls Tryz.prog 90 _ w _ from AnyQ.slices_SortFunc Tryz.laySortS 7 Tryz.isAgg43 Tryz.sizeOf43 encS lenS oneS cmpS cmpS_swo 84 #[] g 0 cap zs.toArray w eg (cmpS_lays g 0 _ w) hH hgw (by simp; omega)).mono ?_
    rintro e w' ⟨rfl, d', n, os, hp, hs, rfl⟩
    obtain ⟨hby, hl⟩ := byId_of hp hs
    exact ⟨rfl, d'.toList, h.sorted rfl lenS hl, hby, (Below.refl B w).grown (Own.grown encS 7 (ys := d'.toList)) hB (fun k e => by cases e; exact hg)⟩

set_option maxHeartbeats 2000000 in
theorem sortedFuncS_ok (Bs : Nat) (A : Option Addr) (c : Nat) (zs : List Spec) (hlen : zs.length ≤ 1048576) (w0 w : World) (hb : Below w0.heap.size w0 w) (hBs : Bs < w.heap.size)
    (hc : w.cell? ⟨Bs, 0, none⟩ = some (.slice A zs.length c)) (hS : Specs w0 (.slice A zs.length c) zs) :
    Calls Tryz.prog 82 #[.func (.func 91) #[] #[.pointer (some ⟨Bs, 0, none⟩)], .func (.func 84) #[] #[]] w fun e W' =>
      ∃ v ys, e = .returned v ∧ OwnS w.heap.size W' v ys ∧ ById zs ys ∧ Below w.heap.size w W' := by
  have h := collectS_ok Bs A c zs hlen w0 w hb hBs hc hS
  clear hc
  go_enter Tryz.func82, Tryz.ntmps82
  go_wp2_with (first
    | (go_at_call 89; refine h.mono ?_; rintro e W' ⟨v, rfl, ho, hb1⟩)
    | (go_at_call 90; refine (sortFuncS_ok _ v zs _ ho hb1.size hlen).mono ?_; rintro e W2 ⟨rfl, ys, ho2, hby, hb2⟩))
  go_ret
  exact ⟨v, ys, rfl, ho2, hby, hb1.trans hb2⟩

set_option maxHeartbeats 2000000 in
theorem sorted_ok (v : Value) (zs : List Spec) (w : World) (h : Specs w v zs) (hlen : zs.length ≤ 1048576) :
    Calls Tryz.prog 76 #[v] w fun e W' => ∃ v ys, e = .returned v ∧ OwnS w.heap.size W' v ys ∧ ById zs ys ∧ Below w.heap.size w W' := by
  obtain ⟨A, c, rfl, h1, h2, hc⟩ := h.cells
  clear hc
  have hb : Below w.heap.size w (w.alloc (.cells #[.slice A zs.length c] 22)) := (Below.refl _ _).alloc (Nat.le_refl _) _
  have hk := sortedFuncS_ok w.heap.size A c zs hlen w (w.alloc (.cells #[.slice A zs.length c] 22)) hb (by simp) (by simp) h
  go_enter Tryz.func76, Tryz.ntmps76
  go_wp2_with (first
    | (go_at_call 83; refine (valuesS_ok _ _ _ _).mono ?_; rintro e W' ⟨rfl, rfl⟩)
    | (go_at_call 82; refine hk.mono ?_; rintro e W2 ⟨v, ys, rfl, ho2, hby, hb2⟩))
  go_ret
  refine ⟨v, ys, rfl, ?_, hby, below_trans hb hb2⟩
  exact ho2.base (by simp)

set_option maxHeartbeats 2000000 in
theorem Sort_ok (v : Value) (l : List Spec) (w : World) (h : Specs w v l) :
    Calls Tryz.prog 56 #[v] w fun e W' => ∃ v ys, e = .returned (.tuple #[v, .int .i64 (checkE l)]) ∧ OwnS w.heap.size W' v ys ∧ (checkE l = 0 → ById l ys) ∧ Below w.heap.size w W' := by
  by_cases hE : checkE l = 0
  · have hd : (checkE l != 0) = false := by simp [hE]
    have hlen : l.length ≤ 1048576 := by
      have : ¬ 64 < l.length := fun hf => by rw [checkE_full hf] at hE; cases hE
      omega
    have HE := Lib.hid hE; clear hE
    go_enter Tryz.func56, Tryz.ntmps56
    go_wp2_with (first
      | (go_at_call 75; refine (SCheck_ok _ _ _ h).mono ?_; rintro e w1 ⟨rfl, hb1⟩)
      | (go_at_call 76; refine (sorted_ok _ _ _ (h.below hb1) hlen).mono ?_; rintro e W2 ⟨u, ys, rfl, ho2, hby, hb2⟩))
    go_ret2
    exact ⟨u, ys, by have := HE.out; simp [this], ho2.base hb1.size, fun _ => hby, below_trans hb1 hb2⟩
  · have hd : (checkE l != 0) = true := by simp [hE]
    have HE := Lib.hid hE; clear hE
    go_enter Tryz.func56, Tryz.ntmps56
    go_wp2_with (go_at_call 75; refine (SCheck_ok _ _ _ h).mono ?_; rintro e w1 ⟨rfl, hb1⟩)
    go_ret2
    exact ⟨_, [], rfl, own_nil _ _ _ _ _, fun e => absurd e HE.out, hb1⟩
end Go.Proofs.YtcpobcfncmcakaaGreat
