/- specimen.Valid and specimen.Check. Condition: the argument reads as a list of specimens. -/
import Derived.Test.YtcpobcfncmcakaaGreatLib2
import Derived.Maps.Own
import Derived.Maps.Views
namespace Go.Proofs.YtcpobcfncmcakaaGreat
open Go.RowKit Go.Maps

set_option maxHeartbeats 400000 in
theorem in_ok (n lo hi : Int) (w : World) : Calls Tryz.prog 71 #[.int .i64 n, .int .i64 lo, .int .i64 hi] w fun e w' => e = .returned (.bool (inB n lo hi)) ∧ w = w' := by
  by_cases h1 : lo ≤ n
  · have hd : decide (lo ≤ n) = true := by simpa using h1
    go_enter Tryz.func71, Tryz.ntmps71
    go_wp2
    go_ret
    exact ⟨ret_bool (by simp [inB, h1]), rfl⟩
  · have hd : decide (lo ≤ n) = false := by simpa using h1
    go_enter Tryz.func71, Tryz.ntmps71
    go_wp2
    go_ret
    exact ⟨ret_bool (by simp only [inB, hd, Bool.false_and]), rfl⟩

set_option maxHeartbeats 1000000 in
theorem SValid_ok (s : Spec) (w : World) : Calls Tryz.prog 52 #[.agg #[.int .i64 s.id, .int .i64 s.obv, .int .i64 s.rev, .int .i64 s.os, .int .i64 s.rs, .int .i64 s.ax, .int .i64 s.wt]] w
    fun e w' => e = .returned (.bool (specB s)) ∧ Below w.heap.size w w' := by
  go_enter Tryz.func52, Tryz.ntmps52
  go_wp2_with (go_at_call 71; refine (in_ok _ _ _ _).mono ?_; rintro e w' ⟨rfl, rfl⟩)
  all_goals
    go_ret
    exact ⟨ret_bool (by simp [specB, *]), (Below.refl _ _).alloc (Nat.le_refl _) _⟩

theorem wf_small {x : Int} (h0 : 0 ≤ x) (h1 : x ≤ 1000000) : (Lit.int .i64 x).wf = true := by
  have e1 : IntKind.i64.min = -9223372036854775808 := by decide
  have e2 : IntKind.i64.max = 9223372036854775807 := by decide
  simp only [Lit.wf, Bool.and_eq_true, decide_eq_true_eq, e1, e2]
  omega
theorem plainElem_bool_inv {H : Type} {P : Program} {e : TypeId} (he : P.underlying e = some .bool) {v : Value} {x : Bool} {ps : List MemPlace} (h : plainElem (H := H) P e v = some (.lit (.bool x), ps)) : v = .bool x := by
  unfold plainElem at h
  rw [he] at h
  cases v <;> simp at h
  rw [h.1]

/-- The map of the numbers seen. -/
def Seen (w : World) (b n : Nat) (ids : List Int) : Prop :=
  ∃ D : DataW Unit, w.ownsMap Tryz.prog 3 (plainElem Tryz.prog 4) b n D ∧ IsMap D ∧ ∀ x, (Lit.int .i64 x).wf = true → D.atKey (.int .i64 x) (.lit (.bool false)) = .lit (.bool (decide (x ∈ ids)))
theorem seen_made (w : World) : Seen (w.alloc (.map #[] 0)) w.heap.size 0 [] := ⟨_, World.ownsMap_made _ _ _ _, isMap_empty, fun x _ => by simp [DataW.atKey]⟩
theorem Seen.below {w w' : World} {b n : Nat} {ids : List Int} (h : Seen w b n ids) (hb : Below w.heap.size w w') : Seen w' b n ids := by
  obtain ⟨D, h1, h2, h3⟩ := h
  exact ⟨D, h1.kept (row := none) ⟨hb.os, hb.tape, hb.output, hb.size, fun i hi _ => hb.block i hi⟩ (by simp), h2, h3⟩
theorem Seen.look {w : World} {b n : Nat} {ids : List Int} (h : Seen w b n ids) {x : Int} (hx : (Lit.int .i64 x).wf = true) : (Instr.lookup 112 (.map (some b)) (.int .i64 x) false).run Tryz.prog w = .ok (.bool (decide (x ∈ ids))) w := by
  obtain ⟨D, h1, h2, h3⟩ := h
  obtain ⟨v, ps, hr, hv⟩ := h1.lookup (int_keyed Tryz.underlying3) Tryz.underlying112 (z := .bool false) (by kernel_rfl) (plainElem_bool Tryz.underlying4 false) (keyOf_int_mk Tryz.underlying3 hx)
  rw [h3 x hx] at hv
  rw [plainElem_bool_inv Tryz.underlying4 hv] at hr
  exact hr
theorem Seen.put {w : World} {b n : Nat} {ids : List Int} (h : Seen w b n ids) {x : Int} (hx : (Lit.int .i64 x).wf = true) (hn : n < maxLen) :
    ∃ w', (Instr.mapUpdate 112 (.map (some b)) (.int .i64 x) (.bool true)).run Tryz.prog w = .ok () w' ∧ Seen w' b (n + 1) (ids ++ [x]) ∧ w.grownBy w' (some b) := by
  obtain ⟨D, h1, h2, h3⟩ := h
  obtain ⟨w', hr, ho, hg⟩ := h1.update (int_keyed Tryz.underlying3) Tryz.underlying112 hn (keyOf_int_mk Tryz.underlying3 hx) (plainElem_bool Tryz.underlying4 true)
  refine ⟨w', hr, ⟨_, ho, h2.put _ _, fun y hy => ?_⟩, hg⟩
  by_cases e : y = x
  · subst e
    rw [atKey_put_same h2 (by trivial)]
    simp
  · rw [atKey_put_other (by simpa using e), h3 y hy]
    simp [e]

def dupB (l : List Spec) : Bool := !decide (l.map Spec.id).Nodup
theorem dup_snoc (l : List Spec) (s : Spec) : dupB (l ++ [s]) = (dupB l || decide (s.id ∈ l.map Spec.id)) := by
  unfold dupB
  rw [Bool.eq_iff_iff]
  simp only [List.map_append, List.nodup_append, List.map_cons, List.map_nil, Bool.not_eq_true', decide_eq_false_iff_not, Bool.or_eq_true, decide_eq_true_eq]
  simp
  grind

set_option maxHeartbeats 2000000 in
theorem SCheck_ok (v : Value) (l : List Spec) (w : World) (h : Specs w v l) :
    Calls Tryz.prog 75 #[v] w fun e w' => e = .returned (.int .i64 (checkE l)) ∧ Below w.heap.size w w' := by
  obtain ⟨A, c, rfl, h1, h2, hc⟩ := h.cells
  have hmm := @run_makeMap Tryz.prog
  by_cases hf : 64 < l.length
  · have hd : decide ((64 : Int) < (l.length : Int)) = true := by simp; omega
    go_enter Tryz.func75, Tryz.ntmps75
    go_wp2
    go_ret
    exact ⟨ret_i64 (checkE_full hf).symm, Below.refl _ _⟩
  · have hd : decide ((64 : Int) < (l.length : Int)) = false := by simp; omega
    go_enter Tryz.func75, Tryz.ntmps75
    go_wp2
    go_loopw [4, 13] (fun tw i wr => ∃ k : Nat, k ≤ l.length ∧ i = .int .i64 k ∧ (l.take k).all specB = true ∧ tw = .bool (dupB (l.take k)) ∧ Seen wr w.heap.size k ((l.take k).map Spec.id) ∧ Below w.heap.size w wr) (fun _ i _ => l.length - (intOf i).toNat)
    case atStart => exact ⟨0, Nat.zero_le _, rfl, by simp, by simp [dupB], seen_made _, (Below.refl _ _).alloc (Nat.le_refl _) _⟩
    case round =>
      clear hmm
      obtain ⟨k, hk, rfl, hr, rfl, hs, hb⟩ := hrel
      have Hr := Lib.hid hr; clear hr
      by_cases hlt : k < l.length
      · obtain ⟨b, o, rfl, _, hc⟩ := hc k hlt
        obtain ⟨s, hs'⟩ := get_of_lt hlt
        obtain ⟨c0, c1, c2, c3, c4, c5, c6⟩ := hc wr hb k s hs'
        have Hs := Lib.hid hs'; clear hs' hc
        have hbs := hb.size
        obtain ⟨W1, hW1, Hz1, hb1, hlt1, hc1⟩ := boxed wr #[.int .i64 s.id, .int .i64 s.obv, .int .i64 s.rev, .int .i64 s.os, .int .i64 s.rs, .int .i64 s.ax, .int .i64 s.wt] 43
        have m0 := hc1 0 _ rfl; have m1 := hc1 1 _ rfl; have m2 := hc1 2 _ rfl; have m3 := hc1 3 _ rfl; have m4 := hc1 4 _ rfl; have m5 := hc1 5 _ rfl; have m6 := hc1 6 _ rfl
        clear hc1
        go_wp2_with fail
        refine (SValid_ok s _).mono ?_
        rintro e w1 ⟨rfl, hb2⟩
        have hb3 := below_trans hb1 hb2
        have n0 := (hb2.cell (p := ⟨wr.heap.size, 0, none⟩) hlt1).trans m0
        have n1 := (hb2.cell (p := ⟨wr.heap.size, 1, none⟩) hlt1).trans m1
        clear m0 m1 m2 m3 m4 m5 m6
        cases hv : specB s
        · go_wp2_with fail
          go_ret
          exact ⟨ret_i64 (checkE_arg hf Hs.out hv).symm, below_trans hb hb3⟩
        have hv' := hv
        simp only [specB, inB, Bool.and_eq_true, decide_eq_true_eq] at hv'
        have hwf : (Lit.int .i64 s.id).wf = true := wf_small (by omega) (by omega)
        clear hv'
        have hs1 := hs.below hb3
        have hlk := hs1.look hwf
        obtain ⟨w2, hup, hs2, hg2⟩ := hs1.put hwf (show k < maxLen by simp only [maxLen]; omega)
        have hds := dup_snoc (l.take k) s
        rw [← take_snoc' Hs.out] at hds
        rw [← map_take_snoc Spec.id Hs.out] at hs2
        have hB2 : Below w.heap.size w w2 := (below_trans hb hb3).grown hg2 (below_trans hb hb3).size (fun j e => by cases e; exact Nat.le_refl _)
        have Hds := Lib.hid hds; have Hs2 := Lib.hid hs2; clear hds hs2 hs hs1 hg2
        cases hdu : dupB (l.take k)
        · cases hin : decide (s.id ∈ (l.take k).map Spec.id)
          · rw [hin] at hlk
            go_wp2_with fail
            refine ⟨?rel, ?measure⟩
            case rel => exact ⟨k + 1, by omega, by go_num, all_snoc Hs.out Hr.out hv, by rw [Hds.out, hdu, hin]; rfl, Hs2.out, hB2⟩
            case measure => simp [intOf]; omega
          · rw [hin] at hlk
            go_wp2_with fail
            refine ⟨?rel, ?measure⟩
            case rel => exact ⟨k + 1, by omega, by go_num, all_snoc Hs.out Hr.out hv, by rw [Hds.out, hdu, hin]; rfl, Hs2.out, hB2⟩
            case measure => simp [intOf]; omega
        · go_wp2_with fail
          refine ⟨?rel, ?measure⟩
          case rel => exact ⟨k + 1, by omega, by go_num, all_snoc Hs.out Hr.out hv, by rw [Hds.out, hdu]; rfl, Hs2.out, hB2⟩
          case measure => simp [intOf]; omega
      · have Ha := Lib.hid (all_end hlt Hr.out)
        have e1 : l.take k = l := List.take_of_length_le (by omega)
        rw [e1] at hs ⊢
        clear Hr e1
        cases hdu : dupB l
        · go_wp2
          go_ret
          exact ⟨ret_i64 (checkE_ok hf Ha.out (by simpa [dupB] using hdu)).symm, hb⟩
        · go_wp2
          go_ret
          refine ⟨ret_i64 ?_, hb⟩
          have : ¬ (l.map Spec.id).Nodup := by simpa [dupB] using hdu
          simp only [checkE, if_neg hf, if_pos Ha.out, if_neg this]
end Go.Proofs.YtcpobcfncmcakaaGreat
