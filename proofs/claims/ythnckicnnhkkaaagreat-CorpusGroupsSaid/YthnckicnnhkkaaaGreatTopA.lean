/- What WholeLinks and WholeForest need: base.Chains; plain facts. Condition: the arguments read as such. -/
import Derived.Test.YthnckicnnhkkaaaGreatCompB
import Derived.Test.YthnckicnnhkkaaaGreatGroD
import Derived.Test.YthnckicnnhkkaaaGreatLinkE
import Derived.Test.YthnckicnnhkkaaaGreatOwn
namespace Go.Proofs.YthnckicnnhkkaaaGreat
open Go.RowKit Go.Maps

/-- A slice of slices of dies. -/
def RowsD (w : World) (v : Value) (xss : List (List Die)) : Prop :=
  ∃ A c vs, v = .slice A xss.length c ∧ xss.length ≤ c ∧ c ≤ maxLen ∧ Sl w 1 A xss.length vs ∧ ∀ (i : Nat) (u : Value) (xs : List Die), vs[i]? = some u → xss[i]? = some xs → Dies w u xs
theorem RowsD.below {w w' : World} {v : Value} {xss : List (List Die)} (h : RowsD w v xss) (hb : Below w.heap.size w w') : RowsD w' v xss := by
  obtain ⟨A, c, vs, e, h1, h2, h3, h4⟩ := h
  exact ⟨A, c, vs, e, h1, h2, h3.below hb, fun i u xs hu hx => (h4 i u xs hu hx).below hb⟩
theorem RowsD.cells {w : World} {v : Value} {xss : List (List Die)} (h : RowsD w v xss) : ∃ A c, v = .slice A xss.length c ∧ xss.length ≤ c ∧ (c : Int) ≤ 9223372036854775807 ∧
    ∀ k, k < xss.length → ∃ b o, A = some ⟨b, o, none⟩ ∧ b < w.heap.size ∧ ∀ i xs, xss[i]? = some xs → ∃ A' c', Dies w (.slice A' xs.length c') xs ∧ (c' : Int) ≤ 9223372036854775807 ∧ xs.length ≤ c' ∧ ∀ w', Below w.heap.size w w' → w'.cell? ⟨b, o + i, none⟩ = some (.slice A' xs.length c') := by
  obtain ⟨A, c, vs, e, h1, h2, h3, h4⟩ := h
  refine ⟨A, c, e, h1, by simp only [maxLen] at h2; omega, fun k hk => ?_⟩
  obtain ⟨b, o, e, hb, hc⟩ := h3.2 (by omega)
  refine ⟨b, o, e, hb, fun i xs hx => ?_⟩
  have hi : i < vs.length := by have := (List.getElem?_eq_some_iff.1 hx).1; have := h3.1; omega
  have hv : vs[i]? = some vs[i] := List.getElem?_eq_getElem hi
  have hI := h4 i _ xs hv hx
  obtain ⟨A', c', e', q1, q2, q3⟩ := hI
  refine ⟨A', c', ⟨A', c', rfl, q1, q2, q3⟩, by simp only [maxLen] at q2; omega, q1, fun w' hw' => ?_⟩
  have := cell_later hw' (hc i _ hv)
  rwa [e'] at this
set_option maxHeartbeats 1000000 in
theorem Chains_same (v u : Value) (xs ys : List (List Die)) (w : World) (h : RowsD w v xs) (h' : RowsD w u ys) :
    Calls Tryz.prog 31 #[v, u] w fun e w' => e = .returned (.bool (decide (xs = ys))) ∧ Below w.heap.size w w' := by
  obtain ⟨A, c, rfl, h1, h2, hc⟩ := h.cells
  obtain ⟨A', c', rfl, h1', h2', hc'⟩ := h'.cells
  by_cases hne : xs.length = ys.length
  · have hne' : ((xs.length : Int) != (ys.length : Int)) = false := by simp; omega
    have Hne := Lib.hid hne; clear hne
    go_enter Tryz.func31, Tryz.ntmps31
    go_wp2
    go_loopw [5] (fun i wr => ∃ k : Nat, k ≤ xs.length ∧ i = .int .i64 k ∧ xs.take k = ys.take k ∧ Below w.heap.size w wr) (fun i _ => xs.length - (intOf i).toNat)
    case atStart => exact ⟨0, Nat.zero_le _, rfl, by simp, Below.refl _ _⟩
    case round =>
      obtain ⟨k, hk, rfl, hr, hb⟩ := hrel
      have Hr := Lib.hid hr; clear hr
      by_cases hlt : k < xs.length
      · have hlt' : k < ys.length := by have := Hne.out; omega
        obtain ⟨b, o, rfl, _, hc⟩ := hc k hlt
        obtain ⟨b', o', rfl, _, hc'⟩ := hc' k hlt'
        obtain ⟨x, hx⟩ := get_of_lt hlt
        obtain ⟨y, hy⟩ := get_of_lt hlt'
        obtain ⟨A1, c1, i1, _, _, m1⟩ := hc k x hx
        obtain ⟨A2, c2, i2, _, _, m2⟩ := hc' k y hy
        have f1 := Later.cell_all (m1 wr hb)
        have f2 := Later.cell_all (m2 wr hb)
        have HB : ∀ z : Later wr, Below w.heap.size w z.to := fun z => below_trans hb z.h
        have Hx := Lib.hid hx; clear hx hc m1
        have Hy := Lib.hid hy; clear hy hc' m2
        have hl1 : (k : Int) < (xs.length : Int) := by omega
        have hl2 : (k : Int) < (ys.length : Int) := by omega
        have hl0 : (0 : Int) ≤ (k : Int) := by omega
        by_cases hxy : x = y
        · have hd : decide (x = y) = true := by simpa using hxy
          have Hxy := Lib.hid hxy; clear hxy
          go_wp2
          refine wp_region_later (by kernel_rfl) (by kernel_rfl) ?_
          repeat (go_big_quiet_step (first | (go_at_call 85; with_reducible exact calls_later (baseDies_ok _ _ _ _ _ (i1.below (HB _)) (i2.below (HB _))))))
          refine wpQuiet_nil ?_
          intro _ hw'
          obtain ⟨xq, hw''⟩ := hw'
          subst hw''
          go_wp2
          refine ⟨?rel, ?measure⟩
          case rel => exact ⟨k + 1, by omega, by go_num, eq_snoc Hx.out Hy.out Hr.out Hxy.out, HB xq⟩
          case measure => simp [intOf]; omega
        · have hd : decide (x = y) = false := by simpa using hxy
          have Hxy := Lib.hid hxy; clear hxy
          go_wp2
          refine wp_region_later (by kernel_rfl) (by kernel_rfl) ?_
          repeat (go_big_quiet_step (first | (go_at_call 85; with_reducible exact calls_later (baseDies_ok _ _ _ _ _ (i1.below (HB _)) (i2.below (HB _))))))
          refine wpQuiet_nil ?_
          intro _ hw'
          obtain ⟨xq, hw''⟩ := hw'
          subst hw''
          go_wp2
          go_ret
          exact ⟨ret_bool (by simpa using ne_at Hx.out Hy.out Hxy.out), HB xq⟩
      · go_wp2
        go_ret
        exact ⟨ret_bool (by simpa using eq_end Hne.out hlt Hr.out), hb⟩
  · have hne' : ((xs.length : Int) != (ys.length : Int)) = true := by simp; omega
    have Hne := Lib.hid hne; clear hne
    go_enter Tryz.func31, Tryz.ntmps31
    go_wp2
    go_ret
    exact ⟨ret_bool (by simp; exact fun e => Hne.out (by rw [e])), Below.refl _ _⟩

theorem count_chains {l : List Spec} (h : ofE l = 0) : (chainsG (ofG l)).length = (growL l).count := by rw [chainsG_len, comps_reps h]
end Go.Proofs.YthnckicnnhkkaaaGreat
/- coinagetop.coin and upTo; package bridge on nets. Condition: the arguments read as such. -/
namespace Go.Proofs.YthnckicnnhkkaaaGreat
open Go.RowKit Go.Maps

def coinT (i o r : Int) : Spec := ⟨i, o, r, 1, 1, 0, 1⟩
/-- A row of numbers in a block of its own. -/
def RoI (w : World) (b : Nat) (r : List Int) : Prop := w.heap[b]? = some (.cells (r.map (Value.int .i64)).toArray 3 (0, 0))
section
variable {w w' : World} {b : Nat} {r : List Int}
theorem RoI.below (h : RoI w b r) (hb : Below w.heap.size w w') : RoI w' b r := heap_below h hb (heap_lt h)
end
/-- A slice of truth values in a block of its own. -/
def RoB (w : World) (b : Nat) (r : List Bool) : Prop := w.heap[b]? = some (.cells (r.map Value.bool).toArray 4 (0, 0))
section
variable {w w' : World} {b : Nat} {r : List Bool}
theorem RoB.below (h : RoB w b r) (hb : Below w.heap.size w w') : RoB w' b r := heap_below h hb (heap_lt h)
end
end Go.Proofs.YthnckicnnhkkaaaGreat
/- Package bridge: bridges on nets. Condition: the net reads as such. -/
namespace Go.Proofs.YthnckicnnhkkaaaGreat
open Go.RowKit Go.Maps

end Go.Proofs.YthnckicnnhkkaaaGreat
