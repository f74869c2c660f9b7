/- The reference's names. Condition: the argument reads as a list of numbers. -/
import Derived.Test.YtifgpmhkdnmhlaaNamesA
import Derived.Test.YtifgpmhkdnmhlaaBase
namespace Go.Proofs.Ytifgpmhkdnmhlaa
open Go.RowKit Go.Shelf

theorem ints_cut {w : World} {A : Option Addr} {n c : Nat} {xs : List Int} (h : Ints w (.slice A n c) xs) (hn : n = xs.length) {k : Nat} (hk : k ≤ n) : Ints w (.slice A k c) (xs.take k) := by
  subst hn
  obtain ⟨A', c', e, h1, h2, h3⟩ := h
  cases e
  have hl : (xs.take k).length = k := by simp; omega
  refine ⟨A, c, by rw [hl], by omega, h2, ?_⟩
  rw [hl, flat_take encI 1 lenI]
  exact h3.take hk
theorem nodupI_snoc {l : List Int} {k : Nat} {x : Int} (hx : l[k]? = some x) (h : (l.take k).Nodup) (hn : hasB (l.take k) x = false) : (l.take (k + 1)).Nodup := by
  rw [take_snoc' hx, List.nodup_append]
  refine ⟨h, by simp, fun a ha b hb e => ?_⟩
  simp at hb
  subst hb; subst e
  rw [(hasB_iff _ _).2 ha] at hn
  cases hn
theorem namesB_no1 {l : List Int} {n k : Nat} {x : Int} (hx : l[k]? = some x) (h : inB x 1 999 = false) : namesB l n = false := by
  have : ¬ l.all (fun x => inB x 1 999) = true := fun ha => by
    have := List.all_eq_true.1 ha x (List.mem_of_getElem? hx)
    rw [h] at this; cases this
  simp [namesB, Bool.eq_false_iff.2 this]
theorem namesB_no2 {l : List Int} {n k : Nat} {x : Int} (hx : l[k]? = some x) (h : hasB (l.take k) x = true) : namesB l n = false := by
  have : ¬ l.Nodup := fun hn => by
    obtain ⟨j, hj⟩ := List.mem_iff_getElem?.1 ((hasB_iff _ _).1 h)
    have hlt := lt_of_get hj
    rw [List.length_take] at hlt
    rw [List.getElem?_take_of_lt (by omega)] at hj
    obtain ⟨l1, e1⟩ := List.getElem?_eq_some_iff.1 hj
    obtain ⟨l2, e2⟩ := List.getElem?_eq_some_iff.1 hx
    exact List.pairwise_iff_getElem.1 hn j k l1 l2 (by omega) (by rw [e1, e2])
  simp [namesB, this]

set_option maxHeartbeats 4000000 in
theorem names_ok13 (v : Value) (l : List Int) (n : Nat) (w : World) (h : Ints w v l) :
    Calls Try.prog 60 #[v, .int .i64 (n : Int)] w fun e w' => e = .returned (.bool (namesB l n)) ∧ Below w.heap.size w w' := by
  have h0 := h
  obtain ⟨A, c, rfl, h1, h2, hc⟩ := h.cells
  go_enter Try.func60, Try.ntmps60
  go_wp2
  go_loopw [5] (fun i wr => ∃ k : Nat, k ≤ l.length ∧ i = .int .i64 k ∧ Hid ((l.take k).all (fun x => inB x 1 999) = true) ∧ Hid ((l.take k).Nodup) ∧ Below w.heap.size w wr) (fun i _ => l.length - (intOf i).toNat)
  case atStart => exact ⟨0, Nat.zero_le _, rfl, by show _ = _; simp, by show List.Nodup _; simp, Below.refl _ _⟩
  case round =>
    obtain ⟨k, hk, rfl, Ha, Hn, hb⟩ := hrel
    by_cases hlt : k < l.length
    · obtain ⟨b, o, rfl, _, hc⟩ := hc k hlt
      obtain ⟨x, hx⟩ := get_of_lt hlt
      have c0 := Later.cell_all (hc wr hb k x hx)
      have Hx := Lib.hid hx; clear hx hc
      have hcut := ints_cut (h0.below hb) rfl hk
      have hN : ∀ y : Later wr, Calls Try.prog 81 #[.int .i64 x] y.to _ := fun y => Number_ok x y.to
      have hH : ∀ y : Later wr, Calls Try.prog 27 #[.slice (some ⟨b, o, none⟩) k c, .int .i64 x] y.to _ := fun y => Has_ok _ _ x y.to (hcut.below y.h)
      have hl1 : (k : Int) < (l.length : Int) := by omega
      have hl0 : (0 : Int) ≤ (k : Int) := by omega
      have hl2 : (k : Int) ≤ (c : Int) := by omega
      have hl3 : (l.length : Int) ≤ (c : Int) := by omega
      cases h1' : inB x 1 999
      · rw [h1'] at hN
        have HN := Lib.hid hN; have HH := Lib.hid hH; clear hN hH hcut
        go_wp2_with fail
        refine wp_region_later (by kernel_rfl) (by kernel_rfl) ?_
        repeat (go_big_quiet_step (first | (go_at_call 81; with_reducible exact calls_later_same (HN.out _)) | (go_at_call 27; with_reducible exact calls_later_same (HH.out _))))
        refine wpQuiet_nil ?_
        intro _ hw'
        obtain ⟨xq, hw''⟩ := hw'
        subst hw''
        have hba := xq.h
        generalize xq.to = wa at hba ⊢
        go_wp2_with fail
        go_ret
        exact ⟨ret_bool (namesB_no1 Hx.out h1').symm, below_trans hb hba⟩
      rw [h1'] at hN
      cases h2' : hasB (l.take k) x
      · rw [h2'] at hH
        have HN := Lib.hid hN; have HH := Lib.hid hH; clear hN hH hcut
        go_wp2_with fail
        refine wp_region_later (by kernel_rfl) (by kernel_rfl) ?_
        repeat (go_big_quiet_step (first | (go_at_call 81; with_reducible exact calls_later_same (HN.out _)) | (go_at_call 27; with_reducible exact calls_later_same (HH.out _))))
        refine wpQuiet_nil ?_
        intro _ hw'
        obtain ⟨xq, hw''⟩ := hw'
        subst hw''
        have hba := xq.h
        generalize xq.to = wa at hba ⊢
        go_wp2_with fail
        refine ⟨?rel, ?measure⟩
        case rel => exact ⟨k + 1, by omega, by go_num, all_snoc Hx.out Ha.out h1', nodupI_snoc Hx.out Hn.out h2', below_trans hb hba⟩
        case measure => first | (simp [intOf]; done) | (simp [intOf]; omega)
      · rw [h2'] at hH
        have HN := Lib.hid hN; have HH := Lib.hid hH; clear hN hH hcut
        go_wp2_with fail
        refine wp_region_later (by kernel_rfl) (by kernel_rfl) ?_
        repeat (go_big_quiet_step (first | (go_at_call 81; with_reducible exact calls_later_same (HN.out _)) | (go_at_call 27; with_reducible exact calls_later_same (HH.out _))))
        refine wpQuiet_nil ?_
        intro _ hw'
        obtain ⟨xq, hw''⟩ := hw'
        subst hw''
        have hba := xq.h
        generalize xq.to = wa at hba ⊢
        go_wp2_with fail
        go_ret
        exact ⟨ret_bool (namesB_no2 Hx.out h2').symm, below_trans hb hba⟩
    · have ha := all_end hlt Ha.out
      have hn := Hn.out
      rw [List.take_of_length_le (by omega)] at hn
      have hR : namesB l n = decide ((l.length : Int) = (n : Int)) := by simp [namesB, ha, hn]; omega
      have HR := Lib.hid hR; clear ha hn hR
      go_wp2_with fail
      go_ret
      exact ⟨ret_bool (by rw [HR.out]; first | rfl | (simp; done) | (rw [Bool.eq_iff_iff]; simp)), hb⟩
end Go.Proofs.Ytifgpmhkdnmhlaa
