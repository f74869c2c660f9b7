/- slices.Compare at numbers. Condition: the arguments read as such. -/
import Derived.Test.YtikfffojeakjoaaGreatDoorCovC
import Derived.Test.YtikfffojeakjoaaGreatDoorShelf
import Derived.Shelf.SlicesG.Cmp
namespace Go.Proofs.YtikfffojeakjoaaGreatDoor
open Go.RowKit Go.Maps Go.Shelf

def cmpL : List Int → List Int → Int
  | [], [] => 0
  | [], _ :: _ => -1
  | _ :: _, [] => 1
  | x :: xs, y :: ys => if Lib.compareInt x y = 0 then cmpL xs ys else Lib.compareInt x y
set_option maxHeartbeats 2000000 in
theorem Compare_ok (v u : Value) (xs ys : List Int) (w : World) (h : Ints w v xs) (h' : Ints w u ys) :
    Calls Tryz.prog 44 #[v, u] w fun e w' => e = .returned (.int .i64 (cmpL xs ys)) ∧ w = w' := by
  obtain ⟨A, c, rfl, _, _, hc⟩ := h.cells
  obtain ⟨A', c', rfl, _, _, hc'⟩ := h'.cells
  have hcm := fun x y W' => AnyG.cmp_Compare_int Tryz.layCmp x y W'
  change ∀ x y W', Calls Tryz.prog 20 _ _ _ at hcm
  have HC := Lib.hid hcm; clear hcm
  go_enter Tryz.func44, Tryz.ntmps44
  go_wp2_with fail
  go_loop [11] (fun iv => ∃ k : Nat, k ≤ xs.length ∧ k ≤ ys.length ∧ iv = .int .i64 k ∧ cmpL xs ys = cmpL (xs.drop k) (ys.drop k)) (fun iv => xs.length - (intOf iv).toNat)
  case atStart => exact ⟨0, Nat.zero_le _, Nat.zero_le _, rfl, by simp⟩
  case round =>
    obtain ⟨k, hk, hky, rfl, hr⟩ := hrel
    by_cases hlt : k < xs.length
    · obtain ⟨b, o, rfl, _, hcb⟩ := hc k hlt
      obtain ⟨x, hx⟩ := get_of_lt hlt
      have y0 := hcb _ (Below.refl _ _) k x hx
      have hl1 : (k : Int) < (xs.length : Int) := by omega
      have hl0 : (0 : Int) ≤ (k : Int) := by omega
      rw [drop_at hx] at hr
      clear hcb hc hx
      by_cases hlt2 : k < ys.length
      · obtain ⟨b', o', rfl, _, hcb'⟩ := hc' k hlt2
        obtain ⟨y, hy⟩ := get_of_lt hlt2
        have y1 := hcb' _ (Below.refl _ _) k y hy
        have hl2 : (k : Int) < (ys.length : Int) := by omega
        have hl3 : ¬ (ys.length : Int) ≤ (k : Int) := by omega
        rw [drop_at hy] at hr
        have hcc := HC.out x y
        clear hcb' hc' hy
        by_cases hz : Lib.compareInt x y = 0
        · rw [cmpL, if_pos hz] at hr
          rw [hz] at hcc
          have HR := Lib.hid hr; have Hcc := Lib.hid hcc
          clear hr hz hcc
          go_wp2_with fail
          refine (Hcc.out _).mono ?_
          rintro e w' ⟨rfl, rfl⟩
          go_wp2_with fail
          refine ⟨?rel, ?measure⟩
          case rel => exact ⟨k + 1, by omega, by omega, by go_num, HR.out⟩
          case measure => first | (simp [intOf]; done) | (simp [intOf]; omega)
        · rw [cmpL, if_neg hz] at hr
          have hd : (Lib.compareInt x y != 0) = true := by simpa using hz
          generalize Lib.compareInt x y = R at hcc hd hr
          have Hcc := Lib.hid hcc; have HR := Lib.hid hr
          clear hr hz hcc
          go_wp2_with fail
          refine (Hcc.out _).mono ?_
          rintro e w' ⟨rfl, rfl⟩
          go_wp2_with fail
          go_ret
          exact ⟨by rw [HR.out]; rfl, rfl⟩
      · have ek : k = ys.length := by omega
        have hl3 : (ys.length : Int) ≤ (k : Int) := by omega
        rw [List.drop_of_length_le (show ys.length ≤ k by omega), cmpL] at hr
        have HR := Lib.hid hr
        clear hc' hr ek
        go_wp2_with fail
        go_ret
        exact ⟨by rw [HR.out]; rfl, rfl⟩
    · have ek : k = xs.length := by omega
      rw [List.drop_of_length_le (show xs.length ≤ k by omega)] at hr
      clear hc hc'
      by_cases hlt2 : xs.length < ys.length
      · have hl2 : (xs.length : Int) < (ys.length : Int) := by omega
        obtain ⟨y, hy⟩ := get_of_lt (show k < ys.length by omega)
        rw [drop_at hy, cmpL] at hr
        have HR := Lib.hid hr
        clear hr hy ek
        go_wp2_with fail
        go_ret
        exact ⟨by rw [HR.out]; rfl, rfl⟩
      · have hl2 : ¬ (xs.length : Int) < (ys.length : Int) := by omega
        rw [List.drop_of_length_le (show ys.length ≤ k by omega), cmpL] at hr
        have HR := Lib.hid hr
        clear hr ek
        go_wp2_with fail
        go_ret
        exact ⟨by rw [HR.out]; rfl, rfl⟩
end Go.Proofs.YtikfffojeakjoaaGreatDoor
