/- An operation on a corpus: law52.do and the reference's Do. Condition: the corpora read as such, and the operation's numbers are a machine's. -/
import Derived.Test.YthnckicnnhkkaaaGreatOpsC
import Derived.Test.YthnckicnnhkkaaaGreatCorK
import Derived.Test.YthnckicnnhkkaaaGreatRCoA
namespace Go.Proofs.YthnckicnnhkkaaaGreat
open Go.RowKit Go.Maps Go.Shelf

/-- A corpus as three lists. -/
abbrev Co := List Spec × List Dec × List Mrk
/-- An operation on it: the result, and the corpus behind it. -/
def doE (x : Co) (o : OpC) : Int := if o.ki = 1 then enterE x.1 o.s else if o.ki = 2 then makeE x.2.1 o.d else if o.ki = 3 then drawE x.2.2 o.m else if o.ki = 4 then removeE x.1 o.id else 1
def doL (x : Co) (o : OpC) : Co := if o.ki = 1 then (enterL x.1 o.s, x.2) else if o.ki = 2 then (x.1, makeL x.2.1 o.d, x.2.2) else if o.ki = 3 then (x.1, x.2.1, drawL x.2.2 o.m) else if o.ki = 4 then (removeL x.1 o.id, x.2) else x
set_option maxHeartbeats 4000000 in
set_option maxRecDepth 100000 in
theorem do_ok (S : List Nat) (p : Nat) (x : Co) (o : OpC) (w : World) (h : CorAt w S p x.1 x.2.1 x.2.2) (hw : wfOp o) :
    Calls Tryz.prog 14 #[.pointer (some ⟨p, 0, none⟩), valOp o] w fun e w' =>
      e = .returned (.int .i64 (doE x o)) ∧ ∃ S', CorAt w' S' p (doL x o).1 (doL x o).2.1 (doL x o).2.2 ∧ Touch w w' S ∧ ∀ b ∈ S', b ∈ S ∨ w.heap.size ≤ b := by
  obtain ⟨W, hW, Hz, hbW, hltW, hc⟩ := boxed w #[.int .i64 o.ki, .int .i64 o.s.id, .int .i64 o.s.obv, .int .i64 o.s.rev, .int .i64 o.s.os, .int .i64 o.s.rs, .int .i64 o.s.ax, .int .i64 o.s.wt, .int .i64 o.d.au, .int .i64 o.d.nu, .int .i64 o.d.ki, .int .i64 o.d.a, .int .i64 o.d.b, .int .i64 o.m.au, .int .i64 o.m.nu, .int .i64 o.id] 37
  have c0 := hc 0 _ rfl; have c1 := hc 1 _ rfl; have c2 := hc 2 _ rfl; have c3 := hc 3 _ rfl; have c4 := hc 4 _ rfl; have c5 := hc 5 _ rfl; have c6 := hc 6 _ rfl; have c7 := hc 7 _ rfl; have c8 := hc 8 _ rfl; have c9 := hc 9 _ rfl; have c10 := hc 10 _ rfl; have c11 := hc 11 _ rfl; have c12 := hc 12 _ rfl; have c13 := hc 13 _ rfl; have c14 := hc 14 _ rfl; have c15 := hc 15 _ rfl
  have HA := Lib.hid (h.below hbW)
  have HT0 := Lib.hid (touch_below hbW S)
  have hsz := hbW.size
  clear hc h
  go_enter Tryz.func14, Tryz.ntmps14
  by_cases h1 : o.ki = 1
  · have HE : Hid (doE x o = enterE x.1 o.s ∧ doL x o = (enterL x.1 o.s, x.2)) := Lib.hid ⟨by simp [doE, h1], by simp [doL, h1]⟩
    have t1 : (o.ki == 1) = true := by simp [h1]
    have t1' : decide (o.ki = 1) = true := by simp [h1]
    clear h1
    go_wp2_with fail
    refine (Enter_ok S p x.1 x.2.1 x.2.2 o.s W HA.out).mono ?_
    rintro e w2 ⟨rfl, S', hA, hT, hS⟩
    have HA2 := Lib.hid hA; have HT := Lib.hid hT; have HS := Lib.hid hS
    clear hA hT hS
    go_wp2_with fail
    go_ret
    exact ⟨ret_i64 HE.out.1.symm, S', by rw [HE.out.2]; exact HA2.out, HT0.out.trans HT.out, fun b hb => (HS.out b hb).imp id fun h => by omega⟩
  have t1 : (o.ki == 1) = false := by simp [h1]
  have t1' : decide (o.ki = 1) = false := by simp [h1]
  by_cases h2 : o.ki = 2
  · have HE : Hid (doE x o = makeE x.2.1 o.d ∧ doL x o = (x.1, makeL x.2.1 o.d, x.2.2)) := Lib.hid ⟨by simp [doE, h2], by simp [doL, h2]⟩
    have t2 : (o.ki == 2) = true := by simp [h2]
    have t2' : decide (o.ki = 2) = true := by simp [h2]
    clear h1 h2
    go_wp2_with fail
    refine (CMake_ok S p x.1 x.2.1 x.2.2 o.d W HA.out hw.1).mono ?_
    rintro e w2 ⟨rfl, S', hA, hT, hS⟩
    have HA2 := Lib.hid hA; have HT := Lib.hid hT; have HS := Lib.hid hS
    clear hA hT hS
    go_wp2_with fail
    go_ret
    exact ⟨ret_i64 HE.out.1.symm, S', by rw [HE.out.2]; exact HA2.out, HT0.out.trans HT.out, fun b hb => (HS.out b hb).imp id fun h => by omega⟩
  have t2 : (o.ki == 2) = false := by simp [h2]
  have t2' : decide (o.ki = 2) = false := by simp [h2]
  by_cases h3 : o.ki = 3
  · have HE : Hid (doE x o = drawE x.2.2 o.m ∧ doL x o = (x.1, x.2.1, drawL x.2.2 o.m)) := Lib.hid ⟨by simp [doE, h3], by simp [doL, h3]⟩
    have t3 : (o.ki == 3) = true := by simp [h3]
    have t3' : decide (o.ki = 3) = true := by simp [h3]
    clear h1 h2 h3
    go_wp2_with fail
    refine (CDraw_ok S p x.1 x.2.1 x.2.2 o.m W HA.out hw.2).mono ?_
    rintro e w2 ⟨rfl, S', hA, hT, hS⟩
    have HA2 := Lib.hid hA; have HT := Lib.hid hT; have HS := Lib.hid hS
    clear hA hT hS
    go_wp2_with fail
    go_ret
    exact ⟨ret_i64 HE.out.1.symm, S', by rw [HE.out.2]; exact HA2.out, HT0.out.trans HT.out, fun b hb => (HS.out b hb).imp id fun h => by omega⟩
  have t3 : (o.ki == 3) = false := by simp [h3]
  have t3' : decide (o.ki = 3) = false := by simp [h3]
  by_cases h4 : o.ki = 4
  · have HE : Hid (doE x o = removeE x.1 o.id ∧ doL x o = (removeL x.1 o.id, x.2)) := Lib.hid ⟨by simp [doE, h4], by simp [doL, h4]⟩
    have t4 : (o.ki == 4) = true := by simp [h4]
    have t4' : decide (o.ki = 4) = true := by simp [h4]
    clear h1 h2 h3 h4
    go_wp2_with fail
    refine (Remove_ok S p x.1 x.2.1 x.2.2 o.id W HA.out).mono ?_
    rintro e w2 ⟨rfl, S', hA, hT, hS⟩
    have HA2 := Lib.hid hA; have HT := Lib.hid hT; have HS := Lib.hid hS
    clear hA hT hS
    go_wp2_with fail
    go_ret
    exact ⟨ret_i64 HE.out.1.symm, S', by rw [HE.out.2]; exact HA2.out, HT0.out.trans HT.out, fun b hb => (HS.out b hb).imp id fun h => by omega⟩
  have HE : Hid (doE x o = 1 ∧ doL x o = x) := Lib.hid ⟨by simp [doE, h1, h2, h3, h4], by simp [doL, h1, h2, h3, h4]⟩
  have t4 : (o.ki == 4) = false := by simp [h4]
  have t4' : decide (o.ki = 4) = false := by simp [h4]
  clear h1 h2 h3 h4
  go_wp2_with fail
  go_ret
  exact ⟨ret_i64 HE.out.1.symm, S, by rw [HE.out.2]; exact HA.out, HT0.out, fun b hb => .inl hb⟩
set_option maxHeartbeats 4000000 in
set_option maxRecDepth 100000 in
theorem RDo_ok (S : List Nat) (p : Nat) (x : Co) (o : OpC) (w : World) (h : RCorAt w S p x.1 x.2.1 x.2.2) :
    Calls Tryz.prog 15 #[.pointer (some ⟨p, 0, none⟩), valOp o] w fun e w' =>
      e = .returned (.int .i64 (doE x o)) ∧ ∃ S', RCorAt w' S' p (doL x o).1 (doL x o).2.1 (doL x o).2.2 ∧ Touch w w' S ∧ ∀ b ∈ S', b ∈ S ∨ w.heap.size ≤ b := by
  obtain ⟨W, hW, Hz, hbW, hltW, hc⟩ := boxed w #[.int .i64 o.ki, .int .i64 o.s.id, .int .i64 o.s.obv, .int .i64 o.s.rev, .int .i64 o.s.os, .int .i64 o.s.rs, .int .i64 o.s.ax, .int .i64 o.s.wt, .int .i64 o.d.au, .int .i64 o.d.nu, .int .i64 o.d.ki, .int .i64 o.d.a, .int .i64 o.d.b, .int .i64 o.m.au, .int .i64 o.m.nu, .int .i64 o.id] 37
  have c0 := hc 0 _ rfl; have c1 := hc 1 _ rfl; have c2 := hc 2 _ rfl; have c3 := hc 3 _ rfl; have c4 := hc 4 _ rfl; have c5 := hc 5 _ rfl; have c6 := hc 6 _ rfl; have c7 := hc 7 _ rfl; have c8 := hc 8 _ rfl; have c9 := hc 9 _ rfl; have c10 := hc 10 _ rfl; have c11 := hc 11 _ rfl; have c12 := hc 12 _ rfl; have c13 := hc 13 _ rfl; have c14 := hc 14 _ rfl; have c15 := hc 15 _ rfl
  have HA := Lib.hid (h.below hbW)
  have HT0 := Lib.hid (touch_below hbW S)
  have hsz := hbW.size
  clear hc h
  go_enter Tryz.func15, Tryz.ntmps15
  by_cases h1 : o.ki = 1
  · have HE : Hid (doE x o = enterE x.1 o.s ∧ doL x o = (enterL x.1 o.s, x.2)) := Lib.hid ⟨by simp [doE, h1], by simp [doL, h1]⟩
    have t1 : (o.ki == 1) = true := by simp [h1]
    have t1' : decide (o.ki = 1) = true := by simp [h1]
    clear h1
    go_wp2_with fail
    refine (REnter_ok S p x.1 x.2.1 x.2.2 o.s W HA.out).mono ?_
    rintro e w2 ⟨rfl, S', hA, hT, hS⟩
    have HA2 := Lib.hid hA; have HT := Lib.hid hT; have HS := Lib.hid hS
    clear hA hT hS
    go_wp2_with fail
    go_ret
    exact ⟨ret_i64 HE.out.1.symm, S', by rw [HE.out.2]; exact HA2.out, HT0.out.trans HT.out, fun b hb => (HS.out b hb).imp id fun h => by omega⟩
  have t1 : (o.ki == 1) = false := by simp [h1]
  have t1' : decide (o.ki = 1) = false := by simp [h1]
  by_cases h2 : o.ki = 2
  · have HE : Hid (doE x o = makeE x.2.1 o.d ∧ doL x o = (x.1, makeL x.2.1 o.d, x.2.2)) := Lib.hid ⟨by simp [doE, h2], by simp [doL, h2]⟩
    have t2 : (o.ki == 2) = true := by simp [h2]
    have t2' : decide (o.ki = 2) = true := by simp [h2]
    clear h1 h2
    go_wp2_with fail
    refine (RMake_ok S p x.1 x.2.1 x.2.2 o.d W HA.out).mono ?_
    rintro e w2 ⟨rfl, S', hA, hT, hS⟩
    have HA2 := Lib.hid hA; have HT := Lib.hid hT; have HS := Lib.hid hS
    clear hA hT hS
    go_wp2_with fail
    go_ret
    exact ⟨ret_i64 HE.out.1.symm, S', by rw [HE.out.2]; exact HA2.out, HT0.out.trans HT.out, fun b hb => (HS.out b hb).imp id fun h => by omega⟩
  have t2 : (o.ki == 2) = false := by simp [h2]
  have t2' : decide (o.ki = 2) = false := by simp [h2]
  by_cases h3 : o.ki = 3
  · have HE : Hid (doE x o = drawE x.2.2 o.m ∧ doL x o = (x.1, x.2.1, drawL x.2.2 o.m)) := Lib.hid ⟨by simp [doE, h3], by simp [doL, h3]⟩
    have t3 : (o.ki == 3) = true := by simp [h3]
    have t3' : decide (o.ki = 3) = true := by simp [h3]
    clear h1 h2 h3
    go_wp2_with fail
    refine (RDraw_ok S p x.1 x.2.1 x.2.2 o.m W HA.out).mono ?_
    rintro e w2 ⟨rfl, S', hA, hT, hS⟩
    have HA2 := Lib.hid hA; have HT := Lib.hid hT; have HS := Lib.hid hS
    clear hA hT hS
    go_wp2_with fail
    go_ret
    exact ⟨ret_i64 HE.out.1.symm, S', by rw [HE.out.2]; exact HA2.out, HT0.out.trans HT.out, fun b hb => (HS.out b hb).imp id fun h => by omega⟩
  have t3 : (o.ki == 3) = false := by simp [h3]
  have t3' : decide (o.ki = 3) = false := by simp [h3]
  by_cases h4 : o.ki = 4
  · have HE : Hid (doE x o = removeE x.1 o.id ∧ doL x o = (removeL x.1 o.id, x.2)) := Lib.hid ⟨by simp [doE, h4], by simp [doL, h4]⟩
    have t4 : (o.ki == 4) = true := by simp [h4]
    have t4' : decide (o.ki = 4) = true := by simp [h4]
    clear h1 h2 h3 h4
    go_wp2_with fail
    refine (RRemove_ok S p x.1 x.2.1 x.2.2 o.id W HA.out).mono ?_
    rintro e w2 ⟨rfl, S', hA, hT, hS⟩
    have HA2 := Lib.hid hA; have HT := Lib.hid hT; have HS := Lib.hid hS
    clear hA hT hS
    go_wp2_with fail
    go_ret
    exact ⟨ret_i64 HE.out.1.symm, S', by rw [HE.out.2]; exact HA2.out, HT0.out.trans HT.out, fun b hb => (HS.out b hb).imp id fun h => by omega⟩
  have HE : Hid (doE x o = 1 ∧ doL x o = x) := Lib.hid ⟨by simp [doE, h1, h2, h3, h4], by simp [doL, h1, h2, h3, h4]⟩
  have t4 : (o.ki == 4) = false := by simp [h4]
  have t4' : decide (o.ki = 4) = false := by simp [h4]
  clear h1 h2 h3 h4
  go_wp2_with fail
  go_ret
  exact ⟨ret_i64 HE.out.1.symm, S, by rw [HE.out.2]; exact HA.out, HT0.out, fun b hb => .inl hb⟩
end Go.Proofs.YthnckicnnhkkaaaGreat
