/- Package query: the tokens of one text. No condition. -/
import Derived.Test.YtikfffojeakjoaaGreatDoorRowR
import Derived.Test.YtikfffojeakjoaaGreatDoorFresh
import Derived.Test.YtikfffojeakjoaaGreatDoorQueD
import Derived.Lib.ConvBytes
import Derived.BigRegion
import Derived.Test.YtikfffojeakjoaaGreatDoorTail
namespace Go.Proofs.YtikfffojeakjoaaGreatDoor
open Go.RowKit Go.Maps

def encT (s : ByteArray) : List Value := [.string s]
theorem lenT (x : ByteArray) : (encT x).length = 1 := rfl
theorem oneT (x : ByteArray) : ∀ u ∈ encT x, u.oneCell' = true := by simp [encT, Value.oneCell']
theorem infoT : (Tryz.prog.info? 9).map (fun i => (i.zero, i.size, i.bytes)) = some (some (.string ⟨#[]⟩), 1, 16) := by kernel_rfl
abbrev OwnT (B : Nat) (w : World) (v : Value) (xs : List ByteArray) : Prop := Own encT 1 9 B w v xs
def sObv : ByteArray := ⟨#[111, 98, 118]⟩
def sEq : ByteArray := ⟨#[61]⟩
def sThree : ByteArray := ⟨#[51]⟩
set_option maxHeartbeats 400000 in
theorem word111_ok (w : World) : Calls Tryz.prog 45 #[.int .u8 111] w fun e w' => e = .returned (.bool true) ∧ w = w' := by
  go_enter Tryz.func45, Tryz.ntmps45
  go_wp2_with fail
  go_ret
  exact ⟨rfl, rfl⟩
set_option maxHeartbeats 400000 in
theorem word98_ok (w : World) : Calls Tryz.prog 45 #[.int .u8 98] w fun e w' => e = .returned (.bool true) ∧ w = w' := by
  go_enter Tryz.func45, Tryz.ntmps45
  go_wp2_with fail
  go_ret
  exact ⟨rfl, rfl⟩
set_option maxHeartbeats 400000 in
theorem word118_ok (w : World) : Calls Tryz.prog 45 #[.int .u8 118] w fun e w' => e = .returned (.bool true) ∧ w = w' := by
  go_enter Tryz.func45, Tryz.ntmps45
  go_wp2_with fail
  go_ret
  exact ⟨rfl, rfl⟩
set_option maxHeartbeats 400000 in
theorem word32_ok (w : World) : Calls Tryz.prog 45 #[.int .u8 32] w fun e w' => e = .returned (.bool false) ∧ w = w' := by
  go_enter Tryz.func45, Tryz.ntmps45
  go_wp2_with fail
  go_ret
  exact ⟨rfl, rfl⟩
set_option maxHeartbeats 400000 in
theorem word61_ok (w : World) : Calls Tryz.prog 45 #[.int .u8 61] w fun e w' => e = .returned (.bool false) ∧ w = w' := by
  go_enter Tryz.func45, Tryz.ntmps45
  go_wp2_with fail
  go_ret
  exact ⟨rfl, rfl⟩
set_option maxHeartbeats 400000 in
theorem word51_ok (w : World) : Calls Tryz.prog 45 #[.int .u8 51] w fun e w' => e = .returned (.bool true) ∧ w = w' := by
  go_enter Tryz.func45, Tryz.ntmps45
  go_wp2_with fail
  go_ret
  exact ⟨rfl, rfl⟩
set_option maxHeartbeats 4000000 in
set_option maxRecDepth 100000 in
theorem tokens_ok (w : World) : Calls Tryz.prog 26 #[.string ⟨#[111, 98, 118, 32, 61, 32, 51]⟩] w fun e w' => ∃ u, e = .returned (.tuple #[u, .bool true]) ∧ OwnT w.heap.size w' u [sObv, sEq, sThree] ∧ Below w.heap.size w w' := by
  obtain ⟨iT, hiT, hzT, hkT, hbT⟩ := info_parts infoT
  have hx1 : ByteArray.extract ⟨#[111, 98, 118, 32, 61, 32, 51]⟩ 0 3 = sObv := by decide
  have hx2 : ByteArray.extract ⟨#[111, 98, 118, 32, 61, 32, 51]⟩ 4 5 = sEq := by decide
  have hx3 : ByteArray.extract ⟨#[111, 98, 118, 32, 61, 32, 51]⟩ 6 7 = sThree := by decide
  have hown0 : OwnT w.heap.size w (.slice none 0 0) [] := own_nil _ _ _ _ _
  go_enter Tryz.func26, Tryz.ntmps26
  go_wp2_with fail
  refine wp_loop_rounds 6 ?_
  rw [rounds_succ]
  go_wp2_with fail
  refine (word111_ok _).mono ?_
  rintro e w9 ⟨rfl, rfl⟩
  go_wp2_with fail
  refine wp_loop_rounds 4 ?_
  rw [rounds_succ]
  go_wp2_with fail
  refine (word98_ok _).mono ?_
  rintro e w9 ⟨rfl, rfl⟩
  go_wp2_with fail
  rw [rounds_succ]
  go_wp2_with fail
  refine (word118_ok _).mono ?_
  rintro e w9 ⟨rfl, rfl⟩
  go_wp2_with fail
  rw [rounds_succ]
  go_wp2_with fail
  refine (word32_ok _).mono ?_
  rintro e w9 ⟨rfl, rfl⟩
  go_wp2_with (at_builtin; refine wpList_append1 (enc := encT) (size := 1) (B := w.heap.size) rfl (.tmp 86) (.tmp 91) _ rfl 9 iT _ 16 Tryz.underlying81 hiT hzT hkT hbT rfl (by decide) rfl hown0 sObv _ rfl lenT oneT _ rfl rfl (by simp) (by simp) (Nat.le_refl _) ?_; intro v' w7 hown' hgrow hat; obtain ⟨A1, c1, rfl, _⟩ := id hown'.slOf; obtain ⟨w11, hw11⟩ : ∃ z, z = w7 := ⟨_, rfl⟩; subst hw11; have ho1 : OwnT w.heap.size w11 _ [sObv] := hown'; have hg1 := hgrow; clear hat hown' hgrow)
  have hb1 : Below w.heap.size w w11 := (Below.refl _ _).grown hg1 (Nat.le_refl _) (fun j e => (hown0.lt j e).1)
  have hz1 := hb1.size
  clear hg1
  rw [rounds_succ]
  go_wp2_with fail
  rw [rounds_succ]
  go_wp2_with fail
  refine (word61_ok _).mono ?_
  rintro e w9 ⟨rfl, rfl⟩
  go_wp2_with (at_builtin; refine wpList_append1 (enc := encT) (size := 1) (B := w.heap.size) rfl (.tmp 86) (.tmp 91) _ rfl 9 iT _ 16 Tryz.underlying81 hiT hzT hkT hbT rfl (by decide) rfl ho1 sEq _ rfl lenT oneT _ rfl rfl (by simp) (by simp) hz1 ?_; intro v' w7 hown' hgrow hat; obtain ⟨A2, c2, rfl, _⟩ := id hown'.slOf; obtain ⟨w12, hw12⟩ : ∃ z, z = w7 := ⟨_, rfl⟩; subst hw12; have ho2 : OwnT w.heap.size w12 _ [sObv, sEq] := hown'; have hg2 := hgrow; clear hat hown' hgrow)
  have hb2 : Below w.heap.size w w12 := hb1.grown hg2 hz1 (fun j e => (ho1.lt j e).1)
  have hz2 := hb2.size
  clear hg2 ho1 hb1 hz1
  rw [rounds_succ]
  go_wp2_with fail
  rw [rounds_succ]
  go_wp2_with fail
  refine (word51_ok _).mono ?_
  rintro e w9 ⟨rfl, rfl⟩
  go_wp2_with fail
  refine wp_loop_rounds 1 ?_
  rw [rounds_succ]
  go_wp2_with (at_builtin; refine wpList_append1 (enc := encT) (size := 1) (B := w.heap.size) rfl (.tmp 86) (.tmp 91) _ rfl 9 iT _ 16 Tryz.underlying81 hiT hzT hkT hbT rfl (by decide) rfl ho2 sThree _ rfl lenT oneT _ rfl rfl (by simp) (by simp) hz2 ?_; intro v' w7 hown' hgrow hat; obtain ⟨A3, c3, rfl, _⟩ := id hown'.slOf; obtain ⟨w13, hw13⟩ : ∃ z, z = w7 := ⟨_, rfl⟩; subst hw13; have ho3 : OwnT w.heap.size w13 _ [sObv, sEq, sThree] := hown'; have hg3 := hgrow; clear hat hown' hgrow)
  have hb3 : Below w.heap.size w w13 := hb2.grown hg3 hz2 (fun j e => (ho2.lt j e).1)
  clear hg3 ho2 hb2 hz2
  rw [rounds_succ]
  go_wp2_with fail
  exact bodyPost_ret (v := .tuple #[.slice A3 3 c3, .bool true]) (by simp [results, Tryz.results26, go_sem]) rfl ⟨_, rfl, ho3, hb3⟩
end Go.Proofs.YtikfffojeakjoaaGreatDoor
/- Package query: the parser at one text. Condition: the parser holds the tokens named. -/
namespace Go.Proofs.YtikfffojeakjoaaGreatDoor
open Go.RowKit Go.Maps

/-- The parser in the block after V, with some tokens left. -/
def PsS (V w : World) (xs : List ByteArray) : Prop := ∃ v, w.heap[V.heap.size]? = some (.cells [v, .bool false].toArray 86 (0, 0)) ∧ QuK encT 1 9 0 V v xs ∧ Below V.heap.size V w
theorem PsS.below {V w w' : World} {xs : List ByteArray} (h : PsS V w xs) (hb : Below w.heap.size w w') : PsS V w' xs := by
  obtain ⟨v, h1, h2, h3⟩ := h
  exact ⟨v, heap_below h1 hb (heap_lt h1), h2, below_trans h3 hb⟩
theorem PsS.off {V w w' : World} {xs : List ByteArray} {g : Nat} (h : PsS V w xs) (hT : Touch w w' [g]) (hg : V.heap.size < g) : PsS V w' xs := by
  obtain ⟨v, h1, h2, h3⟩ := h
  exact ⟨v, (hT.block V.heap.size (heap_lt h1) (by simp; omega)).trans h1, h2, ((touch_below h3 [g]).trans hT).below (by simp; omega) (Nat.le_refl _)⟩
theorem PsS.wrong {V w : World} {xs : List ByteArray} (h : PsS V w xs) : w.cell? ⟨V.heap.size, 1, none⟩ = some (.bool false) := by
  obtain ⟨v, h1, _⟩ := h
  exact heap_cell h1
theorem PsS.lt {V w : World} {xs : List ByteArray} (h : PsS V w xs) : V.heap.size < w.heap.size := by
  obtain ⟨v, h1, _⟩ := h
  exact heap_lt h1
theorem touch_new {w w' w'' : World} {S : List Nat} {g : Nat} (h : Touch w w' S) (k : Touch w' w'' [g]) (hg : w.heap.size ≤ g) : Touch w w'' S :=
  ⟨k.os.trans h.os, k.tape.trans h.tape, k.output.trans h.output, Nat.le_trans h.size k.size, fun i hi hn => (k.block i (Nat.lt_of_lt_of_le hi h.size) (by simp; omega)).trans (h.block i hi hn)⟩
set_option maxHeartbeats 1000000 in
theorem peek_ok (V w : World) (x : ByteArray) (xs : List ByteArray) (h : PsS V w (x :: xs)) : Calls Tryz.prog 47 #[.pointer (some ⟨V.heap.size, 0, none⟩)] w fun e w' => e = .returned (.string x) ∧ w = w' := by
  obtain ⟨v, h1, h2, h3⟩ := h
  obtain ⟨g, off, cap, rfl, hm, hl, hg, _, hc, _, _⟩ := h2.head lenT
  obtain ⟨⟨c0, c1⟩, _⟩ := cells2 h1
  have d0 := cell_later h3 (hc 0 _ rfl)
  simp only [Nat.add_zero] at d0
  have t : ((xs.length : Int) + 1 == 0) = false := beq_eq_false_iff_ne.2 (by omega)
  clear h1 h2 hc
  go_enter Tryz.func47, Tryz.ntmps47
  go_wp2_with fail
  go_ret
  exact ⟨rfl, rfl⟩
set_option maxHeartbeats 1000000 in
theorem peek0_ok (V w : World) (h : PsS V w []) : Calls Tryz.prog 47 #[.pointer (some ⟨V.heap.size, 0, none⟩)] w fun e w' => e = .returned (.string ⟨#[]⟩) ∧ w = w' := by
  obtain ⟨v, h1, h2, h3⟩ := h
  obtain ⟨A, c, rfl⟩ := h2.nil
  obtain ⟨⟨c0, c1⟩, _⟩ := cells2 h1
  clear h1 h2
  go_enter Tryz.func47, Tryz.ntmps47
  go_wp2_with fail
  go_ret
  exact ⟨rfl, rfl⟩
set_option maxHeartbeats 2000000 in
theorem take_ok (V w : World) (x : ByteArray) (xs : List ByteArray) (h : PsS V w (x :: xs)) : Calls Tryz.prog 48 #[.pointer (some ⟨V.heap.size, 0, none⟩)] w fun e w' => e = .returned (.string x) ∧ PsS V w' xs ∧ Touch w w' [V.heap.size] := by
  have HP := Lib.hid (peek_ok V w x xs h)
  obtain ⟨v, h1, h2, h3⟩ := h
  obtain ⟨g, off, cap, rfl, hm, hl, hg, _, hc, hq1, hq2⟩ := h2.head lenT
  obtain ⟨⟨c0, c1⟩, f0, f1⟩ := cells2 h1
  have t : ((xs.length : Int) + 1 == 0) = false := beq_eq_false_iff_ne.2 (by omega)
  have hset : ∀ v', (w.setCell ⟨V.heap.size, 0, none⟩ v').heap[V.heap.size]? = some (.cells [v', .bool false].toArray 86 (0, 0)) := fun v' => by
    have := heap_setCell_same w V.heap.size 0 _ _ v' h1
    rw [this]; simp
  have hbel : ∀ v', Below V.heap.size V (w.setCell ⟨V.heap.size, 0, none⟩ v') := fun v' => h3.grown (setCells_grown V.heap.size [v'] w 0) h3.size (fun j e => by cases e; exact Nat.le_refl _)
  have Hset := Lib.hid hset; have Hbel := Lib.hid hbel
  have hmx : (cap : Int) + 1 ≤ 9223372036854775807 := by simp only [maxLen] at hm; omega
  clear h1 h2 hc hset hbel hm
  by_cases hc0 : cap = 0
  · subst hc0
    obtain ⟨rfl, hqn⟩ := hq2 rfl
    have Hqn := Lib.hid hqn
    clear hq1 hq2 hqn
    go_enter Tryz.func48, Tryz.ntmps48
    go_wp2_with fail
    refine HP.out.mono ?_
    rintro e w9 ⟨rfl, rfl⟩
    go_wp2_with fail
    go_ret
    exact ⟨rfl, ⟨_, Hset.out _, Hqn.out, Hbel.out _⟩, touch_set rfl (by simp)⟩
  · have Hqn := Lib.hid (hq1 (by omega))
    have hc1 : 0 < cap := by omega
    have hc2 : (1 : Int) ≤ (cap : Int) + 1 := by omega
    clear hq1 hq2
    go_enter Tryz.func48, Tryz.ntmps48
    go_wp2_with fail
    refine HP.out.mono ?_
    rintro e w9 ⟨rfl, rfl⟩
    go_wp2_with fail
    go_ret
    exact ⟨rfl, ⟨_, Hset.out _, Hqn.out, Hbel.out _⟩, touch_set rfl (by simp)⟩
def fieldsV : List Value := [.string ⟨#[]⟩, .string ⟨#[105, 100]⟩, .string ⟨#[111, 98, 118]⟩, .string ⟨#[114, 101, 118]⟩, .string ⟨#[111, 98, 118, 115, 116, 97, 116, 101]⟩, .string ⟨#[114, 101, 118, 115, 116, 97, 116, 101]⟩, .string ⟨#[97, 120, 105, 115]⟩, .string ⟨#[119, 101, 105, 103, 104, 116]⟩]
def signsV : List Value := [.string ⟨#[]⟩, .string ⟨#[61]⟩, .string ⟨#[33, 61]⟩, .string ⟨#[60]⟩, .string ⟨#[60, 61]⟩, .string ⟨#[62]⟩, .string ⟨#[62, 61]⟩]
set_option maxHeartbeats 1000000 in
theorem fields_ok (w : World) : Calls Tryz.prog 79 #[] w fun e w' => e = .returned (.slice (some ⟨w.heap.size, 0, none⟩) 8 8) ∧ w'.heap[w.heap.size]? = some (.cells fieldsV.toArray 9 (0, 0)) ∧ Below w.heap.size w w' := by
  go_enter Tryz.func79, Tryz.ntmps79
  go_wp2_with fail
  go_ret
  exact ⟨rfl, heap_alloc_new _ _, (Below.refl _ _).alloc (Nat.le_refl _) _⟩
set_option maxHeartbeats 1000000 in
theorem signs_ok (w : World) : Calls Tryz.prog 80 #[] w fun e w' => e = .returned (.slice (some ⟨w.heap.size, 0, none⟩) 7 7) ∧ w'.heap[w.heap.size]? = some (.cells signsV.toArray 9 (0, 0)) ∧ Below w.heap.size w w' := by
  go_enter Tryz.func80, Tryz.ntmps80
  go_wp2_with fail
  go_ret
  exact ⟨rfl, heap_alloc_new _ _, (Below.refl _ _).alloc (Nat.le_refl _) _⟩
set_option maxHeartbeats 2000000 in
theorem idxFld_ok (g : Nat) (w : World) (h : w.heap[g]? = some (.cells fieldsV.toArray 9 (0, 0))) : Calls Tryz.prog 102 #[.slice (some ⟨g, 0, none⟩) 8 8, .string sObv] w fun e w' => e = .returned (.int .i64 2) ∧ w = w' := by
  have c0 : w.cell? ⟨g, 0, none⟩ = some (.string ⟨#[]⟩) := heap_cell h
  have c1 : w.cell? ⟨g, 1, none⟩ = some (.string ⟨#[105, 100]⟩) := heap_cell h
  have c2 : w.cell? ⟨g, 2, none⟩ = some (.string ⟨#[111, 98, 118]⟩) := heap_cell h
  clear h
  unfold sObv
  go_enter Tryz.func102, Tryz.ntmps102
  go_wp2_with fail
  refine wp_loop_rounds 3 ?_
  rw [rounds_succ]
  go_wp2_with fail
  rw [rounds_succ]
  go_wp2_with fail
  rw [rounds_succ]
  go_wp2_with fail
  go_ret
  exact ⟨rfl, rfl⟩
set_option maxHeartbeats 2000000 in
theorem idxSig_ok (g : Nat) (w : World) (h : w.heap[g]? = some (.cells signsV.toArray 9 (0, 0))) : Calls Tryz.prog 102 #[.slice (some ⟨g, 0, none⟩) 7 7, .string sEq] w fun e w' => e = .returned (.int .i64 1) ∧ w = w' := by
  have c0 : w.cell? ⟨g, 0, none⟩ = some (.string ⟨#[]⟩) := heap_cell h
  have c1 : w.cell? ⟨g, 1, none⟩ = some (.string ⟨#[61]⟩) := heap_cell h
  clear h
  unfold sEq
  go_enter Tryz.func102, Tryz.ntmps102
  go_wp2_with fail
  refine wp_loop_rounds 2 ?_
  rw [rounds_succ]
  go_wp2_with fail
  rw [rounds_succ]
  go_wp2_with fail
  go_ret
  exact ⟨rfl, rfl⟩
set_option maxHeartbeats 2000000 in
set_option maxRecDepth 100000 in
theorem atoi0_ok (w : World) : Calls Tryz.prog 112 #[.string ⟨#[51]⟩] w fun e w' => e = .returned (.tuple #[.int .i64 3, .nilIface]) ∧ Below w.heap.size w w' := by
  have kc := Lib.run_convert_string_bytes (P := Tryz.prog) w 9 189 5 ⟨#[51]⟩ Tryz.underlying9 Tryz.underlying189 Tryz.underlying5
  have hc := Lib.bytesWorld_cell w 5 ⟨#[51]⟩ 0 (by decide)
  have hc0 : (Lib.bytesWorld w 5 ⟨#[51]⟩).cell? ⟨w.heap.size, 0, none⟩ = some (.int .u8 51) := hc
  have hsz := Lib.bytesWorld_size w 5 ⟨#[51]⟩
  have hb : Below w.heap.size w (Lib.bytesWorld w 5 ⟨#[51]⟩) := ⟨rfl, rfl, rfl, by rw [hsz]; omega, fun j hj => Lib.bytesWorld_at_old w _ _ j hj⟩
  obtain ⟨cp, hcp⟩ : ∃ c, grownCap w (⟨#[51]⟩ : ByteArray).size 0 5 = c := ⟨_, rfl⟩
  have e1 : (⟨#[51]⟩ : ByteArray).size = 1 := rfl
  obtain ⟨W1, hW1⟩ : ∃ z, Lib.bytesWorld w 5 ⟨#[51]⟩ = z := ⟨_, rfl⟩
  rw [hcp, hW1, e1] at kc
  rw [hW1] at hc0 hb
  clear hc hsz hcp hW1 e1
  go_enter Tryz.func112, Tryz.ntmps112
  go_wp2_with fail
  refine wp_loop_rounds 2 ?_
  rw [rounds_succ]
  go_wp2_with fail
  rw [rounds_succ]
  go_wp2_with fail
  exact bodyPost_ret (v := .tuple #[.int .i64 3, .nilIface]) (by simp [results, Tryz.results112, go_sem]) rfl ⟨rfl, hb⟩
set_option maxHeartbeats 2000000 in
theorem atoi1_ok (w : World) : Calls Tryz.prog 103 #[.string ⟨#[51]⟩] w fun e w' => e = .returned (.tuple #[.int .i64 3, .nilIface]) ∧ Below w.heap.size w w' := by
  go_enter Tryz.func103, Tryz.ntmps103
  go_wp2_with fail
  refine (atoi0_ok w).mono ?_
  rintro e w1 ⟨rfl, hb⟩
  go_wp2_with fail
  exact bodyPost_ret (v := .tuple #[.int .i64 3, .nilIface]) (by simp [results, Tryz.results103, go_sem]) rfl ⟨rfl, hb⟩
set_option maxHeartbeats 1000000 in
theorem small3_ok (w : World) : Calls Tryz.prog 135 #[.int .i64 3] w fun e w' => e = .returned (.string ⟨#[51]⟩) ∧ w = w' := by
  go_enter Tryz.func135, Tryz.ntmps135
  go_wp2_with fail
  go_ret
  exact ⟨by rfl, rfl⟩
set_option maxHeartbeats 1000000 in
theorem form3_ok (w : World) : Calls Tryz.prog 123 #[.int .i64 3, .int .i64 10] w fun e w' => e = .returned (.string ⟨#[51]⟩) ∧ w = w' := by
  go_enter Tryz.func123, Tryz.ntmps123
  go_wp2_with fail
  refine (small3_ok w).mono ?_
  rintro e w' ⟨rfl, hw'⟩
  subst hw'
  go_wp2_with fail
  go_ret
  exact ⟨rfl, rfl⟩
set_option maxHeartbeats 1000000 in
theorem itoi3_ok (w : World) : Calls Tryz.prog 114 #[.int .i64 3] w fun e w' => e = .returned (.string ⟨#[51]⟩) ∧ w = w' := by
  go_enter Tryz.func114, Tryz.ntmps114
  go_wp2_with fail
  refine (form3_ok w).mono ?_
  rintro e w' ⟨rfl, hw'⟩
  subst hw'
  go_wp2_with fail
  go_ret
  exact ⟨rfl, rfl⟩
set_option maxHeartbeats 1000000 in
theorem itoa3_ok (w : World) : Calls Tryz.prog 104 #[.int .i64 3] w fun e w' => e = .returned (.string ⟨#[51]⟩) ∧ w = w' := by
  go_enter Tryz.func104, Tryz.ntmps104
  go_wp2_with fail
  refine (itoi3_ok w).mono ?_
  rintro e w' ⟨rfl, hw'⟩
  subst hw'
  go_wp2_with fail
  go_ret
  exact ⟨rfl, rfl⟩
def termV : Value := .agg #[.int .i64 1, .int .i64 2, .int .i64 1, .int .i64 3, .slice none 0 0]
theorem cells5 {w : World} {g : Nat} {a b c d e : Value} {t : TypeId} (h : w.heap[g]? = some (.cells [a, b, c, d, e].toArray t (0, 0))) :
    (w.cell? ⟨g, 0, none⟩ = some a ∧ w.cell? ⟨g, 1, none⟩ = some b ∧ w.cell? ⟨g, 2, none⟩ = some c ∧ w.cell? ⟨g, 3, none⟩ = some d ∧ w.cell? ⟨g, 4, none⟩ = some e) ∧ w.frozen? ⟨g, 0, none⟩ = false ∧ w.frozen? ⟨g, 1, none⟩ = false ∧ w.frozen? ⟨g, 2, none⟩ = false ∧ w.frozen? ⟨g, 3, none⟩ = false ∧ w.frozen? ⟨g, 4, none⟩ = false :=
  ⟨⟨heap_cell h, heap_cell h, heap_cell h, heap_cell h, heap_cell h⟩, heap_free h, heap_free h, heap_free h, heap_free h, heap_free h⟩
theorem heap_set5 {w : World} {g : Nat} {a b c d e x0 x1 x2 x3 x4 : Value} {t : TypeId} (h : w.heap[g]? = some (.cells [a, b, c, d, e].toArray t (0, 0))) :
    (((((w.setCell ⟨g, 0, none⟩ x0).setCell ⟨g, 1, none⟩ x1).setCell ⟨g, 2, none⟩ x2).setCell ⟨g, 3, none⟩ x3).setCell ⟨g, 4, none⟩ x4).heap[g]? = some (.cells #[x0, x1, x2, x3, x4] t (0, 0)) := heap_setCells [x0, x1, x2, x3, x4] [] [a, b, c, d, e] w h rfl
theorem below_set5 {B g : Nat} {a w : World} {x0 x1 x2 x3 x4 : Value} (h : Below B a w) (hg : B ≤ g) (hB : B ≤ w.heap.size) : Below B a (((((w.setCell ⟨g, 0, none⟩ x0).setCell ⟨g, 1, none⟩ x1).setCell ⟨g, 2, none⟩ x2).setCell ⟨g, 3, none⟩ x3).setCell ⟨g, 4, none⟩ x4) :=
  h.grown (setCells_grown g [x0, x1, x2, x3, x4] w 0) hB (fun j e => by cases e; exact hg)
abbrev zeroT : List Value := [.int .i64 0, .int .i64 0, .int .i64 0, .int .i64 0, .slice none 0 0]
set_option maxHeartbeats 4000000 in
set_option maxRecDepth 100000 in
theorem part_ok (V w : World) (h : PsS V w [sObv, sEq, sThree]) : Calls Tryz.prog 78 #[.pointer (some ⟨V.heap.size, 0, none⟩)] w fun e w' => e = .returned termV ∧ PsS V w' [] ∧ Touch w w' [V.heap.size] := by
  obtain ⟨W, hW, Hz, hbW, hltW, _⟩ := boxed w zeroT.toArray 46
  simp only [zeroT] at hW
  have hk : W.heap[w.heap.size]? = some (.cells zeroT.toArray 46 (0, 0)) := by rw [← hW]; exact heap_alloc_new _ _
  have H1 := Lib.hid (take_ok V W sObv [sEq, sThree] (h.below hbW))
  have hVw := h.lt
  have hT0 : Touch w W [V.heap.size] := touch_below hbW _
  have Hk := Lib.hid hk
  clear h hk
  go_enter Tryz.func78, Tryz.ntmps78
  go_wp2_with fail
  refine H1.out.mono ?_
  rintro e w1 ⟨rfl, hp1, hT1⟩
  have hk1 := (hT1.block w.heap.size hltW (by simp; omega)).trans Hk.out
  have hT01 := hT0.trans hT1
  have u1 := hp1.wrong
  have hw1z := hT1.size
  have Hp1 := Lib.hid hp1
  clear hp1 H1 hT0 hT1
  unfold sObv
  go_wp2_with fail
  refine (fields_ok w1).mono ?_
  rintro e w2 ⟨rfl, hr2, hb2⟩
  have hk2 := heap_below hk1 hb2 (heap_lt hk1)
  have Hp2 := Lib.hid (Hp1.out.below hb2)
  have hT02 := hT01.trans (touch_below hb2 _)
  have hz2 := hb2.size
  clear u1 hk1 hT01
  go_wp2_with fail
  refine (idxFld_ok _ w2 hr2).mono ?_
  rintro e w9 ⟨rfl, rfl⟩
  clear hr2
  go_wp2_with fail
  refine (signs_ok w2).mono ?_
  rintro e w3 ⟨rfl, hr3, hb3⟩
  have hk3 := heap_below hk2 hb3 (heap_lt hk2)
  have H3 := Lib.hid (take_ok V w3 sEq [sThree] (Hp2.out.below hb3))
  have hT03 := hT02.trans (touch_below hb3 _)
  have hz3 := hb3.size
  clear hk2 hT02
  go_wp2_with fail
  refine H3.out.mono ?_
  rintro e w4 ⟨rfl, hp4, hT4⟩
  have hk4 := (hT4.block w.heap.size (heap_lt hk3) (by simp; omega)).trans hk3
  have hr4 := (hT4.block w2.heap.size (heap_lt hr3) (by simp; omega)).trans hr3
  have hT04 := hT03.trans hT4
  have hz4 := hT4.size
  have H4 := Lib.hid (take_ok V w4 sThree [] hp4)
  clear hk3 hr3 hT03 hp4 hT4
  go_wp2_with fail
  refine (idxSig_ok _ w4 hr4).mono ?_
  rintro e w9 ⟨rfl, rfl⟩
  clear hr4
  go_wp2_with fail
  refine H4.out.mono ?_
  rintro e w5 ⟨rfl, hp5, hT5⟩
  have hk5 := (hT5.block w.heap.size (heap_lt hk4) (by simp; omega)).trans hk4
  have hT05 := hT04.trans hT5
  have Hp5 := Lib.hid hp5
  have hz5 := hT5.size
  clear hk4 hT04 hT5 hp5
  unfold sThree
  go_wp2_with fail
  refine (atoi1_ok w5).mono ?_
  rintro e w6 ⟨rfl, hb6⟩
  have hk6 := heap_below hk5 hb6 (heap_lt hk5)
  have hT06 := hT05.trans (touch_below hb6 _)
  have Hp6 := Lib.hid (Hp5.out.below hb6)
  clear hk5 hT05
  go_wp2_with fail
  refine (itoa3_ok w6).mono ?_
  rintro e w9 ⟨rfl, rfl⟩
  obtain ⟨⟨r0, r1, r2, r3, r4⟩, g0, g1, g2, g3, g4⟩ := cells5 hk6
  have Hk6 := Lib.hid hk6
  have hset : Touch w6 (((((w6.setCell ⟨w.heap.size, 0, none⟩ (.int .i64 1)).setCell ⟨w.heap.size, 1, none⟩ (.int .i64 2)).setCell ⟨w.heap.size, 2, none⟩ (.int .i64 1)).setCell ⟨w.heap.size, 3, none⟩ (.int .i64 3)).setCell ⟨w.heap.size, 4, none⟩ (.slice none 0 0)) [w.heap.size] := grown_touch (setCells_grown w.heap.size [.int .i64 1, .int .i64 2, .int .i64 1, .int .i64 3, .slice none 0 0] w6 0) (by simp)
  have HpF := Lib.hid (Hp6.out.off hset hVw)
  have HTF := Lib.hid (touch_new hT06 hset (Nat.le_refl _))
  clear hset hk6 hT06
  go_wp2_with fail
  exact bodyPost_ret (results_cell_row rfl _ _ w.heap.size 46 #[.int .i64 1, .int .i64 2, .int .i64 1, .int .i64 3, .slice none 0 0] (0, 0) _ (by simp) (heap_set5 Hk6.out) Tryz.underlying46 rfl (by kernel_rfl)) rfl ⟨rfl, HpF.out, HTF.out⟩
end Go.Proofs.YtikfffojeakjoaaGreatDoor
/- Package query: Parse at one text. No condition. -/
namespace Go.Proofs.YtikfffojeakjoaaGreatDoor
open Go.RowKit Go.Maps

set_option maxHeartbeats 2000000 in
theorem qjoined_ok (k : Int) (g : Nat) (w : World) (h : w.heap[g]? = some (.cells [.int .i64 1, .int .i64 2, .int .i64 1, .int .i64 3, .slice none 0 0].toArray 46 (0, 0))) :
    Calls Tryz.prog 49 #[.int .i64 k, .slice (some ⟨g, 0, none⟩) 1 1] w fun e w' => e = .returned termV ∧ Below w.heap.size w w' := by
  obtain ⟨W, hW, Hz, hbW, hltW, _⟩ := boxed w zeroT.toArray 46
  simp only [zeroT] at hW
  have hk : W.heap[w.heap.size]? = some (.cells zeroT.toArray 46 (0, 0)) := by rw [← hW]; exact heap_alloc_new _ _
  obtain ⟨⟨c0, c1, c2, c3, c4⟩, _⟩ := cells5 (heap_below h hbW (heap_lt h))
  obtain ⟨⟨r0, r1, r2, r3, r4⟩, g0, g1, g2, g3, g4⟩ := cells5 hk
  have Hk := Lib.hid hk
  clear h hk
  go_enter Tryz.func49, Tryz.ntmps49
  go_wp2_with fail
  exact bodyPost_ret (results_cell_row rfl _ _ w.heap.size 46 #[.int .i64 1, .int .i64 2, .int .i64 1, .int .i64 3, .slice none 0 0] (0, 0) _ (by simp) (heap_set5 Hk.out) Tryz.underlying46 rfl (by kernel_rfl)) rfl ⟨rfl, below_set5 hbW (Nat.le_refl _) hbW.size⟩
set_option maxHeartbeats 4000000 in
set_option maxRecDepth 100000 in
theorem qsum_ok (V w : World) (h : PsS V w [sObv, sEq, sThree]) : Calls Tryz.prog 46 #[.pointer (some ⟨V.heap.size, 0, none⟩)] w fun e w' => e = .returned termV ∧ PsS V w' [] ∧ Touch w w' [V.heap.size] := by
  obtain ⟨W, hW, Hz, hbW, hltW, _⟩ := boxed w zeroT.toArray 46
  simp only [zeroT] at hW
  have hk : W.heap[w.heap.size]? = some (.cells zeroT.toArray 46 (0, 0)) := by rw [← hW]; exact heap_alloc_new _ _
  have H1 := Lib.hid (part_ok V W (h.below hbW))
  have hVw := h.lt
  have hT0 : Touch w W [V.heap.size] := touch_below hbW _
  have Hk := Lib.hid hk
  clear h hk
  go_enter Tryz.func46, Tryz.ntmps46
  go_wp2_with fail
  refine H1.out.mono ?_
  rintro e w1 ⟨rfl, hp1, hT1⟩
  have hk1 := (hT1.block w.heap.size hltW (by simp; omega)).trans Hk.out
  have hT01 := hT0.trans hT1
  obtain ⟨W2, hW2, Hz2, hb2, hlt2, _⟩ := boxed w1 #[.int .i64 1, .int .i64 2, .int .i64 1, .int .i64 3, .slice none 0 0] 46
  have hr2 : W2.heap[w1.heap.size]? = some (.cells [.int .i64 1, .int .i64 2, .int .i64 1, .int .i64 3, .slice none 0 0].toArray 46 (0, 0)) := by rw [← hW2]; exact heap_alloc_new _ _
  have hp2 := hp1.below hb2
  have u2 := hp2.wrong
  have HP := Lib.hid (peek0_ok V W2 hp2)
  have Hp2 := Lib.hid hp2
  have HJ := Lib.hid (qjoined_ok 2 w1.heap.size W2 hr2)
  have hk2 := heap_below hk1 hb2 (heap_lt hk1)
  have hT02 := hT01.trans (touch_below hb2 _)
  clear hk1 hp1 hp2 hT01 hr2 H1 hT0 hT1
  unfold termV
  go_wp2_with fail
  clear hW2
  refine wp_loop_rounds 1 ?_
  rw [rounds_succ]
  go_wp2_with fail
  refine HP.out.mono ?_
  rintro e w9 ⟨rfl, rfl⟩
  clear u2 HP
  go_wp2_with fail
  refine HJ.out.mono ?_
  rintro e w3 ⟨rfl, hb3⟩
  have hk3 := heap_below hk2 hb3 (heap_lt hk2)
  have hT03 := hT02.trans (touch_below hb3 _)
  have Hp3 := Lib.hid (Hp2.out.below hb3)
  obtain ⟨⟨r0, r1, r2, r3, r4⟩, g0, g1, g2, g3, g4⟩ := cells5 hk3
  have Hk3 := Lib.hid hk3
  have hset : Touch w3 (((((w3.setCell ⟨w.heap.size, 0, none⟩ (.int .i64 1)).setCell ⟨w.heap.size, 1, none⟩ (.int .i64 2)).setCell ⟨w.heap.size, 2, none⟩ (.int .i64 1)).setCell ⟨w.heap.size, 3, none⟩ (.int .i64 3)).setCell ⟨w.heap.size, 4, none⟩ (.slice none 0 0)) [w.heap.size] := grown_touch (setCells_grown w.heap.size [.int .i64 1, .int .i64 2, .int .i64 1, .int .i64 3, .slice none 0 0] w3 0) (by simp)
  have HpF := Lib.hid (Hp3.out.off hset hVw)
  have HTF := Lib.hid (touch_new hT03 hset (Nat.le_refl _))
  clear hset hk3 hk2 hT03 hT02 HJ
  unfold termV
  go_wp2_with fail
  exact bodyPost_ret (results_cell_row rfl _ _ w.heap.size 46 #[.int .i64 1, .int .i64 2, .int .i64 1, .int .i64 3, .slice none 0 0] (0, 0) _ (by simp) (heap_set5 Hk3.out) Tryz.underlying46 rfl (by kernel_rfl)) rfl ⟨rfl, HpF.out, HTF.out⟩
set_option maxHeartbeats 4000000 in
set_option maxRecDepth 100000 in
theorem qquery_ok (V w : World) (h : PsS V w [sObv, sEq, sThree]) : Calls Tryz.prog 27 #[.pointer (some ⟨V.heap.size, 0, none⟩)] w fun e w' => e = .returned termV ∧ PsS V w' [] ∧ Touch w w' [V.heap.size] := by
  obtain ⟨W, hW, Hz, hbW, hltW, _⟩ := boxed w zeroT.toArray 46
  simp only [zeroT] at hW
  have hk : W.heap[w.heap.size]? = some (.cells zeroT.toArray 46 (0, 0)) := by rw [← hW]; exact heap_alloc_new _ _
  have H1 := Lib.hid (qsum_ok V W (h.below hbW))
  have hVw := h.lt
  have hT0 : Touch w W [V.heap.size] := touch_below hbW _
  have Hk := Lib.hid hk
  clear h hk
  go_enter Tryz.func27, Tryz.ntmps27
  go_wp2_with fail
  refine H1.out.mono ?_
  rintro e w1 ⟨rfl, hp1, hT1⟩
  have hk1 := (hT1.block w.heap.size hltW (by simp; omega)).trans Hk.out
  have hT01 := hT0.trans hT1
  obtain ⟨W2, hW2, Hz2, hb2, hlt2, _⟩ := boxed w1 #[.int .i64 1, .int .i64 2, .int .i64 1, .int .i64 3, .slice none 0 0] 46
  have hr2 : W2.heap[w1.heap.size]? = some (.cells [.int .i64 1, .int .i64 2, .int .i64 1, .int .i64 3, .slice none 0 0].toArray 46 (0, 0)) := by rw [← hW2]; exact heap_alloc_new _ _
  have hp2 := hp1.below hb2
  have u2 := hp2.wrong
  have HP := Lib.hid (peek0_ok V W2 hp2)
  have Hp2 := Lib.hid hp2
  have HJ := Lib.hid (qjoined_ok 3 w1.heap.size W2 hr2)
  have hk2 := heap_below hk1 hb2 (heap_lt hk1)
  have hT02 := hT01.trans (touch_below hb2 _)
  clear hk1 hp1 hp2 hT01 hr2 H1 hT0 hT1
  unfold termV
  go_wp2_with fail
  clear hW2
  refine wp_loop_rounds 1 ?_
  rw [rounds_succ]
  go_wp2_with fail
  refine HP.out.mono ?_
  rintro e w9 ⟨rfl, rfl⟩
  clear u2 HP
  go_wp2_with fail
  refine HJ.out.mono ?_
  rintro e w3 ⟨rfl, hb3⟩
  have hk3 := heap_below hk2 hb3 (heap_lt hk2)
  have hT03 := hT02.trans (touch_below hb3 _)
  have Hp3 := Lib.hid (Hp2.out.below hb3)
  obtain ⟨⟨r0, r1, r2, r3, r4⟩, g0, g1, g2, g3, g4⟩ := cells5 hk3
  have Hk3 := Lib.hid hk3
  have hset : Touch w3 (((((w3.setCell ⟨w.heap.size, 0, none⟩ (.int .i64 1)).setCell ⟨w.heap.size, 1, none⟩ (.int .i64 2)).setCell ⟨w.heap.size, 2, none⟩ (.int .i64 1)).setCell ⟨w.heap.size, 3, none⟩ (.int .i64 3)).setCell ⟨w.heap.size, 4, none⟩ (.slice none 0 0)) [w.heap.size] := grown_touch (setCells_grown w.heap.size [.int .i64 1, .int .i64 2, .int .i64 1, .int .i64 3, .slice none 0 0] w3 0) (by simp)
  have HpF := Lib.hid (Hp3.out.off hset hVw)
  have HTF := Lib.hid (touch_new hT03 hset (Nat.le_refl _))
  clear hset hk3 hk2 hT03 hT02 HJ
  unfold termV
  go_wp2_with fail
  exact bodyPost_ret (results_cell_row rfl _ _ w.heap.size 46 #[.int .i64 1, .int .i64 2, .int .i64 1, .int .i64 3, .slice none 0 0] (0, 0) _ (by simp) (heap_set5 Hk3.out) Tryz.underlying46 rfl (by kernel_rfl)) rfl ⟨rfl, HpF.out, HTF.out⟩
set_option maxHeartbeats 2000000 in
theorem qsize_ok (w : World) : Calls Tryz.prog 50 #[termV, .int .i64 40] w fun e w' => e = .returned (.int .i64 1) ∧ Below w.heap.size w w' := by
  obtain ⟨W, hW, Hz, hbW, hltW, hc⟩ := boxed w #[.int .i64 1, .int .i64 2, .int .i64 1, .int .i64 3, .slice none 0 0] 46
  have c4 := hc 4 _ rfl
  clear hc
  unfold termV
  go_enter Tryz.func50, Tryz.ntmps50
  go_wp2_with fail
  refine wp_loop_rounds 1 ?_
  rw [rounds_succ]
  go_wp2_with fail
  go_ret
  exact ⟨rfl, hbW⟩
set_option maxHeartbeats 4000000 in
set_option maxRecDepth 100000 in
theorem qfits_ok (w : World) : Calls Tryz.prog 51 #[termV, .int .i64 8] w fun e w' => e = .returned (.bool true) ∧ Below w.heap.size w w' := by
  obtain ⟨W, hW, Hz, hbW, hltW, _⟩ := boxed w #[.int .i64 1, .int .i64 2, .int .i64 1, .int .i64 3, .slice none 0 0] 46
  have hk : W.heap[w.heap.size]? = some (.cells [.int .i64 1, .int .i64 2, .int .i64 1, .int .i64 3, .slice none 0 0].toArray 46 (0, 0)) := by rw [← hW]; exact heap_alloc_new _ _
  obtain ⟨X, hX, HzX, hbX, hltX, hcX⟩ := boxed W #[.int .i64 8] 3
  obtain ⟨⟨c0, c1, c2, c3, c4⟩, _⟩ := cells5 (heap_below hk hbX (heap_lt hk))
  have x0 := hcX 0 _ rfl
  have hw := below_trans hbW hbX
  clear hcX hk
  unfold termV
  go_enter Tryz.func51, Tryz.ntmps51
  go_wp2_with fail
  have hba : Below (X).heap.size (X) (X).drew := (Below.refl _ _).drew
  obtain ⟨wa, hwa⟩ : ∃ W, (X).drew = W := ⟨_, rfl⟩
  rw [hwa] at hba
  have HSt := Lib.hid fun (w9 : World) (hb : Below wa.heap.size wa w9) => (show (fun w' : World => Below wa.heap.size wa w' ∧ w'.cell? ⟨w.heap.size, 1, none⟩ = some (.int .i64 2) ∧ w'.cell? ⟨w.heap.size, 2, none⟩ = some (.int .i64 1) ∧ w'.cell? ⟨w.heap.size, 3, none⟩ = some (.int .i64 3) ∧ w'.cell? ⟨w.heap.size, 4, none⟩ = some (.slice none 0 0)) w9 from ⟨hb, cell_later hb (cell_later hba c1), cell_later hb (cell_later hba c2), cell_later hb (cell_later hba c3), cell_later hb (cell_later hba c4)⟩)
  have hHeld := HSt.out wa (Below.refl _ _)
  refine wp_region_S 38 (fun w' : World => Below wa.heap.size wa w' ∧ w'.cell? ⟨w.heap.size, 1, none⟩ = some (.int .i64 2) ∧ w'.cell? ⟨w.heap.size, 2, none⟩ = some (.int .i64 1) ∧ w'.cell? ⟨w.heap.size, 3, none⟩ = some (.int .i64 3) ∧ w'.cell? ⟨w.heap.size, 4, none⟩ = some (.slice none 0 0)) (by kernel_rfl) (by decide) ?_
  rw [hwa]
  clear hwa
  refine wpAnyS_takeD 0 (some 26) (.pointer (some ⟨w.heap.size, 4, none⟩)) (by rfl) (by rfl) (by kernel_rfl) (by exact fun _ _ _ h => h) (by rfl) (fun w' hS => by go_simp) hHeld ?_
  simp only [Act.put, List.setIfInBounds_toArray, List.set_cons_succ, List.set_cons_zero]
  refine wpAnyS_takeD 1 (some 27) (.slice none 0 0) (by rfl) (by rfl) (by kernel_rfl) (by exact fun _ _ _ h => h) (by rfl) (fun w' hS => by (obtain ⟨_, x1, x2, x3, x4⟩ := hS; go_simp)) hHeld ?_
  simp only [Act.put, List.setIfInBounds_toArray, List.set_cons_succ, List.set_cons_zero]
  refine wpAnyS_takeD 2 (some 28) (.int .i64 0) (by rfl) (by rfl) (by kernel_rfl) (by exact fun _ _ _ h => h) (by rfl) (fun w' hS => by go_simp) hHeld ?_
  simp only [Act.put, List.setIfInBounds_toArray, List.set_cons_succ, List.set_cons_zero]
  refine wpAnyS_takeD 3 (some 29) (.bool true) (by rfl) (by rfl) (by kernel_rfl) (by exact fun _ _ _ h => h) (by rfl) (fun w' hS => by go_simp) hHeld ?_
  simp only [Act.put, List.setIfInBounds_toArray, List.set_cons_succ, List.set_cons_zero]
  refine wpAnyS_takeD 4 (some 30) (.bool true) (by rfl) (by rfl) (by kernel_rfl) (by exact fun _ _ _ h => h) (by rfl) (fun w' hS => by go_simp) hHeld ?_
  simp only [Act.put, List.setIfInBounds_toArray, List.set_cons_succ, List.set_cons_zero]
  refine wpAnyS_takeG 5 (some 31) (.pointer (some ⟨w.heap.size, 1, none⟩)) (by rfl) (by rfl) (by kernel_rfl) (by exact fun _ _ _ h => h) (by rfl) (fun w' hS => by go_simp) hHeld ?_
  simp only [Act.put, List.setIfInBounds_toArray, List.set_cons_succ, List.set_cons_zero]
  refine wpAnyS_takeG 6 (some 32) (.int .i64 2) (by rfl) (by rfl) (by kernel_rfl) (by exact fun _ _ _ h => h) (by rfl) (fun w' hS => by (obtain ⟨_, x1, x2, x3, x4⟩ := hS; go_simp)) hHeld ?_
  simp only [Act.put, List.setIfInBounds_toArray, List.set_cons_succ, List.set_cons_zero]
  refine wpAnyS_takeG 7 (some 33) (.bool true) (by rfl) (by rfl) (by kernel_rfl) (by exact fun _ _ _ h => h) (by rfl) (fun w' hS => by go_simp) hHeld ?_
  simp only [Act.put, List.setIfInBounds_toArray, List.set_cons_succ, List.set_cons_zero]
  refine wpAnyS_takeD 8 (some 34) (.bool true) (by rfl) (by rfl) (by kernel_rfl) (by exact fun _ _ _ h => h) (by rfl) (fun w' hS => by go_simp) hHeld ?_
  simp only [Act.put, List.setIfInBounds_toArray, List.set_cons_succ, List.set_cons_zero]
  refine wpAnyS_takeD 9 (some 35) (.bool true) (by rfl) (by rfl) (by kernel_rfl) (by exact fun _ _ _ h => h) (by rfl) (fun w' hS => by go_simp) hHeld ?_
  simp only [Act.put, List.setIfInBounds_toArray, List.set_cons_succ, List.set_cons_zero]
  refine wpAnyS_takeG 10 (some 36) (.pointer (some ⟨w.heap.size, 1, none⟩)) (by rfl) (by rfl) (by kernel_rfl) (by exact fun _ _ _ h => h) (by rfl) (fun w' hS => by go_simp) hHeld ?_
  simp only [Act.put, List.setIfInBounds_toArray, List.set_cons_succ, List.set_cons_zero]
  refine wpAnyS_takeG 11 (some 37) (.int .i64 2) (by rfl) (by rfl) (by kernel_rfl) (by exact fun _ _ _ h => h) (by rfl) (fun w' hS => by (obtain ⟨_, x1, x2, x3, x4⟩ := hS; go_simp)) hHeld ?_
  simp only [Act.put, List.setIfInBounds_toArray, List.set_cons_succ, List.set_cons_zero]
  refine wpAnyS_one 12 (by kernel_rfl) (by rfl) (by decide) (fun K hK => ?_)
  have HK := Lib.hid hK; clear hK
  rw [if_pos (by rfl)]
  go_simp
  refine (fields_ok wa).mono ?_
  rintro e w5 ⟨rfl, _, hb5⟩
  clear hHeld
  have hHeld := HSt.out _ hb5
  refine HK.out _ _ (HSt.out _ hb5) ?_
  clear HK
  refine wpAnyS_takeG 13 (some 39) (.int .i64 8) (by rfl) (by rfl) (by kernel_rfl) (by exact fun _ _ _ h => h) (by rfl) (fun w' hS => by go_simp) hHeld ?_
  simp only [Act.put, List.setIfInBounds_toArray, List.set_cons_succ, List.set_cons_zero]
  refine wpAnyS_takeG 14 (some 40) (.bool true) (by rfl) (by rfl) (by kernel_rfl) (by exact fun _ _ _ h => h) (by rfl) (fun w' hS => by go_simp) hHeld ?_
  simp only [Act.put, List.setIfInBounds_toArray, List.set_cons_succ, List.set_cons_zero]
  refine wpAnyS_takeD 15 (some 41) (.bool true) (by rfl) (by rfl) (by kernel_rfl) (by exact fun _ _ _ h => h) (by rfl) (fun w' hS => by go_simp) hHeld ?_
  simp only [Act.put, List.setIfInBounds_toArray, List.set_cons_succ, List.set_cons_zero]
  refine wpAnyS_takeD 16 (some 42) (.bool true) (by rfl) (by rfl) (by kernel_rfl) (by exact fun _ _ _ h => h) (by rfl) (fun w' hS => by go_simp) hHeld ?_
  simp only [Act.put, List.setIfInBounds_toArray, List.set_cons_succ, List.set_cons_zero]
  refine wpAnyS_takeG 17 (some 43) (.pointer (some ⟨w.heap.size, 2, none⟩)) (by rfl) (by rfl) (by kernel_rfl) (by exact fun _ _ _ h => h) (by rfl) (fun w' hS => by go_simp) hHeld ?_
  simp only [Act.put, List.setIfInBounds_toArray, List.set_cons_succ, List.set_cons_zero]
  refine wpAnyS_takeG 18 (some 44) (.int .i64 1) (by rfl) (by rfl) (by kernel_rfl) (by exact fun _ _ _ h => h) (by rfl) (fun w' hS => by (obtain ⟨_, x1, x2, x3, x4⟩ := hS; go_simp)) hHeld ?_
  simp only [Act.put, List.setIfInBounds_toArray, List.set_cons_succ, List.set_cons_zero]
  refine wpAnyS_takeG 19 (some 45) (.bool true) (by rfl) (by rfl) (by kernel_rfl) (by exact fun _ _ _ h => h) (by rfl) (fun w' hS => by go_simp) hHeld ?_
  simp only [Act.put, List.setIfInBounds_toArray, List.set_cons_succ, List.set_cons_zero]
  refine wpAnyS_takeD 20 (some 46) (.bool true) (by rfl) (by rfl) (by kernel_rfl) (by exact fun _ _ _ h => h) (by rfl) (fun w' hS => by go_simp) hHeld ?_
  simp only [Act.put, List.setIfInBounds_toArray, List.set_cons_succ, List.set_cons_zero]
  refine wpAnyS_takeD 21 (some 47) (.bool true) (by rfl) (by rfl) (by kernel_rfl) (by exact fun _ _ _ h => h) (by rfl) (fun w' hS => by go_simp) hHeld ?_
  simp only [Act.put, List.setIfInBounds_toArray, List.set_cons_succ, List.set_cons_zero]
  refine wpAnyS_takeG 22 (some 48) (.pointer (some ⟨w.heap.size, 2, none⟩)) (by rfl) (by rfl) (by kernel_rfl) (by exact fun _ _ _ h => h) (by rfl) (fun w' hS => by go_simp) hHeld ?_
  simp only [Act.put, List.setIfInBounds_toArray, List.set_cons_succ, List.set_cons_zero]
  refine wpAnyS_takeG 23 (some 49) (.int .i64 1) (by rfl) (by rfl) (by kernel_rfl) (by exact fun _ _ _ h => h) (by rfl) (fun w' hS => by (obtain ⟨_, x1, x2, x3, x4⟩ := hS; go_simp)) hHeld ?_
  simp only [Act.put, List.setIfInBounds_toArray, List.set_cons_succ, List.set_cons_zero]
  refine wpAnyS_one 24 (by kernel_rfl) (by rfl) (by decide) (fun K hK => ?_)
  have HK := Lib.hid hK; clear hK
  rw [if_pos (by rfl)]
  go_simp
  refine (signs_ok w5).mono ?_
  rintro e w6 ⟨rfl, _, hb6⟩
  clear hHeld
  have hb56 := below_trans hb5 hb6
  have hHeld := HSt.out _ hb56
  refine HK.out _ _ (HSt.out _ hb56) ?_
  clear HK
  refine wpAnyS_takeG 25 (some 51) (.int .i64 7) (by rfl) (by rfl) (by kernel_rfl) (by exact fun _ _ _ h => h) (by rfl) (fun w' hS => by go_simp) hHeld ?_
  simp only [Act.put, List.setIfInBounds_toArray, List.set_cons_succ, List.set_cons_zero]
  refine wpAnyS_takeG 26 (some 52) (.bool true) (by rfl) (by rfl) (by kernel_rfl) (by exact fun _ _ _ h => h) (by rfl) (fun w' hS => by go_simp) hHeld ?_
  simp only [Act.put, List.setIfInBounds_toArray, List.set_cons_succ, List.set_cons_zero]
  refine wpAnyS_takeD 27 (some 53) (.bool true) (by rfl) (by rfl) (by kernel_rfl) (by exact fun _ _ _ h => h) (by rfl) (fun w' hS => by go_simp) hHeld ?_
  simp only [Act.put, List.setIfInBounds_toArray, List.set_cons_succ, List.set_cons_zero]
  refine wpAnyS_takeD 28 (some 54) (.bool true) (by rfl) (by rfl) (by kernel_rfl) (by exact fun _ _ _ h => h) (by rfl) (fun w' hS => by go_simp) hHeld ?_
  simp only [Act.put, List.setIfInBounds_toArray, List.set_cons_succ, List.set_cons_zero]
  refine wpAnyS_takeG 29 (some 55) (.pointer (some ⟨w.heap.size, 3, none⟩)) (by rfl) (by rfl) (by kernel_rfl) (by exact fun _ _ _ h => h) (by rfl) (fun w' hS => by go_simp) hHeld ?_
  simp only [Act.put, List.setIfInBounds_toArray, List.set_cons_succ, List.set_cons_zero]
  refine wpAnyS_takeG 30 (some 56) (.int .i64 3) (by rfl) (by rfl) (by kernel_rfl) (by exact fun _ _ _ h => h) (by rfl) (fun w' hS => by (obtain ⟨_, x1, x2, x3, x4⟩ := hS; go_simp)) hHeld ?_
  simp only [Act.put, List.setIfInBounds_toArray, List.set_cons_succ, List.set_cons_zero]
  refine wpAnyS_takeG 31 (some 57) (.bool true) (by rfl) (by rfl) (by kernel_rfl) (by exact fun _ _ _ h => h) (by rfl) (fun w' hS => by go_simp) hHeld ?_
  simp only [Act.put, List.setIfInBounds_toArray, List.set_cons_succ, List.set_cons_zero]
  refine wpAnyS_takeD 32 (some 58) (.bool true) (by rfl) (by rfl) (by kernel_rfl) (by exact fun _ _ _ h => h) (by rfl) (fun w' hS => by go_simp) hHeld ?_
  simp only [Act.put, List.setIfInBounds_toArray, List.set_cons_succ, List.set_cons_zero]
  refine wpAnyS_takeD 33 (some 59) (.bool true) (by rfl) (by rfl) (by kernel_rfl) (by exact fun _ _ _ h => h) (by rfl) (fun w' hS => by go_simp) hHeld ?_
  simp only [Act.put, List.setIfInBounds_toArray, List.set_cons_succ, List.set_cons_zero]
  refine wpAnyS_takeG 34 (some 60) (.pointer (some ⟨w.heap.size, 3, none⟩)) (by rfl) (by rfl) (by kernel_rfl) (by exact fun _ _ _ h => h) (by rfl) (fun w' hS => by go_simp) hHeld ?_
  simp only [Act.put, List.setIfInBounds_toArray, List.set_cons_succ, List.set_cons_zero]
  refine wpAnyS_takeG 35 (some 61) (.int .i64 3) (by rfl) (by rfl) (by kernel_rfl) (by exact fun _ _ _ h => h) (by rfl) (fun w' hS => by (obtain ⟨_, x1, x2, x3, x4⟩ := hS; go_simp)) hHeld ?_
  simp only [Act.put, List.setIfInBounds_toArray, List.set_cons_succ, List.set_cons_zero]
  refine wpAnyS_takeG 36 (some 62) (.bool true) (by rfl) (by rfl) (by kernel_rfl) (by exact fun _ _ _ h => h) (by rfl) (fun w' hS => by go_simp) hHeld ?_
  simp only [Act.put, List.setIfInBounds_toArray, List.set_cons_succ, List.set_cons_zero]
  refine wpAnyS_takeD 37 (some 63) (.bool true) (by rfl) (by rfl) (by kernel_rfl) (by exact fun _ _ _ h => h) (by rfl) (fun w' hS => by go_simp) hHeld ?_
  simp only [Act.put, List.setIfInBounds_toArray, List.set_cons_succ, List.set_cons_zero]
  clear hHeld
  refine (show tailOf _ _ _ _ _ _ _ _ from ⟨by kernel_rfl, ?_⟩)
  simp only [List.drop_succ_cons, List.drop_zero]
  go_wp2_with fail
  go_ret
  exact ⟨rfl, below_trans hw (below_trans hba hb56)⟩
set_option maxHeartbeats 2000000 in
theorem qvalid_ok (w : World) : Calls Tryz.prog 28 #[termV] w fun e w' => e = .returned (.bool true) ∧ Below w.heap.size w w' := by
  obtain ⟨W, hW, Hz, hbW, hltW, _⟩ := boxed w #[.int .i64 1, .int .i64 2, .int .i64 1, .int .i64 3, .slice none 0 0] 46
  have hk : W.heap[w.heap.size]? = some (.cells [.int .i64 1, .int .i64 2, .int .i64 1, .int .i64 3, .slice none 0 0].toArray 46 (0, 0)) := by rw [← hW]; exact heap_alloc_new _ _
  obtain ⟨⟨c0, c1, c2, c3, c4⟩, _⟩ := cells5 hk
  have H1 := Lib.hid (qsize_ok W)
  have Hk := Lib.hid hk
  clear hk
  unfold termV at H1 ⊢
  go_enter Tryz.func28, Tryz.ntmps28
  go_wp2_with fail
  refine H1.out.mono ?_
  rintro e w1 ⟨rfl, hb1⟩
  obtain ⟨⟨c0, c1, c2, c3, c4⟩, _⟩ := cells5 (heap_below Hk.out hb1 (heap_lt Hk.out))
  go_wp2_with fail
  refine (qfits_ok w1).mono ?_
  rintro e w2 ⟨rfl, hb2⟩
  go_wp2_with fail
  go_ret
  exact ⟨rfl, below_trans hbW (below_trans hb1 hb2)⟩
set_option maxHeartbeats 4000000 in
set_option maxRecDepth 100000 in
theorem qparse_ok (w : World) : Calls Tryz.prog 11 #[.string ⟨#[111, 98, 118, 32, 61, 32, 51]⟩] w fun e w' => e = .returned (.tuple #[termV, .int .i64 0]) ∧ Below w.heap.size w w' := by
  obtain ⟨W, hW, Hz, hbW, hltW, _⟩ := boxed w zeroT.toArray 46
  simp only [zeroT] at hW
  have hk : W.heap[w.heap.size]? = some (.cells zeroT.toArray 46 (0, 0)) := by rw [← hW]; exact heap_alloc_new _ _
  have Hk := Lib.hid hk
  clear hk
  go_enter Tryz.func11, Tryz.ntmps11
  go_wp2_with fail
  refine (tokens_ok W).mono ?_
  rintro e w1 ⟨u, rfl, ho, hb1⟩
  obtain ⟨Au, cu, rfl, _⟩ := id ho.slOf
  obtain ⟨X, hX, HzX, hbX, hltX, _⟩ := boxed w1 #[.slice Au 3 cu, .bool false] 86
  have hP : PsS w1 X [sObv, sEq, sThree] := ⟨_, (by rw [← hX]; exact heap_alloc_new _ _), (Own.base ho (Nat.zero_le _)).qu, hbX⟩
  have HQ := Lib.hid (qquery_ok w1 X hP)
  have hk1 := heap_below Hk.out (below_trans hb1 hbX) (heap_lt Hk.out)
  have hwX := below_trans hbW (below_trans hb1 hbX)
  have hlw1 := Nat.lt_of_lt_of_le hltW hb1.size
  clear ho hP
  go_wp2_with fail
  refine HQ.out.mono ?_
  rintro e w3 ⟨rfl, hp3, hT3⟩
  have hk3 := (hT3.block w.heap.size (heap_lt hk1) (by simp; omega)).trans hk1
  have hw3 : Below w.heap.size w w3 := ((touch_below hwX [w1.heap.size]).trans hT3).below (by simp; omega) (Nat.le_refl _)
  obtain ⟨Y1, Y2, hY1, hY2, HzY2, hkY1, hkY2, hbY2, hltY2⟩ := fresh w3 zeroT [.int .i64 1, .int .i64 2, .int .i64 1, .int .i64 3, .slice none 0 0] 46 rfl
  have hsY2 : ((((Y1.setCell ⟨w3.heap.size, 0, none⟩ (.int .i64 1)).setCell ⟨w3.heap.size, 1, none⟩ (.int .i64 2)).setCell ⟨w3.heap.size, 2, none⟩ (.int .i64 1)).setCell ⟨w3.heap.size, 3, none⟩ (.int .i64 3)).setCell ⟨w3.heap.size, 4, none⟩ (.slice none 0 0) = Y2 := hY2
  simp only [zeroT] at hY1
  clear hY2
  obtain ⟨⟨z0, z1, z2, z3, z4⟩, f0, f1, f2, f3, f4⟩ := cells5 hkY1
  obtain ⟨⟨s0, s1, s2, s3, s4⟩, _⟩ := cells5 hkY2
  obtain ⟨v, hv, hq, _⟩ := hp3.below hbY2
  obtain ⟨Av, cv, rfl⟩ := hq.nil
  obtain ⟨⟨p0, p1⟩, _⟩ := cells2 hv
  have hk4 := heap_below hk3 hbY2 (heap_lt hk3)
  have HkY := Lib.hid hkY2; have Hk4 := Lib.hid hk4
  have hw4 := below_trans hw3 hbY2
  clear hkY1 hkY2 hv hq hp3 hk3 hk1 hk4 hT3 HQ
  unfold termV
  go_wp2_with fail
  refine (qvalid_ok Y2).mono ?_
  rintro e w5 ⟨rfl, hb5⟩
  obtain ⟨⟨s0, s1, s2, s3, s4⟩, _⟩ := cells5 (heap_below HkY.out hb5 (heap_lt HkY.out))
  have hk5 := heap_below Hk4.out hb5 (heap_lt Hk4.out)
  obtain ⟨⟨r0, r1, r2, r3, r4⟩, g0, g1, g2, g3, g4⟩ := cells5 hk5
  have Hk5 := Lib.hid hk5
  have hw5 := below_trans hw4 hb5
  clear hk5 z0 z1 z2 z3 z4 f0 f1 f2 f3 f4 p0 p1 hsY2
  go_wp2_with fail
  exact bodyPost_ret (results_cell_tmp_row rfl _ _ w.heap.size 46 #[.int .i64 1, .int .i64 2, .int .i64 1, .int .i64 3, .slice none 0 0] (0, 0) _ (by simp) (heap_set5 Hk5.out) Tryz.underlying46 rfl (by kernel_rfl)) rfl ⟨rfl, below_set5 hw5 (Nat.le_refl _) hw5.size⟩
end Go.Proofs.YtikfffojeakjoaaGreatDoor
