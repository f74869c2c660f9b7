/- maps.Values at a ledger's decisions, maps.Keys at its marks: the iterators for every loop body; slices.AppendSeq, Collect, SortedFunc over them. Condition: the map reads as such. -/
import Derived.Test.YthnckicnnhkkaaaGreatLedA
import Derived.Test.YthnckicnnhkkaaaGreatIter
import Derived.RangeFuncMany
import Derived.Test.YthnckicnnhkkaaaGreatCovT
import Derived.Test.YthnckicnnhkkaaaGreatCmpD
import Derived.Test.YthnckicnnhkkaaaGreatShelfL
namespace Go.Proofs.YthnckicnnhkkaaaGreat
open Go.RowKit Go.Maps Go.Shelf
attribute [local go_sem] Oper.semAt_some

section
variable {κ β : Type} [DecidableEq κ] {P : Program} {k e t : TypeId} (KE : KeyEnc P k κ) (EE : ElEnc P e β)
/-- An element behind a wrapper: no simp rule splits it. -/
structure Wr (β : Type) where
  v : β
/-- A walk over a map, whatever else becomes of the world. -/
structure RunAt (w : World) (b r : Nat) (m : List (κ × β)) (todo : List κ) : Prop where
  run : ∃ (D : DataW Unit) (left : Lit → Bool) (cnt n : Nat), w.ranges P k EE.R b r n D left cnt ∧ (∀ x, KE.ok x → ∀ zd, D.atKey (KE.lit x) zd = match lookM m x with | some y => EE.el y | none => zd) ∧ ∀ x, KE.ok x → left (KE.lit x) = decide (x ∈ todo)
  sub : ∀ x ∈ todo, x ∈ m.map Prod.fst
  good : ∀ p ∈ m, KE.ok p.1 ∧ EE.ok p.2
variable {KE EE} {w w' : World} {b r : Nat} {m : List (κ × β)} {todo : List κ}
theorem RangeAt.runAt (h : RangeAt KE EE w b r m todo) : RunAt KE EE w b r m todo := ⟨h.run, h.sub, h.map.good⟩
theorem RunAt.walks (h : RunAt KE EE w b r m todo) (hk : KeepsWalks w w') : RunAt KE EE w' b r m todo ∧ w'.rangeLeft b r = w.rangeLeft b r := by
  obtain ⟨⟨D, left, cnt, n, h1, h2, h3⟩, h4, h5⟩ := h
  exact ⟨⟨⟨D, left, cnt, n, h1.of_walks hk, h2, h3⟩, h4, h5⟩, by rw [h1.left_eq, (h1.of_walks hk).left_eq]⟩
theorem RunAt.walk (h : RunAt KE EE w b r m todo) : ∃ o : Obj, w.heap[r]? = some o ∧ o.isWalk = true := by
  obtain ⟨D, left, cnt, n, h1, _⟩ := h.run
  exact h1.iter_walk
variable {F : Fence} {nF : Nat} {ops : Array Oper} {rest : List Oper} {o : Oper} {a : Act} {Q : Exit → Act → World → Prop}
theorem wpListIn_nextRun (hg : o.guard = none) (it : Operand) (hop : o.op = Op.next it false) (h : RunAt KE EE w b r m todo) (hit : a.eval it = .pointer (some ⟨r, 0, none⟩))
    (hDone : todo = [] → wpListIn F nF P ops Q rest (a.put o.dst (.tuple #[.bool false])) w)
    (hMore : ∀ (x : κ) (y : Wr β) (w' : World), x ∈ todo → lookM m x = some y.v → RunAt KE EE w' b r m (todo.filter fun z => decide (z ≠ x)) → w'.rangeLeft b r < w.rangeLeft b r → w.grownBy w' (some r) → w'.heap.size = w.heap.size →
      (Instr.entry (.pointer (some ⟨r, 0, none⟩))).run P w' = .ok (.tuple #[KE.val x, EE.val y.v]) w' → wpListIn F nF P ops Q rest (a.put o.dst (.tuple #[.bool true, KE.val x, EE.val y.v])) w') :
    wpListIn F nF P ops Q (o :: rest) a w := by
  obtain ⟨D, left, cnt, n, h1, h2, h3⟩ := h.run
  have hok : ∀ x ∈ todo, KE.ok x := fun x hx => by
    obtain ⟨p, hp, rfl⟩ := List.mem_map.1 (h.sub x hx)
    exact (h.good p hp).1
  refine wpListIn_next_ranges w hg it hop k KE.keyed EE.R KE.val EE.val (fun key kl hkey => by obtain ⟨x, _, hx, _⟩ := KE.inv hkey; exact ⟨x, hx⟩) (fun v y hv => by obtain ⟨x, _, hx, _⟩ := EE.inv hv; exact ⟨x, hx⟩) b r n D left cnt hit h1
    (fun _ hl => hDone ?_) (fun x c kl y w' cnt' hkey hlk hv hat hrg hlt hgr hsz hen => ?_)
  · refine List.eq_nil_iff_forall_not_mem.2 fun x hx => ?_
    have := h3 x (hok x hx)
    rw [hl] at this
    simp [hx] at this
  · obtain ⟨x', hx', e1, e2⟩ := KE.inv hkey
    obtain ⟨c', hc', e3, e4⟩ := EE.inv hv
    have hmem : x' ∈ todo := by
      have := h3 x' hx'
      rw [← e2, hlk] at this
      simpa using this.symm
    have hlook : lookM m x' = some c' := by
      have h5 := hat
      have h6 := h2 x' hx'
      rw [e2] at h5
      cases hl : lookM m x' with
      | none => exact absurd (List.mem_map.1 (h.sub x' hmem)) (fun ⟨p, hp, ep⟩ => (lookM_none.1 hl) (List.mem_map.2 ⟨p, hp, ep⟩))
      | some u =>
        rw [hl] at h6
        have e5 := (h6 (EE.el u)).symm.trans (h5 (EE.el u))
        rw [e4] at e5
        exact congrArg some (EE.inj e5)
    have hre : RunAt KE EE w' b r m (todo.filter fun z => decide (z ≠ x')) := by
      refine ⟨⟨D, _, cnt', n, hrg, h2, fun z hz => ?_⟩, fun z hz => h.sub z (List.mem_filter.1 hz).1, h.good⟩
      rw [h3 z hz, e2, Bool.eq_iff_iff]
      simp only [Bool.and_eq_true, decide_eq_true_eq, Bool.not_eq_true', List.mem_filter]
      refine and_congr_right fun hzt => ?_
      constructor
      · rintro h7 rfl
        rw [WideAt.sameKey_self (KE.keyed.key (KE.key hx'))] at h7
        cases h7
      · intro h7
        cases h8 : (KE.lit z).sameKey (KE.lit x')
        · rfl
        · exact absurd (KE.inj hz hx' (WideAt.sameKey_eq h8)) h7
    have hlt' : w'.rangeLeft b r < w.rangeLeft b r := by rw [h1.left_eq, hrg.left_eq]; exact hlt
    rw [e1, e3] at hen ⊢
    exact hMore x' ⟨c'⟩ w' hmem hlook hre hlt' hgr hsz hen
/-- What has come of a map's pairs, and what is still to come. -/
structure Got (m ps : List (κ × β)) (todo : List κ) : Prop where
  nod : (ps.map Prod.fst).Nodup
  sub : ∀ p ∈ ps, p ∈ m
  todo : ∀ x ∈ m.map Prod.fst, x ∈ todo ↔ x ∉ ps.map Prod.fst
omit [DecidableEq κ] in
theorem Got.start (m : List (κ × β)) : Got m [] (m.map Prod.fst) := ⟨by simp, by simp, fun x hx => by simp [hx]⟩
theorem Got.next {ps : List (κ × β)} (h : Got m ps todo) {x : κ} {y : β} (hx : x ∈ todo) (hl : lookM m x = some y) : Got m (ps ++ [(x, y)]) (todo.filter fun z => decide (z ≠ x)) ∧ ps.length < m.length := by
  have hm := lookM_some hl
  have hxm : x ∈ m.map Prod.fst := List.mem_map.2 ⟨_, hm, rfl⟩
  have hxp := (h.todo x hxm).1 hx
  have hg : Got m (ps ++ [(x, y)]) (todo.filter fun z => decide (z ≠ x)) := by
    refine ⟨?_, fun p hp => ?_, fun z hz => ?_⟩
    · rw [List.map_append, List.nodup_append]
      refine ⟨h.nod, by simp, fun a ha b hb e => ?_⟩
      simp at hb
      subst hb; subst e
      exact hxp ha
    · rcases List.mem_append.1 hp with hp | hp
      · exact h.sub p hp
      · simp at hp; subst hp; exact hm
    · rw [List.mem_filter, h.todo z hz, List.map_append, List.mem_append]
      simp
  refine ⟨hg, ?_⟩
  have h2 := nodup_len (l := (ps ++ [(x, y)]).map Prod.fst) (c := m.map Prod.fst) hg.nod (fun z hz => by
    obtain ⟨p, hp, rfl⟩ := List.mem_map.1 hz
    exact List.mem_map.2 ⟨p, hg.sub p hp, rfl⟩)
  simp at h2
  omega
theorem Got.all {ps : List (κ × β)} (h : Got m ps []) (hn : (m.map Prod.fst).Nodup) : ps.Perm m := by
  have hnm : m.Nodup := (List.pairwise_map.1 hn).imp fun {a b} hab e => hab (by rw [e])
  have hnp : ps.Nodup := (List.pairwise_map.1 h.nod).imp fun {a b} hab e => hab (by rw [e])
  classical
  refine (List.perm_ext_iff_of_nodup hnp hnm).2 fun p => ⟨h.sub p, fun hp => ?_⟩
  have h1 : p.1 ∈ m.map Prod.fst := List.mem_map.2 ⟨p, hp, rfl⟩
  have h2 : p.1 ∈ ps.map Prod.fst := Classical.byContradiction fun hc => by have := (h.todo p.1 h1).2 hc; simp at this
  obtain ⟨q, hq, hqe⟩ := List.mem_map.1 h2
  have h3 := (lookM_mem hn).2 (show (p.1, p.2) ∈ m from hp)
  have h4 := (lookM_mem hn).2 (show (q.1, q.2) ∈ m from h.sub q hq)
  rw [hqe, h3] at h4
  have : q = p := Prod.ext hqe (Option.some.inj h4).symm
  rwa [← this]
end

set_option maxRecDepth 100000 in
set_option maxHeartbeats 2000000 in
/-- The iterator's closure, for every loop body that keeps maps and walks. -/
theorem vDc1_in (F : Fence) (n : Nat) (h7 : F.fn 117) (hro : F.round = none) (hn : 1 ≤ n) (l Bs b : Nat) (m : List (Mrk × Dec)) (J Jx : List Dec → World → Prop)
    (hY : ∀ pre x W, J pre W → pre.length < m.length → YieldAt F (n - 1) Tryz.prog l #[.agg #[.int .i64 x.au, .int .i64 x.nu, .int .i64 x.ki, .int .i64 x.a, .int .i64 x.b]] W fun e W' =>
      (e = .returned (.bool true) ∧ J (pre ++ [x]) W' ∧ KeepsWalks W W') ∨ (e = .returned (.bool false) ∧ Jx (pre ++ [x]) W'))
    (W : World) (hJ : AbidesFrom W.heap.size J) (hm : MapAt (P := Tryz.prog) keyMrk elDec W b m) (hBs : W.cell? ⟨Bs, 0, none⟩ = some (.map (some b))) (h0 : J [] W) :
    CallsIn F n Tryz.prog 117 #[.func (.yield l) #[] #[], .pointer (some ⟨Bs, 0, none⟩)] W fun e W' => (∃ v, e = .returned v) ∧
      ((∃ ys, ys.Perm (m.map Prod.snd) ∧ J ys W') ∨ (∃ pre, True ∧ Jx pre W')) := by
  have hnd := Lib.hid (MapAt.nodup hm)
  refine callsIn_of_wp Tryz.func117 rfl h7 ?_ hro
  simp only [Tryz.ntmps117, List.size_toArray, List.length_cons, List.length_nil, Nat.reduceAdd, Nat.reduceSub, Array.replicate_succ, Array.replicate_zero, List.push_toArray, List.append_toArray, List.nil_append, List.cons_append]
  gi_wp2_with (first
    | (gi_at_range; refine wpListIn_rangeAt (KE := keyMrk) (EE := elDec) rfl _ rfl Tryz.underlying98 hm rfl ?_; intro w0 hrg0 hb0 hs0)
    | gi_in)
  go_frame
  have hJ0 : J [] w0 := hJ [] W w0 none h0 ⟨hb0.os, hb0.tape, hb0.output, hb0.size, fun i hi _ => hb0.block i hi⟩ (fun r e => by cases e)
  have Hm := Lib.hid hm
  have hru0 := hrg0.runAt
  clear hm hs0 hrg0 h0
  gi_loopw [4] (fun _ wr => ∃ (ps : List (Mrk × Dec)) (todo : List Mrk), RunAt (P := Tryz.prog) keyMrk elDec wr b W.heap.size m todo ∧ Got m ps todo ∧ J (ps.map Prod.snd) wr)
    (fun _ wr => wr.rangeLeft b W.heap.size)
  case atStart => exact ⟨[], _, hru0, Got.start m, hJ0⟩
  case round =>
    obtain ⟨ps, todo, hru, hG, hJs⟩ := hrel
    clear hru0 hJ0
    gi_wp2_with (first
      | (gi_at_next; refine wpListIn_nextRun (KE := keyMrk) (EE := elDec) rfl _ rfl hru rfl ?_ ?_)
      | gi_in)
    · intro ht
      have HG := Lib.hid hG; have HJ := Lib.hid hJs
      clear hG hJs hru
      subst ht
      gi_wp2
      go_end0
      exact ⟨⟨_, rfl⟩, .inl ⟨_, ((HG.out.all hnd.out).map Prod.snd), HJ.out⟩⟩
    · rintro kx ⟨y⟩ w2 hkx hlk hru2 hlt hg2 hs2 hen
      have hJ2 : J (ps.map Prod.snd) w2 := hJ _ wr w2 (some W.heap.size) hJs hg2 (fun r e => by cases e; exact ⟨Nat.le_refl _, hru.walk⟩)
      obtain ⟨hG2, hlen⟩ := hG.next hkx hlk
      obtain ⟨x, hx⟩ : ∃ x, x = y := ⟨_, rfl⟩
      have hen2 : (Instr.entry (.pointer (some ⟨W.heap.size, 0, none⟩))).run Tryz.prog w2 = .ok (.tuple #[.agg #[.int .i64 kx.au, .int .i64 kx.nu], .agg #[.int .i64 x.au, .int .i64 x.nu, .int .i64 x.ki, .int .i64 x.a, .int .i64 x.b]]) w2 := by rw [hx]; exact hen
      obtain ⟨W1, hW1⟩ : ∃ W1, w2.alloc (.cells #[.int .i64 x.au, .int .i64 x.nu, .int .i64 x.ki, .int .i64 x.a, .int .i64 x.b] 33) = W1 := ⟨_, rfl⟩
      have m0 : W1.cell? ⟨w2.heap.size, 0, none⟩ = some (.int .i64 x.au) := by rw [← hW1]; simp
      have m1 : W1.cell? ⟨w2.heap.size, 1, none⟩ = some (.int .i64 x.nu) := by rw [← hW1]; simp
      have m2 : W1.cell? ⟨w2.heap.size, 2, none⟩ = some (.int .i64 x.ki) := by rw [← hW1]; simp
      have m3 : W1.cell? ⟨w2.heap.size, 3, none⟩ = some (.int .i64 x.a) := by rw [← hW1]; simp
      have m4 : W1.cell? ⟨w2.heap.size, 4, none⟩ = some (.int .i64 x.b) := by rw [← hW1]; simp
      have hg1 : w2.grownBy W1 none := by rw [← hW1]; exact World.grownBy_alloc _ _ none
      have hJ1 : J (ps.map Prod.snd) W1 := hJ _ _ _ none hJ2 hg1 (fun r e => by cases e)
      have hk1 : KeepsWalks w2 W1 := by rw [← hW1]; exact (KeepsOthers.alloc _ _).walks
      obtain ⟨fn, tmps, assign, body, hy, hR⟩ := hY (ps.map Prod.snd) x W1 hJ1 (by rw [List.length_map]; exact hlen)
      have HG2 := Lib.hid hG2; have Hru2 := Lib.hid hru2; have Hlt := Lib.hid hlt; have Hx := Lib.hid hx
      clear hen hs2 hlen hG2 hG hru hru2 hlt hJ2 hJ1 hJs hlk hkx hx hg2 hg1
      gi_wp2
      refine hR.mono ?_
      rintro e W3 (⟨rfl, hJ3, hk3⟩ | ⟨rfl, hJx3⟩)
      · gi_wp2
        obtain ⟨hru3, hl3⟩ := Hru2.out.walks (hk1.trans hk3)
        refine ⟨?rel, ?measure⟩
        case rel => exact ⟨ps ++ [(kx, y)], _, hru3, (by simpa using HG2.out), by have := Hx.out; subst this; simpa using hJ3⟩
        case measure => rw [hl3]; exact Hlt.out
      · gi_wp2
        refine bodyPost_ret (results_none rfl _ _ _) rfl ?_
        exact ⟨⟨_, rfl⟩, .inr ⟨_, trivial, hJx3⟩⟩

theorem vDc_stops (F : Fence) (n : Nat) (h7 : F.fn 117) (hro : F.round = none) (hn : 1 ≤ n) (Bs b : Nat) (m : List (Mrk × Dec)) (w : World) (hBs : Bs < w.heap.size)
    (hc : w.cell? ⟨Bs, 0, none⟩ = some (.map (some b))) (hm : MapAt (P := Tryz.prog) keyMrk elDec w b m) :
    SeqStopsK F n Tryz.prog 117 #[.pointer (some ⟨Bs, 0, none⟩)] (fun x : Dec => #[.agg #[.int .i64 x.au, .int .i64 x.nu, .int .i64 x.ki, .int .i64 x.a, .int .i64 x.b]]) KeepsWalks (fun ys => ys.Perm (m.map Prod.snd)) (fun _ => True) m.length w := fun l J Jx W hW hJ _ hY h0 =>
  vDc1_in F n h7 hro hn l Bs b m J Jx hY W hJ (MapAt.below hm hW) ((hW.cell (p := ⟨Bs, 0, none⟩) hBs).trans hc) h0

set_option maxHeartbeats 1000000 in
theorem vDc_ok (mb : Option Nat) (w : World) : Calls Tryz.prog 65 #[.map mb] w fun e w' =>
    e = .returned (.func (.func 117) #[] #[.pointer (some ⟨w.heap.size, 0, none⟩)]) ∧ w' = w.alloc (.cells #[.map mb] 98) := by
  go_enter Tryz.func65, Tryz.ntmps65
  go_wp2
  go_ret
  exact ⟨rfl, rfl⟩

def BoxvDc (W : World) (B : Nat) (x : Dec) : Prop := W.heap[B]? = some (.cells #[.int .i64 x.au, .int .i64 x.nu, .int .i64 x.ki, .int .i64 x.a, .int .i64 x.b] 33 (0, 0))
theorem boxvDc_own (B : Nat) (x : Dec) : _root_.Go.Own (fun (_ : Unit) W => BoxvDc W B x) := fun _ X Y row h hg hrow =>
  (hg.block B (Array.getElem?_eq_some_iff.1 h).1 (fun e' => by
    obtain ⟨o, ho, hc⟩ := hrow B e'.symm
    rw [show X.heap[B]? = _ from h] at ho; cases ho; cases hc)).trans h
theorem BoxvDc.cell {W : World} {B i : Nat} {x : Dec} {v : Value} (h : BoxvDc W B x) (hi : (#[.int .i64 x.au, .int .i64 x.nu, .int .i64 x.ki, .int .i64 x.a, .int .i64 x.b] : Array Value)[i]? = some v) : W.cell? ⟨B, i, none⟩ = some v := by
  rw [cell_of_row W B i _ _ (0, 0) h]; exact hi

set_option maxRecDepth 100000 in
set_option maxHeartbeats 4000000 in
/-- slices.AppendSeq(nil, the iterator): a slice of the call's own. -/
theorem vDcApp_in (F : Fence) (n : Nat) (h3 : F.fn 154) (h7 : F.fn 117) (hro : F.round = none) (hn : 3 ≤ n) (Bs b : Nat) (m : List (Mrk × Dec)) (hlen : m.length ≤ 1048576) (w : World) (hBs : Bs < w.heap.size)
    (hc : w.cell? ⟨Bs, 0, none⟩ = some (.map (some b))) (hm : MapAt (P := Tryz.prog) keyMrk elDec w b m) :
    CallsIn F n Tryz.prog 154 #[.slice none 0 0, .func (.func 117) #[] #[.pointer (some ⟨Bs, 0, none⟩)]] w fun e W' =>
      ∃ v ys, e = .returned v ∧ OwnDc w.heap.size W' v ys ∧ ys.Perm (m.map Prod.snd) ∧ Below w.heap.size w W' := by
  have h1 : 1 ≤ n := by omega
  obtain ⟨i0, hi, hz0, hz1, hz2⟩ := info_parts infoDc
  refine callsIn_of_wp_marks Tryz.func154 rfl h3 ?_ hro
  simp only [Tryz.ntmps154, List.size_toArray, List.length_cons, List.length_nil, Nat.reduceAdd, Nat.reduceSub, Array.replicate_succ, Array.replicate_zero, List.push_toArray, List.append_toArray, List.nil_append, List.cons_append]
  have Hm := Lib.hid hm
  clear hm
  gi_wp2
  have bO := Boxed.new w 48 (.slice none 0 0)
  have hB0 : Below w.heap.size w (w.alloc (.cells #[.slice none 0 0] 48)) := (Below.refl _ w).alloc (Nat.le_refl _) _
  have hsz : (w.alloc (.cells #[.slice none 0 0] 48)).heap.size = w.heap.size + 1 := by simp
  obtain ⟨W0, hW0⟩ : ∃ W0, w.alloc (.cells #[.slice none 0 0] 48) = W0 := ⟨_, rfl⟩
  rw [hW0] at bO hB0 hsz ⊢
  clear hW0
  refine wpIn_rangeFunc_ownH hro h1 (gf := 117) (lb := #[.pointer (some ⟨Bs, 0, none⟩)]) rfl h7 (enters_of Tryz.func117 (by kernel_rfl) rfl)
    (vDc_stops F (n - 1) h7 hro (by omega) Bs b m W0 (by omega) ((hB0.cell (p := ⟨Bs, 0, none⟩) hBs).trans hc) (MapAt.below Hm.out hB0)) walksK_t walksK_b (Below.refl _ _) (fun _ => rfl)
    (fun pre W => (∃ v, Boxed W w.heap.size 48 v ∧ W.ownsRow w.heap.size 33 5 v pre.length (pre.flatMap encDc) ∧ True) ∧ Below w.heap.size w W)
    (fun _ _ _ => False)
    (OwnFrom.and (_root_.Go.Own.from (holdsRow_own w.heap.size w.heap.size 48 33 5 (fun (pre : List Dec) => pre.length) (fun (pre : List Dec) => pre.flatMap encDc) (fun (_ : List Dec) _ => True)) _) (ownFrom_below (Nat.le_refl _) (by omega)))
    (fun _ _ _ _ _ hs _ _ => hs)
    ⟨⟨_, bO, World.ownsRow_nil _ _ _ _, trivial⟩, hB0⟩
    (fun x a' W => ∃ Bx, w.heap.size < Bx ∧ BoxvDc W Bx x ∧ a' = { tmps := #[.slice none 0 0, .func (.func 117) #[] #[.pointer (some ⟨Bs, 0, none⟩)], .pointer (some ⟨w.heap.size, 0, none⟩), undef, .slice none 0 0, .pointer (some ⟨Bx, 0, none⟩), .func (.func 117) #[] #[.pointer (some ⟨Bs, 0, none⟩)], .agg #[.int .i64 x.au, .int .i64 x.nu, .int .i64 x.ki, .int .i64 x.a, .int .i64 x.b], undef, undef, undef, undef, undef], defers := [] })
    (fun x a' _ X Y row hs hg hr => by obtain ⟨Bx, h1, h2, h3⟩ := hs; exact ⟨Bx, h1, boxvDc_own Bx x () X Y row h2 hg (fun r e => (hr r e).2), h3⟩)
    ?assign ?body ?done ?stop
  case assign =>
    rintro l pre x W K ⟨⟨v, hv, hrow, _⟩, hB⟩ hK
    have hBs := hB.size
    gi_wp2
    exact hK _ _ ((KeepsOthers.alloc _ _).from _) (KeepsOthers.alloc _ _).walks ⟨⟨v, hv.alloc _, hrow.alloc _, trivial⟩, hB.alloc hB.size _⟩ ⟨W.heap.size, hv.lt, heap_alloc_new _ _, rfl⟩
  case body =>
    rintro l pre x a' W hl ⟨r, hr⟩ ⟨⟨v, hv, hrow, _⟩, hB⟩ ⟨Bx, hBx, bX, rfl⟩ hlt
    have hc := hv.cell
    have x0 := bX.cell (i := 0) rfl; have x1 := bX.cell (i := 1) rfl; have x2 := bX.cell (i := 2) rfl; have x3 := bX.cell (i := 3) rfl; have x4 := bX.cell (i := 4) rfl
    gi_wp2_with (gi_at_builtin; refine wpListIn_append_own _ rfl _ _ 48 rfl w.heap.size 33 i0 _ 5 40 Tryz.underlying48 hi hz0 hz1 hz2 rfl (by decide) _ _ _ rfl (hrow.alloc _) ⟨W.heap.size, 0, none⟩ 1 1 (encDc x) rfl rfl (World.news_of_block (heap_alloc_new W _)) (oneDc x) (by simp only [maxLen]; omega) (by omega) (by have := hB.size; simp; omega) ?_; intro v' w1 hown' hgrow _; obtain ⟨g', cap', rfl⟩ := ownsRow_succ hown'; obtain ⟨hv1, hv2, hr2, hk2, hb2⟩ := hv.appended (by decide) hrow hB.size (Nat.le_refl _) hown' hgrow; have hc1 := hv1.cell; have hf1 := hv1.frozen)
    exact ⟨hk2.from _, hk2.walks, ⟨_, hv2, by simpa using hr2, trivial⟩, hB.trans hb2⟩
  case done =>
    rintro D ys W hD hys ⟨⟨v, hv, hrow, _⟩, hB⟩ hK
    have hc := hv.cell
    have Hys := Lib.hid hys
    clear hys
    gi_wp2
    refine ⟨by simp, .inl ⟨_, _, rfl, run_takeDeferred hK, ?_⟩⟩
    exact ⟨_, results_tmp rfl _ _ _, v, ys, rfl, ownsRow_putObj hrow _ hK rfl, Hys.out, hB.trans (belowK_b (w := w) (Nat.le_refl _) W D _ _ (by omega) hK rfl rfl)⟩
  case stop =>
    rintro D c pre W _ _ h _
    exact h.elim

set_option maxHeartbeats 1000000 in
theorem vDcCol_ok (Bs b : Nat) (m : List (Mrk × Dec)) (hlen : m.length ≤ 1048576) (w : World) (hBs : Bs < w.heap.size)
    (hc : w.cell? ⟨Bs, 0, none⟩ = some (.map (some b))) (hm : MapAt (P := Tryz.prog) keyMrk elDec w b m) :
    Calls Tryz.prog 115 #[.func (.func 117) #[] #[.pointer (some ⟨Bs, 0, none⟩)]] w fun e W' =>
      ∃ v ys, e = .returned v ∧ OwnDc w.heap.size W' v ys ∧ ys.Perm (m.map Prod.snd) ∧ Below w.heap.size w W' := by
  have h := callsIn_wide.1 (vDcApp_in Fence.wide 3 trivial trivial rfl (by omega) Bs b m hlen w hBs hc hm)
  clear hc hm
  go_enter Tryz.func115, Tryz.ntmps115
  go_wp2_with (go_at_call 154; refine h.mono ?_; rintro e W' ⟨v, ys, rfl, ho, hp, hb1⟩)
  go_ret
  exact ⟨v, ys, rfl, ho, hp, hb1⟩

set_option maxHeartbeats 1000000 in
/-- slices.SortedFunc over the iterator: sorted by marks. -/
theorem vDcSorted_ok (Bs b : Nat) (m : List (Mrk × Dec)) (hlen : m.length ≤ 1048576) (w : World) (hBs : Bs < w.heap.size)
    (hc : w.cell? ⟨Bs, 0, none⟩ = some (.map (some b))) (hm : MapAt (P := Tryz.prog) keyMrk elDec w b m) (L : List Dec) (hp : (m.map Prod.snd).Perm L) (hs : L.Pairwise fun x y => mkLt (mkOf x) (mkOf y)) :
    Calls Tryz.prog 64 #[.func (.func 117) #[] #[.pointer (some ⟨Bs, 0, none⟩)], .func (.func 66) #[] #[]] w fun e W' =>
      ∃ v, e = .returned v ∧ OwnDc w.heap.size W' v L ∧ Below w.heap.size w W' := by
  have h := vDcCol_ok Bs b m hlen w hBs hc hm
  have Hp := Lib.hid hp; have Hs := Lib.hid hs; have Hlen := Lib.hid hlen
  clear hc hm hp hs hlen
  go_enter Tryz.func64, Tryz.ntmps64
  go_wp2_with fail
  refine h.mono ?_
  rintro e w1 ⟨v, ys, rfl, ho, hpp, hb1⟩
  have hyl : ys.length ≤ 1048576 := by have := hpp.length_eq; have := Hlen.out; simp at *; omega
  have Hpp := Lib.hid hpp
  clear hpp h
  go_wp2_with fail
  refine (sortDc_ok _ _ _ _ ho hyl).mono ?_
  rintro e w2 ⟨rfl, zs, ho2, hby, hzl, hg⟩
  have Hby := Lib.hid hby
  clear hby hzl
  go_wp2_with fail
  go_ret
  have hpz : zs.Perm L := (Hby.out.1.trans Hpp.out).trans Hp.out
  have hz : zs = L := srt_uniq mkOf (byMk_srt Hby.out ((((Hpp.out.trans Hp.out).map mkOf).nodup_iff).2 (Hs.out.imp_of_mem (fun {a b} _ _ hab => hab) |> fun h => List.pairwise_map.2 (h.imp fun {a b} hab e => by rw [e] at hab; exact mkLt_irrefl _ hab)))) Hs.out (fun z => hpz.mem_iff)
  rw [hz] at ho2
  exact ⟨v, rfl, ho2, hb1.grown hg hb1.size (fun k e => (ho.lt k e).1)⟩

set_option maxRecDepth 100000 in
set_option maxHeartbeats 2000000 in
/-- The iterator's closure, for every loop body that keeps maps and walks. -/
theorem vMk1_in (F : Fence) (n : Nat) (h7 : F.fn 113) (hro : F.round = none) (hn : 1 ≤ n) (l Bs b : Nat) (m : List (Mrk × Bool)) (J Jx : List Mrk → World → Prop)
    (hY : ∀ pre x W, J pre W → pre.length < m.length → YieldAt F (n - 1) Tryz.prog l #[.agg #[.int .i64 x.au, .int .i64 x.nu]] W fun e W' =>
      (e = .returned (.bool true) ∧ J (pre ++ [x]) W' ∧ KeepsWalks W W') ∨ (e = .returned (.bool false) ∧ Jx (pre ++ [x]) W'))
    (W : World) (hJ : AbidesFrom W.heap.size J) (hm : MapAt (P := Tryz.prog) keyMrk (elBool Tryz.underlying4 zBool) W b m) (hBs : W.cell? ⟨Bs, 0, none⟩ = some (.map (some b))) (h0 : J [] W) :
    CallsIn F n Tryz.prog 113 #[.func (.yield l) #[] #[], .pointer (some ⟨Bs, 0, none⟩)] W fun e W' => (∃ v, e = .returned v) ∧
      ((∃ ys, ys.Perm (m.map Prod.fst) ∧ J ys W') ∨ (∃ pre, True ∧ Jx pre W')) := by
  have hnd := Lib.hid (MapAt.nodup hm)
  refine callsIn_of_wp Tryz.func113 rfl h7 ?_ hro
  simp only [Tryz.ntmps113, List.size_toArray, List.length_cons, List.length_nil, Nat.reduceAdd, Nat.reduceSub, Array.replicate_succ, Array.replicate_zero, List.push_toArray, List.append_toArray, List.nil_append, List.cons_append]
  gi_wp2_with (first
    | (gi_at_range; refine wpListIn_rangeAt (KE := keyMrk) (EE := (elBool Tryz.underlying4 zBool)) rfl _ rfl Tryz.underlying97 hm rfl ?_; intro w0 hrg0 hb0 hs0)
    | gi_in)
  go_frame
  have hJ0 : J [] w0 := hJ [] W w0 none h0 ⟨hb0.os, hb0.tape, hb0.output, hb0.size, fun i hi _ => hb0.block i hi⟩ (fun r e => by cases e)
  have Hm := Lib.hid hm
  have hru0 := hrg0.runAt
  clear hm hs0 hrg0 h0
  gi_loopw [3] (fun _ wr => ∃ (ps : List (Mrk × Bool)) (todo : List Mrk), RunAt (P := Tryz.prog) keyMrk (elBool Tryz.underlying4 zBool) wr b W.heap.size m todo ∧ Got m ps todo ∧ J (ps.map Prod.fst) wr)
    (fun _ wr => wr.rangeLeft b W.heap.size)
  case atStart => exact ⟨[], _, hru0, Got.start m, hJ0⟩
  case round =>
    obtain ⟨ps, todo, hru, hG, hJs⟩ := hrel
    clear hru0 hJ0
    gi_wp2_with (first
      | (gi_at_next; refine wpListIn_nextRun (KE := keyMrk) (EE := (elBool Tryz.underlying4 zBool)) rfl _ rfl hru rfl ?_ ?_)
      | gi_in)
    · intro ht
      have HG := Lib.hid hG; have HJ := Lib.hid hJs
      clear hG hJs hru
      subst ht
      gi_wp2
      go_end0
      exact ⟨⟨_, rfl⟩, .inl ⟨_, ((HG.out.all hnd.out).map Prod.fst), HJ.out⟩⟩
    · rintro kx ⟨y⟩ w2 hkx hlk hru2 hlt hg2 hs2 hen
      have hJ2 : J (ps.map Prod.fst) w2 := hJ _ wr w2 (some W.heap.size) hJs hg2 (fun r e => by cases e; exact ⟨Nat.le_refl _, hru.walk⟩)
      obtain ⟨hG2, hlen⟩ := hG.next hkx hlk
      obtain ⟨x, hx⟩ : ∃ x, x = kx := ⟨_, rfl⟩
      have hen2 : (Instr.entry (.pointer (some ⟨W.heap.size, 0, none⟩))).run Tryz.prog w2 = .ok (.tuple #[.agg #[.int .i64 x.au, .int .i64 x.nu], .bool y]) w2 := by rw [hx]; exact hen
      obtain ⟨W1, hW1⟩ : ∃ W1, w2.alloc (.cells #[.int .i64 x.au, .int .i64 x.nu] 35) = W1 := ⟨_, rfl⟩
      have m0 : W1.cell? ⟨w2.heap.size, 0, none⟩ = some (.int .i64 x.au) := by rw [← hW1]; simp
      have m1 : W1.cell? ⟨w2.heap.size, 1, none⟩ = some (.int .i64 x.nu) := by rw [← hW1]; simp
      have hg1 : w2.grownBy W1 none := by rw [← hW1]; exact World.grownBy_alloc _ _ none
      have hJ1 : J (ps.map Prod.fst) W1 := hJ _ _ _ none hJ2 hg1 (fun r e => by cases e)
      have hk1 : KeepsWalks w2 W1 := by rw [← hW1]; exact (KeepsOthers.alloc _ _).walks
      obtain ⟨fn, tmps, assign, body, hy, hR⟩ := hY (ps.map Prod.fst) x W1 hJ1 (by rw [List.length_map]; exact hlen)
      have HG2 := Lib.hid hG2; have Hru2 := Lib.hid hru2; have Hlt := Lib.hid hlt; have Hx := Lib.hid hx
      clear hen hs2 hlen hG2 hG hru hru2 hlt hJ2 hJ1 hJs hlk hkx hx hg2 hg1
      gi_wp2
      refine hR.mono ?_
      rintro e W3 (⟨rfl, hJ3, hk3⟩ | ⟨rfl, hJx3⟩)
      · gi_wp2
        obtain ⟨hru3, hl3⟩ := Hru2.out.walks (hk1.trans hk3)
        refine ⟨?rel, ?measure⟩
        case rel => exact ⟨ps ++ [(kx, y)], _, hru3, (by simpa using HG2.out), by have := Hx.out; subst this; simpa using hJ3⟩
        case measure => rw [hl3]; exact Hlt.out
      · gi_wp2
        refine bodyPost_ret (results_none rfl _ _ _) rfl ?_
        exact ⟨⟨_, rfl⟩, .inr ⟨_, trivial, hJx3⟩⟩

theorem vMk_stops (F : Fence) (n : Nat) (h7 : F.fn 113) (hro : F.round = none) (hn : 1 ≤ n) (Bs b : Nat) (m : List (Mrk × Bool)) (w : World) (hBs : Bs < w.heap.size)
    (hc : w.cell? ⟨Bs, 0, none⟩ = some (.map (some b))) (hm : MapAt (P := Tryz.prog) keyMrk (elBool Tryz.underlying4 zBool) w b m) :
    SeqStopsK F n Tryz.prog 113 #[.pointer (some ⟨Bs, 0, none⟩)] (fun x : Mrk => #[.agg #[.int .i64 x.au, .int .i64 x.nu]]) KeepsWalks (fun ys => ys.Perm (m.map Prod.fst)) (fun _ => True) m.length w := fun l J Jx W hW hJ _ hY h0 =>
  vMk1_in F n h7 hro hn l Bs b m J Jx hY W hJ (MapAt.below hm hW) ((hW.cell (p := ⟨Bs, 0, none⟩) hBs).trans hc) h0

set_option maxHeartbeats 1000000 in
theorem vMk_ok (mb : Option Nat) (w : World) : Calls Tryz.prog 61 #[.map mb] w fun e w' =>
    e = .returned (.func (.func 113) #[] #[.pointer (some ⟨w.heap.size, 0, none⟩)]) ∧ w' = w.alloc (.cells #[.map mb] 97) := by
  go_enter Tryz.func61, Tryz.ntmps61
  go_wp2
  go_ret
  exact ⟨rfl, rfl⟩

def BoxvMk (W : World) (B : Nat) (x : Mrk) : Prop := W.heap[B]? = some (.cells #[.int .i64 x.au, .int .i64 x.nu] 35 (0, 0))
theorem boxvMk_own (B : Nat) (x : Mrk) : _root_.Go.Own (fun (_ : Unit) W => BoxvMk W B x) := fun _ X Y row h hg hrow =>
  (hg.block B (Array.getElem?_eq_some_iff.1 h).1 (fun e' => by
    obtain ⟨o, ho, hc⟩ := hrow B e'.symm
    rw [show X.heap[B]? = _ from h] at ho; cases ho; cases hc)).trans h
theorem BoxvMk.cell {W : World} {B i : Nat} {x : Mrk} {v : Value} (h : BoxvMk W B x) (hi : (#[.int .i64 x.au, .int .i64 x.nu] : Array Value)[i]? = some v) : W.cell? ⟨B, i, none⟩ = some v := by
  rw [cell_of_row W B i _ _ (0, 0) h]; exact hi

set_option maxRecDepth 100000 in
set_option maxHeartbeats 4000000 in
/-- slices.AppendSeq(nil, the iterator): a slice of the call's own. -/
theorem vMkApp_in (F : Fence) (n : Nat) (h3 : F.fn 152) (h7 : F.fn 113) (hro : F.round = none) (hn : 3 ≤ n) (Bs b : Nat) (m : List (Mrk × Bool)) (hlen : m.length ≤ 1048576) (w : World) (hBs : Bs < w.heap.size)
    (hc : w.cell? ⟨Bs, 0, none⟩ = some (.map (some b))) (hm : MapAt (P := Tryz.prog) keyMrk (elBool Tryz.underlying4 zBool) w b m) :
    CallsIn F n Tryz.prog 152 #[.slice none 0 0, .func (.func 113) #[] #[.pointer (some ⟨Bs, 0, none⟩)]] w fun e W' =>
      ∃ v ys, e = .returned v ∧ OwnMk w.heap.size W' v ys ∧ ys.Perm (m.map Prod.fst) ∧ Below w.heap.size w W' := by
  have h1 : 1 ≤ n := by omega
  obtain ⟨i0, hi, hz0, hz1, hz2⟩ := info_parts infoMk
  refine callsIn_of_wp_marks Tryz.func152 rfl h3 ?_ hro
  simp only [Tryz.ntmps152, List.size_toArray, List.length_cons, List.length_nil, Nat.reduceAdd, Nat.reduceSub, Array.replicate_succ, Array.replicate_zero, List.push_toArray, List.append_toArray, List.nil_append, List.cons_append]
  have Hm := Lib.hid hm
  clear hm
  gi_wp2
  have bO := Boxed.new w 45 (.slice none 0 0)
  have hB0 : Below w.heap.size w (w.alloc (.cells #[.slice none 0 0] 45)) := (Below.refl _ w).alloc (Nat.le_refl _) _
  have hsz : (w.alloc (.cells #[.slice none 0 0] 45)).heap.size = w.heap.size + 1 := by simp
  obtain ⟨W0, hW0⟩ : ∃ W0, w.alloc (.cells #[.slice none 0 0] 45) = W0 := ⟨_, rfl⟩
  rw [hW0] at bO hB0 hsz ⊢
  clear hW0
  refine wpIn_rangeFunc_ownH hro h1 (gf := 113) (lb := #[.pointer (some ⟨Bs, 0, none⟩)]) rfl h7 (enters_of Tryz.func113 (by kernel_rfl) rfl)
    (vMk_stops F (n - 1) h7 hro (by omega) Bs b m W0 (by omega) ((hB0.cell (p := ⟨Bs, 0, none⟩) hBs).trans hc) (MapAt.below Hm.out hB0)) walksK_t walksK_b (Below.refl _ _) (fun _ => rfl)
    (fun pre W => (∃ v, Boxed W w.heap.size 45 v ∧ W.ownsRow w.heap.size 35 2 v pre.length (pre.flatMap encMk) ∧ True) ∧ Below w.heap.size w W)
    (fun _ _ _ => False)
    (OwnFrom.and (_root_.Go.Own.from (holdsRow_own w.heap.size w.heap.size 45 35 2 (fun (pre : List Mrk) => pre.length) (fun (pre : List Mrk) => pre.flatMap encMk) (fun (_ : List Mrk) _ => True)) _) (ownFrom_below (Nat.le_refl _) (by omega)))
    (fun _ _ _ _ _ hs _ _ => hs)
    ⟨⟨_, bO, World.ownsRow_nil _ _ _ _, trivial⟩, hB0⟩
    (fun x a' W => ∃ Bx, w.heap.size < Bx ∧ BoxvMk W Bx x ∧ a' = { tmps := #[.slice none 0 0, .func (.func 113) #[] #[.pointer (some ⟨Bs, 0, none⟩)], .pointer (some ⟨w.heap.size, 0, none⟩), undef, .slice none 0 0, .pointer (some ⟨Bx, 0, none⟩), .func (.func 113) #[] #[.pointer (some ⟨Bs, 0, none⟩)], .agg #[.int .i64 x.au, .int .i64 x.nu], undef, undef, undef, undef, undef], defers := [] })
    (fun x a' _ X Y row hs hg hr => by obtain ⟨Bx, h1, h2, h3⟩ := hs; exact ⟨Bx, h1, boxvMk_own Bx x () X Y row h2 hg (fun r e => (hr r e).2), h3⟩)
    ?assign ?body ?done ?stop
  case assign =>
    rintro l pre x W K ⟨⟨v, hv, hrow, _⟩, hB⟩ hK
    have hBs := hB.size
    gi_wp2
    exact hK _ _ ((KeepsOthers.alloc _ _).from _) (KeepsOthers.alloc _ _).walks ⟨⟨v, hv.alloc _, hrow.alloc _, trivial⟩, hB.alloc hB.size _⟩ ⟨W.heap.size, hv.lt, heap_alloc_new _ _, rfl⟩
  case body =>
    rintro l pre x a' W hl ⟨r, hr⟩ ⟨⟨v, hv, hrow, _⟩, hB⟩ ⟨Bx, hBx, bX, rfl⟩ hlt
    have hc := hv.cell
    have x0 := bX.cell (i := 0) rfl; have x1 := bX.cell (i := 1) rfl
    gi_wp2_with (gi_at_builtin; refine wpListIn_append_own _ rfl _ _ 45 rfl w.heap.size 35 i0 _ 2 16 Tryz.underlying45 hi hz0 hz1 hz2 rfl (by decide) _ _ _ rfl (hrow.alloc _) ⟨W.heap.size, 0, none⟩ 1 1 (encMk x) rfl rfl (World.news_of_block (heap_alloc_new W _)) (oneMk x) (by simp only [maxLen]; omega) (by omega) (by have := hB.size; simp; omega) ?_; intro v' w1 hown' hgrow _; obtain ⟨g', cap', rfl⟩ := ownsRow_succ hown'; obtain ⟨hv1, hv2, hr2, hk2, hb2⟩ := hv.appended (by decide) hrow hB.size (Nat.le_refl _) hown' hgrow; have hc1 := hv1.cell; have hf1 := hv1.frozen)
    exact ⟨hk2.from _, hk2.walks, ⟨_, hv2, by simpa using hr2, trivial⟩, hB.trans hb2⟩
  case done =>
    rintro D ys W hD hys ⟨⟨v, hv, hrow, _⟩, hB⟩ hK
    have hc := hv.cell
    have Hys := Lib.hid hys
    clear hys
    gi_wp2
    refine ⟨by simp, .inl ⟨_, _, rfl, run_takeDeferred hK, ?_⟩⟩
    exact ⟨_, results_tmp rfl _ _ _, v, ys, rfl, ownsRow_putObj hrow _ hK rfl, Hys.out, hB.trans (belowK_b (w := w) (Nat.le_refl _) W D _ _ (by omega) hK rfl rfl)⟩
  case stop =>
    rintro D c pre W _ _ h _
    exact h.elim

set_option maxHeartbeats 1000000 in
theorem vMkCol_ok (Bs b : Nat) (m : List (Mrk × Bool)) (hlen : m.length ≤ 1048576) (w : World) (hBs : Bs < w.heap.size)
    (hc : w.cell? ⟨Bs, 0, none⟩ = some (.map (some b))) (hm : MapAt (P := Tryz.prog) keyMrk (elBool Tryz.underlying4 zBool) w b m) :
    Calls Tryz.prog 111 #[.func (.func 113) #[] #[.pointer (some ⟨Bs, 0, none⟩)]] w fun e W' =>
      ∃ v ys, e = .returned v ∧ OwnMk w.heap.size W' v ys ∧ ys.Perm (m.map Prod.fst) ∧ Below w.heap.size w W' := by
  have h := callsIn_wide.1 (vMkApp_in Fence.wide 3 trivial trivial rfl (by omega) Bs b m hlen w hBs hc hm)
  clear hc hm
  go_enter Tryz.func111, Tryz.ntmps111
  go_wp2_with (go_at_call 152; refine h.mono ?_; rintro e W' ⟨v, ys, rfl, ho, hp, hb1⟩)
  go_ret
  exact ⟨v, ys, rfl, ho, hp, hb1⟩

set_option maxHeartbeats 1000000 in
/-- slices.SortedFunc over the iterator: sorted by marks. -/
theorem vMkSorted_ok (Bs b : Nat) (m : List (Mrk × Bool)) (hlen : m.length ≤ 1048576) (w : World) (hBs : Bs < w.heap.size)
    (hc : w.cell? ⟨Bs, 0, none⟩ = some (.map (some b))) (hm : MapAt (P := Tryz.prog) keyMrk (elBool Tryz.underlying4 zBool) w b m) (L : List Mrk) (hp : (m.map Prod.fst).Perm L) (hs : L.Pairwise fun x y => mkLt (id x) (id y)) :
    Calls Tryz.prog 60 #[.func (.func 113) #[] #[.pointer (some ⟨Bs, 0, none⟩)], .func (.func 62) #[] #[]] w fun e W' =>
      ∃ v, e = .returned v ∧ OwnMk w.heap.size W' v L ∧ Below w.heap.size w W' := by
  have h := vMkCol_ok Bs b m hlen w hBs hc hm
  have Hp := Lib.hid hp; have Hs := Lib.hid hs; have Hlen := Lib.hid hlen
  clear hc hm hp hs hlen
  go_enter Tryz.func60, Tryz.ntmps60
  go_wp2_with fail
  refine h.mono ?_
  rintro e w1 ⟨v, ys, rfl, ho, hpp, hb1⟩
  have hyl : ys.length ≤ 1048576 := by have := hpp.length_eq; have := Hlen.out; simp at *; omega
  have Hpp := Lib.hid hpp
  clear hpp h
  go_wp2_with fail
  refine (sortMk_ok _ _ _ _ ho hyl).mono ?_
  rintro e w2 ⟨rfl, zs, ho2, hby, hzl, hg⟩
  have Hby := Lib.hid hby
  clear hby hzl
  go_wp2_with fail
  go_ret
  have hpz : zs.Perm L := (Hby.out.1.trans Hpp.out).trans Hp.out
  have hz : zs = L := srt_uniq id (byMk_srt Hby.out ((((Hpp.out.trans Hp.out).map id).nodup_iff).2 (Hs.out.imp_of_mem (fun {a b} _ _ hab => hab) |> fun h => List.pairwise_map.2 (h.imp fun {a b} hab e => by rw [e] at hab; exact mkLt_irrefl _ hab)))) Hs.out (fun z => hpz.mem_iff)
  rw [hz] at ho2
  exact ⟨v, rfl, ho2, hb1.grown hg hb1.size (fun k e => (ho.lt k e).1)⟩
end Go.Proofs.YthnckicnnhkkaaaGreat
/- Package decision: New, Made, Withdrawn, Standing, Clone. Condition: the ledger reads as such. -/
namespace Go.Proofs.YthnckicnnhkkaaaGreat
open Go.RowKit Go.Maps Go.Shelf

section
variable {w : World} {q mb wb : Nat} {D : List Dec} {W : List Mrk}
theorem LedAt.wfD (h : LedAt w q mb wb D W) : ∀ d ∈ D, wfDc d := by
  obtain ⟨m, hm, hp, _⟩ := h.made
  intro d hd
  obtain ⟨p, h1, rfl⟩ := List.mem_map.1 (hp.symm.subset hd)
  exact (MapAt.good hm p h1).2
theorem LedAt.wfW (h : LedAt w q mb wb D W) : ∀ x ∈ W, wfMk x := by
  obtain ⟨m, hm, hp, _⟩ := h.gone
  intro d hd
  obtain ⟨p, h1, rfl⟩ := List.mem_map.1 (hp.symm.subset hd)
  exact (MapAt.good hm p h1).1
end
set_option maxHeartbeats 2000000 in
theorem dnew_ok (w : World) : Calls Tryz.prog 48 #[] w fun e w' => ∃ q mb wb, e = .returned (.pointer (some ⟨q, 0, none⟩)) ∧ LedAt w' q mb wb [] [] ∧ w.heap.size ≤ q ∧ w.heap.size ≤ mb ∧ w.heap.size ≤ wb ∧ Below w.heap.size w w' := by
  obtain ⟨w1, hw1⟩ : ∃ z, w.alloc (.map #[] 0) = z := ⟨_, rfl⟩
  obtain ⟨w2, hw2⟩ : ∃ z, w1.alloc (.map #[] 0) = z := ⟨_, rfl⟩
  have hb1 : Below w.heap.size w w1 := by rw [← hw1]; exact (Below.refl _ _).alloc (Nat.le_refl _) _
  have hb2 : Below w1.heap.size w1 w2 := by rw [← hw2]; exact (Below.refl _ _).alloc (Nat.le_refl _) _
  have hs1 : w1.heap.size = w.heap.size + 1 := by rw [← hw1]; simp
  have hs2 : w2.heap.size = w1.heap.size + 1 := by rw [← hw2]; simp
  have hm1 : MapDc w1 w.heap.size [] := by rw [← hw1]; exact mapAt_made w
  have hm2 : MapMk w2 w1.heap.size [] := by rw [← hw2]; exact mapAt_made w1
  have HF : Hid (∀ w3, w2.alloc (.cells #[.map (some w.heap.size), .map (some w1.heap.size)] 100) = w3 → LedAt w3 w2.heap.size w.heap.size w1.heap.size [] [] ∧ Below w.heap.size w w3) := Lib.hid (by
    intro w3 hw3
    have hb3 : Below w2.heap.size w2 w3 := by rw [← hw3]; exact (Below.refl _ _).alloc (Nat.le_refl _) _
    refine ⟨⟨by rw [← hw3]; exact heap_alloc_new _ _, ⟨[], MapAt.below (MapAt.below hm1 hb2) hb3, by simp, by simp⟩, ⟨[], MapAt.below hm2 hb3, by simp, by simp⟩, List.Pairwise.nil, List.Pairwise.nil, by omega, by omega, by omega⟩, below_trans hb1 (below_trans hb2 hb3)⟩)
  have hsz : w.heap.size ≤ w1.heap.size ∧ w.heap.size ≤ w2.heap.size := by omega
  clear hm1 hm2 hb1 hb2 hs1 hs2
  have hmm := @run_makeMap Tryz.prog
  go_enter Tryz.func48, Tryz.ntmps48
  go_wp2_with fail
  go_ret
  obtain ⟨h1, h2⟩ := HF.out _ rfl
  exact ⟨_, _, _, rfl, h1, hsz.2, Nat.le_refl _, hsz.1, h2⟩
set_option maxHeartbeats 2000000 in
theorem LMade_ok (q mb wb : Nat) (D : List Dec) (W : List Mrk) (w : World) (h : LedAt w q mb wb D W) (hl : D.length ≤ 1000) :
    Calls Tryz.prog 21 #[.pointer (some ⟨q, 0, none⟩)] w fun e w' => ∃ v, e = .returned v ∧ OwnDc w.heap.size w' v D ∧ Below w.heap.size w w' := by
  obtain ⟨hrow, ⟨m, hm, hmp, hmk⟩, hgone, hsD, hsW, hne1, hne2, hne3⟩ := id h
  obtain ⟨⟨r0, r1⟩, _⟩ := cellsM hrow
  have hml : m.length ≤ 1048576 := by have := hmp.length_eq; simp at this; omega
  obtain ⟨W1, hW1, HzW1, hbW1, hltW1, hcW1⟩ := boxed w #[.map (some mb)] 98
  have b0 := hcW1 0 _ rfl
  have HS := Lib.hid (vDcSorted_ok w.heap.size mb m hml W1 hltW1 b0 (MapAt.below hm hbW1) D hmp hsD)
  clear h hrow hm hmp hmk hgone hsD hsW hne1 hne2 hne3 hml b0 hcW1
  go_enter Tryz.func21, Tryz.ntmps21
  go_wp2_with fail
  refine (vDc_ok _ _).mono ?_
  rintro e w1 ⟨rfl, hw1⟩
  rw [hW1] at hw1
  subst hw1
  go_wp2_with fail
  refine HS.out.mono ?_
  rintro e w2 ⟨v, rfl, ho, hb⟩
  go_wp2_with fail
  go_ret
  exact ⟨v, rfl, ho.base (by omega), below_trans hbW1 hb⟩
set_option maxHeartbeats 2000000 in
theorem LDrawn_ok (q mb wb : Nat) (D : List Dec) (W : List Mrk) (w : World) (h : LedAt w q mb wb D W) (hl : W.length ≤ 1000) :
    Calls Tryz.prog 19 #[.pointer (some ⟨q, 0, none⟩)] w fun e w' => ∃ v, e = .returned v ∧ OwnMk w.heap.size w' v W ∧ Below w.heap.size w w' := by
  obtain ⟨hrow, hmade, ⟨s, hs, hsp, hst⟩, hsD, hsW, hne1, hne2, hne3⟩ := id h
  obtain ⟨⟨r0, r1⟩, _⟩ := cellsM hrow
  have hml : s.length ≤ 1048576 := by have := hsp.length_eq; simp at this; omega
  obtain ⟨W1, hW1, HzW1, hbW1, hltW1, hcW1⟩ := boxed w #[.map (some wb)] 97
  have b0 := hcW1 0 _ rfl
  have HS := Lib.hid (vMkSorted_ok w.heap.size wb s hml W1 hltW1 b0 (MapAt.below hs hbW1) W hsp hsW)
  clear h hrow hs hsp hst hmade hsD hsW hne1 hne2 hne3 hml b0 hcW1
  go_enter Tryz.func19, Tryz.ntmps19
  go_wp2_with fail
  refine (vMk_ok _ _).mono ?_
  rintro e w1 ⟨rfl, hw1⟩
  rw [hW1] at hw1
  subst hw1
  go_wp2_with fail
  refine HS.out.mono ?_
  rintro e w2 ⟨v, rfl, ho, hb⟩
  go_wp2_with fail
  go_ret
  exact ⟨v, rfl, ho.base (by omega), below_trans hbW1 hb⟩
set_option maxHeartbeats 4000000 in
set_option maxRecDepth 100000 in
/-- The closure of Standing: whether a decision's mark is withdrawn. -/
theorem gone_ok (q mb wb Bl : Nat) (D : List Dec) (W : List Mrk) (d : Dec) (w : World) (h : LedAt w q mb wb D W) (hc : w.cell? ⟨Bl, 0, none⟩ = some (.pointer (some ⟨q, 0, none⟩))) (hw : wfDc d) :
    Calls Tryz.prog 129 #[decVal d, .pointer (some ⟨Bl, 0, none⟩)] w fun e w' => e = .returned (.bool (decide (mkOf d ∈ W))) ∧ Below w.heap.size w w' := by
  obtain ⟨X, hX, HzX, hbX, hltX, _⟩ := boxed w #[.int .i64 (d).au, .int .i64 (d).nu, .int .i64 (d).ki, .int .i64 (d).a, .int .i64 (d).b] 33
  have hkX : (X).heap[(w).heap.size]? = some (.cells [.int .i64 (d).au, .int .i64 (d).nu, .int .i64 (d).ki, .int .i64 (d).a, .int .i64 (d).b].toArray 33 (0, 0)) := by rw [← hX]; exact heap_alloc_new _ _
  obtain ⟨⟨c0, c1, c2, c3, c4⟩, _⟩ := cellsD5 hkX
  have p0 := cell_later hbX hc
  obtain ⟨hrow, hmade, ⟨s, hs, hsp, hst⟩, hsD, hsW, hne1, hne2, hne3⟩ := id (h.below hbX)
  obtain ⟨⟨r0, r1⟩, _⟩ := cellsM hrow
  have hlg := look_gone hsp hst (mkOf d)
  obtain ⟨T, hT⟩ : ∃ T, decide (mkOf d ∈ W) = T := ⟨_, rfl⟩
  have HL := Lib.hid fun (w9 : World) (hb : Below X.heap.size X w9) => (show (Instr.lookup 97 (.map (some wb)) (.agg #[.int .i64 d.au, .int .i64 d.nu]) false).run Tryz.prog w9 = .ok (.bool T) w9 from by
    have := MapAt.look (MapAt.below hs hb) Tryz.underlying97 (x := mkOf d) ⟨hw.1, hw.2.1⟩
    rw [show (elBool Tryz.underlying4 zBool).zero = false from rfl, hlg, hT] at this
    exact this)
  rw [hT]
  clear hkX h hrow hmade hs hsp hst hsD hsW hne1 hne2 hne3 hlg hT hc hw
  go_enter Tryz.func129, Tryz.ntmps129
  go_wp2_with fail
  have hba : Below (X).heap.size (X) (X).drew := (Below.refl _ _).drew
  obtain ⟨wa, hwa⟩ : ∃ W, (X).drew = W := ⟨_, rfl⟩
  rw [hwa] at hba
  have HSt := Lib.hid fun (w9 : World) (hb : Below wa.heap.size wa w9) => (show (fun w' : World => Below wa.heap.size wa w' ∧ w'.cell? ⟨Bl, 0, none⟩ = some (.pointer (some ⟨q, 0, none⟩)) ∧ w'.cell? ⟨q, 1, none⟩ = some (.map (some wb)) ∧ w'.cell? ⟨w.heap.size, 0, none⟩ = some (.int .i64 d.au) ∧ w'.cell? ⟨w.heap.size, 1, none⟩ = some (.int .i64 d.nu) ∧ w'.cell? ⟨w.heap.size, 2, none⟩ = some (.int .i64 d.ki) ∧ w'.cell? ⟨w.heap.size, 3, none⟩ = some (.int .i64 d.a) ∧ w'.cell? ⟨w.heap.size, 4, none⟩ = some (.int .i64 d.b)) w9 from ⟨hb, cell_later hb (cell_later hba p0), cell_later hb (cell_later hba r1), cell_later hb (cell_later hba c0), cell_later hb (cell_later hba c1), cell_later hb (cell_later hba c2), cell_later hb (cell_later hba c3), cell_later hb (cell_later hba c4)⟩)
  have hHeld := HSt.out wa (Below.refl _ _)
  refine wp_region_S 6 (fun w' : World => Below wa.heap.size wa w' ∧ w'.cell? ⟨Bl, 0, none⟩ = some (.pointer (some ⟨q, 0, none⟩)) ∧ w'.cell? ⟨q, 1, none⟩ = some (.map (some wb)) ∧ w'.cell? ⟨w.heap.size, 0, none⟩ = some (.int .i64 d.au) ∧ w'.cell? ⟨w.heap.size, 1, none⟩ = some (.int .i64 d.nu) ∧ w'.cell? ⟨w.heap.size, 2, none⟩ = some (.int .i64 d.ki) ∧ w'.cell? ⟨w.heap.size, 3, none⟩ = some (.int .i64 d.a) ∧ w'.cell? ⟨w.heap.size, 4, none⟩ = some (.int .i64 d.b)) (by kernel_rfl) (by decide) ?_
  rw [hwa]
  clear hwa
  refine wpAnyS_takeD 0 (some 4) (.pointer (some ⟨q, 0, none⟩)) (by rfl) (by rfl) (by kernel_rfl) (by exact fun _ _ _ h => h) (by rfl) (fun w' hS => by (obtain ⟨_, x0, x1, _⟩ := hS; go_simp)) hHeld ?_
  simp only [Act.put, List.setIfInBounds_toArray, List.set_cons_succ, List.set_cons_zero]
  refine wpAnyS_takeD 1 (some 5) (.pointer (some ⟨q, 0, none⟩)) (by rfl) (by rfl) (by kernel_rfl) (by exact fun _ _ _ h => h) (by rfl) (fun w' hS => by go_simp) hHeld ?_
  simp only [Act.put, List.setIfInBounds_toArray, List.set_cons_succ, List.set_cons_zero]
  refine wpAnyS_takeD 2 (some 6) (.pointer (some ⟨q, 1, none⟩)) (by rfl) (by rfl) (by kernel_rfl) (by exact fun _ _ _ h => h) (by rfl) (fun w' hS => by go_simp) hHeld ?_
  simp only [Act.put, List.setIfInBounds_toArray, List.set_cons_succ, List.set_cons_zero]
  refine wpAnyS_takeD 3 (some 7) (.map (some wb)) (by rfl) (by rfl) (by kernel_rfl) (by exact fun _ _ _ h => h) (by rfl) (fun w' hS => by (obtain ⟨_, x0, x1, _⟩ := hS; go_simp)) hHeld ?_
  simp only [Act.put, List.setIfInBounds_toArray, List.set_cons_succ, List.set_cons_zero]
  refine wpAnyS_takeD 4 (some 8) (decVal d) (by rfl) (by rfl) (by kernel_rfl) (by exact fun _ _ _ h => h) (by rfl) (fun w' hS => by (obtain ⟨_, _, _, x0, x1, x2, x3, x4⟩ := hS; go_simp)) hHeld ?_
  simp only [Act.put, List.setIfInBounds_toArray, List.set_cons_succ, List.set_cons_zero]
  clear hHeld
  refine wpAnyS_one 5 (by kernel_rfl) (by rfl) (by decide) (fun K hK => ?_)
  have HK := Lib.hid hK; clear hK
  rw [if_pos (by rfl)]
  go_simp
  refine (dmark_ok d wa).mono ?_
  rintro e w5 ⟨rfl, hb5⟩
  have hl9 := HL.out w5 (below_trans hba hb5)
  refine HK.out _ _ (HSt.out _ hb5) ?_
  clear HK
  refine (show tailOf _ _ _ _ _ _ _ _ from ⟨by kernel_rfl, ?_⟩)
  simp only [List.drop_succ_cons, List.drop_zero]
  go_wp2_with fail
  go_ret
  exact ⟨rfl, below_trans hbX (below_trans hba hb5)⟩
abbrev valDc (d : Dec) : Value := .agg #[.int .i64 d.au, .int .i64 d.nu, .int .i64 d.ki, .int .i64 d.a, .int .i64 d.b]
def zeroDc : Value := .agg #[.int .i64 0, .int .i64 0, .int .i64 0, .int .i64 0, .int .i64 0]
theorem zeroDc_run (w : World) : (zeroValue 33).run Tryz.prog w = .ok zeroDc w := by unfold zeroDc; kernel_rfl
set_option maxHeartbeats 4000000 in
set_option maxRecDepth 100000 in
theorem indexDc_ok (p : Dec → Bool) (q : Value) (B : Nat) (v : Value) (xs : List Dec) (w : World) (h : OwnDc B w v xs) (hn : xs.length ≤ 1048576)
    (hp : ∀ x ∈ xs, ∀ W, Below B w W → Calls Tryz.prog 129 #[valDc x, q] W fun e w' => e = .returned (.bool (p x)) ∧ Below W.heap.size W w') :
    Calls Tryz.prog 164 #[v, .func (.func 129) #[] #[q]] w fun e w' => e = .returned (.int .i64 (firstI p xs)) ∧ Below w.heap.size w w' := by
  have Hp := Lib.hid hp; clear hp
  have hv : ∃ A c, v = .slice A xs.length c := by
    rcases h.cases with ⟨rfl, rfl⟩ | ⟨g, cap, rfl, _⟩
    · exact ⟨_, _, rfl⟩
    · exact ⟨_, _, rfl⟩
  obtain ⟨A, c, rfl⟩ := hv
  go_enter Tryz.func164, Tryz.ntmps164
  go_wp2
  go_loopw [8] (fun i wr => ∃ k : Nat, k ≤ xs.length ∧ i = .int .i64 k ∧ Hid ((xs.take k).all (fun x => !p x) = true) ∧ Below w.heap.size w wr) (fun i _ => xs.length - (intOf i).toNat)
  case atStart => exact ⟨0, Nat.zero_le _, rfl, by show _ = _; simp, Below.refl _ _⟩
  case round =>
    obtain ⟨k, hk, rfl, Hr, hb⟩ := hrel
    by_cases hlt : k < xs.length
    · obtain ⟨x, hx⟩ := get_of_lt hlt
      rcases h.cases with ⟨_, h0⟩ | ⟨g, cap, e, hg, _, _⟩
      · rw [h0] at hlt; simp at hlt
      cases e
      have hw := h.below hb
      have c_0 := (hw.cellsAt lenDc rfl hx (j := 0) rfl); have c_1 := (hw.cellsAt lenDc rfl hx (j := 1) rfl); have c_2 := (hw.cellsAt lenDc rfl hx (j := 2) rfl); have c_3 := (hw.cellsAt lenDc rfl hx (j := 3) rfl); have c_4 := (hw.cellsAt lenDc rfl hx (j := 4) rfl)
      obtain ⟨c_0, fc_0⟩ := c_0; obtain ⟨c_1, fc_1⟩ := c_1; obtain ⟨c_2, fc_2⟩ := c_2; obtain ⟨c_3, fc_3⟩ := c_3; obtain ⟨c_4, fc_4⟩ := c_4
      simp only [Nat.add_zero] at c_0 fc_0
      have Hx := Lib.hid hx; clear hx hw h
      have hP := Hp.out x (List.mem_of_getElem? Hx.out) wr (hb.mono (by omega))
      have hl1 : (k : Int) < (xs.length : Int) := by omega
      have hl0 : (0 : Int) ≤ (k : Int) := by omega
      cases hpx : p x
      · rw [hpx] at hP
        have HP := Lib.hid hP; clear hP
        go_wp2_with fail
        refine HP.out.mono ?_
        rintro e w1 ⟨rfl, hb1⟩
        go_wp2_with fail
        refine ⟨?rel, ?measure⟩
        case rel => exact ⟨k + 1, by omega, by go_num, all_snoc Hx.out Hr.out (by simp [hpx]), below_trans hb hb1⟩
        case measure => simp [intOf]; omega
      · rw [hpx] at hP
        have HP := Lib.hid hP; clear hP
        go_wp2_with fail
        refine HP.out.mono ?_
        rintro e w1 ⟨rfl, hb1⟩
        go_wp2_with fail
        go_ret
        exact ⟨ret_i64 (firstI_hit Hx.out Hr.out hpx).symm, below_trans hb hb1⟩
    · have Hm : Hid (firstI p xs = -1) := firstI_miss (all_end hlt Hr.out)
      go_wp2_with fail
      go_ret
      exact ⟨ret_i64 Hm.out.symm, hb⟩
set_option maxHeartbeats 8000000 in
set_option maxRecDepth 100000 in
theorem deleteDc_ok (p : Dec → Bool) (q : Value) (B : Nat) (v : Value) (xs : List Dec) (w : World) (h : OwnDc B w v xs) (hn : xs.length ≤ 1048576) (hB : B ≤ w.heap.size)
    (hp : ∀ x ∈ xs, ∀ W, Below B w W → Calls Tryz.prog 129 #[valDc x, q] W fun e w' => e = .returned (.bool (p x)) ∧ Below W.heap.size W w') :
    Calls Tryz.prog 128 #[v, .func (.func 129) #[] #[q]] w fun e w' => ∃ u, e = .returned u ∧ OwnDc B w' u (xs.filter fun x => !p x) ∧ Below B w w' := by
  have HI := Lib.hid (indexDc_ok p q B v xs w h hn hp)
  have Hp := Lib.hid hp; clear hp
  by_cases hall : xs.all (fun x => !p x) = true
  · have hF : xs.filter (fun x => !p x) = xs := List.filter_eq_self.2 (List.all_eq_true.1 hall)
    have hm : firstI p xs = -1 := firstI_miss hall
    rw [hm] at HI
    have HF := Lib.hid hF; clear hF hm hall
    go_enter Tryz.func128, Tryz.ntmps128
    go_wp2_with fail
    refine HI.out.mono ?_
    rintro e w1 ⟨rfl, hb1⟩
    go_wp2_with fail
    go_ret
    exact ⟨_, rfl, by rw [HF.out]; exact h.below hb1, hb1.mono hB⟩
  obtain ⟨i0, x0, hx0, hall0, hp0⟩ := first_hit hall
  have hm : firstI p xs = i0 := firstI_hit hx0 hall0 hp0
  have hi0 := lt_of_get hx0
  rw [hm] at HI
  have hd : (((i0 : Nat) : Int) == -1) = false := by simp <;> omega
  rcases h.cases with ⟨rfl, h0⟩ | ⟨g, cap, rfl, hg, hgw, hcap, hmx⟩
  · rw [h0] at hi0; simp at hi0
  have hmx' : (cap : Int) ≤ 9223372036854775807 := by simp only [maxLen] at hmx; omega
  have Hst : Hid ((xs.take (i0 + 1)).filter (fun x => !p x) = xs.take i0) := by
    show _ = _
    rw [take_snoc' hx0, List.filter_append, List.filter_eq_self.2 (List.all_eq_true.1 hall0)]
    simp [hp0]
  clear hm hall0 hp0 hx0 hall
  go_enter Tryz.func128, Tryz.ntmps128
  go_wp2_with fail
  refine HI.out.mono ?_
  rintro e w1 ⟨rfl, hb1⟩
  have h1 := h.below hb1
  have hbB := hb1.mono hB
  clear h
  go_wp2_with fail
  go_loopw [5, 6] (fun t5 t6 wr => ∃ (i j : Nat) (dk : List Dec), t5 = .int .i64 i ∧ t6 = .int .i64 j ∧ i < j ∧ j ≤ xs.length ∧ OwnDc B wr (.slice (some ⟨g, 0, none⟩) xs.length cap) dk ∧ Hid (xs.length = dk.length) ∧ Hid (dk.take i = (xs.take j).filter (fun x => !p x)) ∧ Hid (∀ t, j ≤ t → dk[t]? = xs[t]?) ∧ Hid (((xs.take j).filter (fun x => !p x)).length = i) ∧ Below B w wr) (fun _ t6 _ => xs.length - (intOf t6).toNat)
  case atStart => exact ⟨i0, i0 + 1, xs, rfl, by go_num, by omega, by omega, h1, rfl, Hst.out.symm, fun _ _ => rfl, by show _ = _; rw [Hst.out, List.length_take]; omega, hbB⟩
  case round =>
    clear h1 hbB hb1
    obtain ⟨i, j, dk, rfl, rfl, hij, hj, hown, Hl, Htk, Htl, Hlen, hb⟩ := hrel
    by_cases hlt : j < xs.length
    · obtain ⟨x, hx⟩ := get_of_lt hlt
      have hxd : dk[j]? = some x := by rw [Htl.out j (Nat.le_refl _)]; exact hx
      obtain ⟨y, hy⟩ := get_of_lt (show i < dk.length by have := Hl.out; omega)
      have c_0 := (hown.cellsAt lenDc Hl.out hxd (j := 0) rfl); have c_1 := (hown.cellsAt lenDc Hl.out hxd (j := 1) rfl); have c_2 := (hown.cellsAt lenDc Hl.out hxd (j := 2) rfl); have c_3 := (hown.cellsAt lenDc Hl.out hxd (j := 3) rfl); have c_4 := (hown.cellsAt lenDc Hl.out hxd (j := 4) rfl)
      obtain ⟨c_0, fc_0⟩ := c_0; obtain ⟨c_1, fc_1⟩ := c_1; obtain ⟨c_2, fc_2⟩ := c_2; obtain ⟨c_3, fc_3⟩ := c_3; obtain ⟨c_4, fc_4⟩ := c_4
      simp only [Nat.add_zero] at c_0 fc_0
      clear hxd
      obtain ⟨W1, hW1, Hz1, hb2, hlt1, hc1⟩ := boxed wr (encDc x).toArray 33
      simp only [encDc] at hW1 hc1
      have hgl : g < wr.heap.size := by obtain ⟨cur, _, hg, _⟩ := hown.row Hl.out; exact heap_lt hg
      have hB1 := Below.size hb
      have hP := Hp.out x (List.mem_of_getElem? hx) W1 (hb.trans (hb2.mono (by omega)))
      have own1 := hown.below hb2
      have hl1 : (j : Int) < (xs.length : Int) := by omega
      have hl0 : (0 : Int) ≤ (j : Int) := by omega
      have hl2 : (i : Int) < (xs.length : Int) := by omega
      have hl3 : (0 : Int) ≤ (i : Int) := by omega
      have hbW := hb.trans (hb2.mono (by omega))
      have hBg : B ≤ wr.heap.size := by omega
      have hsn : (xs.take (j + 1)).filter (fun x => !p x) = (xs.take j).filter (fun x => !p x) ++ (if p x = true then [] else [x]) := by
        rw [take_snoc' hx, List.filter_append]
        cases hpx : p x <;> simp [hpx]
      have Hx := Lib.hid hx; have Hy := Lib.hid hy; clear hx hy hown
      have m1 := fun i v h => Later.cell_all (hc1 i v h)
      cases hpx : p x
      · rw [hpx] at hP
        rw [hpx, if_neg (by simp)] at hsn
        have HP := Lib.hid hP; have Hsn := Lib.hid hsn; clear hP hsn m1
        go_wp2_with fail
        refine HP.out.mono ?_
        rintro e w2 ⟨rfl, hb3⟩
        have own2 := own1.below hb3
        have d_0 := (own2.cellsAt lenDc Hl.out Hy.out (j := 0) rfl); have d_1 := (own2.cellsAt lenDc Hl.out Hy.out (j := 1) rfl); have d_2 := (own2.cellsAt lenDc Hl.out Hy.out (j := 2) rfl); have d_3 := (own2.cellsAt lenDc Hl.out Hy.out (j := 3) rfl); have d_4 := (own2.cellsAt lenDc Hl.out Hy.out (j := 4) rfl)
        obtain ⟨d_0, fd_0⟩ := d_0; obtain ⟨d_1, fd_1⟩ := d_1; obtain ⟨d_2, fd_2⟩ := d_2; obtain ⟨d_3, fd_3⟩ := d_3; obtain ⟨d_4, fd_4⟩ := d_4
        simp only [Nat.add_zero] at d_0 fd_0
        have hput := own2.put lenDc (by omega) Hl.out (i := i) (by omega) x
        have Hput := Lib.hid hput; clear hput own1 own2 hW1
        have b0 := cell_later hb3 (hc1 0 _ rfl); have b1 := cell_later hb3 (hc1 1 _ rfl); have b2 := cell_later hb3 (hc1 2 _ rfl); have b3 := cell_later hb3 (hc1 3 _ rfl); have b4 := cell_later hb3 (hc1 4 _ rfl)
        clear hc1
        go_wp2_with fail
        refine ⟨?rel, ?measure⟩
        case rel =>
          refine ⟨i + 1, j + 1, dk.set i x, by go_num, by go_num, by omega, by omega, Hput.out, by show _ = _; rw [List.length_set]; exact Hl.out, ?_, ?_, ?_, ?_⟩
          · show _ = _
            rw [Hsn.out, ← Htk.out]
            have hi := lt_of_get Hy.out
            apply List.ext_getElem?
            intro t
            rcases Nat.lt_trichotomy t i with e | e | e
            · rw [List.getElem?_take_of_lt (by omega), List.getElem?_set_ne (by omega), List.getElem?_append_left (by simp; omega), List.getElem?_take_of_lt e]
            · subst e
              rw [List.getElem?_take_of_lt (by omega), List.getElem?_set_self hi, List.getElem?_append_right (by simp; omega), show t - (dk.take t).length = 0 by simp; omega]
              rfl
            · rw [List.getElem?_take_eq_none (by omega), List.getElem?_eq_none (by simp; omega)]
          · intro t ht
            rw [List.getElem?_set_ne (by omega)]
            exact Htl.out t (by omega)
          · show _ = _
            rw [Hsn.out, List.length_append, Hlen.out]
            rfl
          · exact (hbW.trans (hb3.mono (by omega))).grown (setCells_grown g (encDc x) w2 (i * 5)) (by have := hb3.size; omega) (fun k e => by cases e; exact hg)
        case measure => simp [intOf]; omega
      · rw [hpx] at hP
        rw [hpx, if_pos rfl, List.append_nil] at hsn
        have HP := Lib.hid hP; have Hsn := Lib.hid hsn; clear hP hsn m1
        go_wp2_with fail
        refine HP.out.mono ?_
        rintro e w2 ⟨rfl, hb3⟩
        have own2 := own1.below hb3
        clear hW1 own1
        go_wp2_with fail
        refine ⟨?rel, ?measure⟩
        case rel => exact ⟨i, j + 1, dk, rfl, by go_num, by omega, by omega, own2, Hl, by show _ = _; rw [Hsn.out]; exact Htk.out, fun t ht => Htl.out t (by omega), by show _ = _; rw [Hsn.out]; exact Hlen.out, hbW.trans (hb3.mono (by omega))⟩
        case measure => simp [intOf]; omega
    · have hje : xs.take j = xs := List.take_of_length_le (by omega)
      have Hfin : Hid (dk.take i = xs.filter (fun x => !p x)) := by show _ = _; rw [Htk.out, hje]
      clear hje
      obtain ⟨cur, hBg, hgc, q1, q2, q3, q4⟩ := hown.row Hl.out
      have hcl := fun ty => run_clear_rows (P := Tryz.prog) wr 48 33 ty (zeroDc) Tryz.underlying48 zeroDc_run (by simp [zeroDc, Value.cells, Value.oneCell']) g (i * 5) (xs.length - i) (cap - i) (by omega)
        (fun t ht => by rw [heap_cell hgc]; simp [zeroDc, Value.cells] at ht; rw [Array.getElem?_eq_getElem (by omega)]; rfl) (fun t ht => heap_free hgc)
      obtain ⟨Z, hZ⟩ : ∃ Z, (Builtin.zeroCells (zeroDc).cells (xs.length - i)).toList = Z := ⟨_, rfl⟩
      have hZl : Z.length = (xs.length - i) * 5 := by rw [← hZ, zeros_len]; rfl
      simp only [hZ] at hcl
      clear hZ
      have HZl := Lib.hid hZl; clear hZl
      have Hown := Lib.hid hown; clear hown q3 q4 hgc
      have i2 : (i : Int) ≤ (xs.length : Int) := by omega
      have i3 : (0 : Int) ≤ (i : Int) := by omega
      have i4 : (i : Int) ≤ (cap : Int) := by omega
      have i5 : ¬ cap = i := by omega
      have hBw := Below.size hb
      go_wp2
      go_ret
      have hcut := Hown.out.cut lenDc Hl.out (m := i) (by omega)
      rw [Hfin.out] at hcut
      have hlen : i = (xs.filter (fun x => !p x)).length := by rw [← Hfin.out, List.length_take]; have := Hl.out; omega
      exact ⟨_, rfl, hcut.putTail lenDc hlen (Nat.le_refl _) Z (by rw [HZl.out]; omega), hb.grown (setCells_grown g _ wr (i * 5)) (by omega) (fun k e => by cases e; exact hg)⟩
set_option maxHeartbeats 4000000 in
theorem LStand_ok (q mb wb : Nat) (D : List Dec) (W : List Mrk) (w : World) (h : LedAt w q mb wb D W) (hl : D.length ≤ 1000) :
    Calls Tryz.prog 78 #[.pointer (some ⟨q, 0, none⟩)] w fun e w' => ∃ v, e = .returned v ∧ OwnDc w.heap.size w' v (standL D W) ∧ Below w.heap.size w w' := by
  obtain ⟨W1, hW1, HzW1, hbW1, hltW1, hcW1⟩ := boxed w #[.pointer (some ⟨q, 0, none⟩)] 43
  have b0 := hcW1 0 _ rfl
  have HM := Lib.hid (LMade_ok q mb wb D W W1 (h.below hbW1) hl)
  have Hg := Lib.hid fun (x : Dec) (hx : x ∈ D) (W9 : World) (hb : Below W1.heap.size W1 W9) => gone_ok q mb wb w.heap.size D W x W9 ((h.below hbW1).below hb) (cell_later hb b0) (h.wfD x hx)
  have Hw := Lib.hid (show standL D W = D.filter fun x => !decide (mkOf x ∈ W) from rfl)
  clear h hcW1
  go_enter Tryz.func78, Tryz.ntmps78
  go_wp2_with fail
  refine HM.out.mono ?_
  rintro e w1 ⟨v, rfl, ho, hb1⟩
  clear HM
  go_wp2_with fail
  refine (deleteDc_ok (fun x => decide (mkOf x ∈ W)) (.pointer (some ⟨w.heap.size, 0, none⟩)) W1.heap.size v D w1 ho (by omega) hb1.size (fun x hx W9 hb9 => Hg.out x hx W9 (hb1.trans hb9))).mono ?_
  rintro e w2 ⟨u, rfl, ho2, hb2⟩
  go_wp2_with fail
  go_ret
  exact ⟨u, rfl, by rw [Hw.out]; exact ho2.base (by omega), hbW1.trans ((hb1.trans hb2).mono (by omega))⟩
end Go.Proofs.YthnckicnnhkkaaaGreat
/- Package decision: Clone and Same, nil ledgers too. Condition: the ledgers read as such. -/
namespace Go.Proofs.YthnckicnnhkkaaaGreat
open Go.RowKit Go.Maps Go.Shelf

section
variable {κ β : Type} [DecidableEq κ] {k e : TypeId} {KE : KeyEnc Tryz.prog k κ} {EE : ElEnc Tryz.prog e β}
theorem MapAt.copied {w w' : World} {b b' : Nat} {m : List (κ × β)} (h : MapAt KE EE w b m) (hk : ∀ n D, w.ownsMap Tryz.prog k EE.R b n D → w'.ownsMap Tryz.prog k EE.R b' n D) : MapAt KE EE w' b' m := by
  obtain ⟨⟨D, h1, h2⟩, h3, h4⟩ := h
  exact ⟨⟨D, hk _ _ h1, h2⟩, h3, h4⟩
end
theorem mcloneDc_ok (b : Nat) (m : List (Mrk × Dec)) (w : World) (h : MapDc w b m) :
    Calls Tryz.prog 109 #[.map (some b)] w fun e w' => e = .returned (.map (some w.heap.size)) ∧ MapDc w' w.heap.size m ∧ Below w.heap.size w w' := by
  obtain ⟨⟨D, h1, h2⟩, h3, h4⟩ := h
  refine (AnyW.maps_Clone_owns Tryz.layCloneD 35 elDec.R b _ D w h1).mono ?_
  rintro e w' ⟨rfl, k1, _, k3⟩
  exact ⟨rfl, ⟨⟨D, k1, h2⟩, h3, h4⟩, k3⟩
theorem mcloneMk_ok (b : Nat) (m : List (Mrk × Bool)) (w : World) (h : MapMk w b m) :
    Calls Tryz.prog 110 #[.map (some b)] w fun e w' => e = .returned (.map (some w.heap.size)) ∧ MapMk w' w.heap.size m ∧ Below w.heap.size w w' := by
  obtain ⟨⟨D, h1, h2⟩, h3, h4⟩ := h
  refine (AnyW.maps_Clone_owns Tryz.layCloneM 35 (elBool Tryz.underlying4 zBool).R b _ D w h1).mono ?_
  rintro e w' ⟨rfl, k1, _, k3⟩
  exact ⟨rfl, ⟨⟨D, k1, h2⟩, h3, h4⟩, k3⟩
theorem LedAt.made_ {w : World} {q mb wb q' mb' wb' : Nat} {D : List Dec} {W : List Mrk} (h : LedAt w q mb wb D W) {w' : World} (hr : w'.heap[q']? = some (.cells [.map (some mb'), .map (some wb')].toArray 100 (0, 0)))
    (hm : ∀ m, MapDc w mb m → MapDc w' mb' m) (hs : ∀ s, MapMk w wb s → MapMk w' wb' s) (hne : q' ≠ mb' ∧ q' ≠ wb' ∧ mb' ≠ wb') : LedAt w' q' mb' wb' D W := by
  obtain ⟨h1, ⟨m, h2, h3⟩, ⟨s, h4, h5⟩, h6, h7, h8⟩ := h
  exact ⟨hr, ⟨m, hm m h2, h3⟩, ⟨s, hs s h4, h5⟩, h6, h7, hne⟩
set_option maxHeartbeats 4000000 in
set_option maxRecDepth 100000 in
theorem LClone_ok (q mb wb : Nat) (D : List Dec) (W : List Mrk) (w : World) (h : LedAt w q mb wb D W) :
    Calls Tryz.prog 59 #[.pointer (some ⟨q, 0, none⟩)] w fun e w' => ∃ q' mb' wb', e = .returned (.pointer (some ⟨q', 0, none⟩)) ∧ LedAt w' q' mb' wb' D W ∧ w.heap.size ≤ q' ∧ w.heap.size ≤ mb' ∧ w.heap.size ≤ wb' ∧ Below w.heap.size w w' := by
  obtain ⟨hrow, ⟨m, hm, hmr⟩, ⟨s, hs, hsr⟩, hsD, hsW, hne⟩ := id h
  obtain ⟨⟨r0, r1⟩, _⟩ := cellsM hrow
  have HD := Lib.hid fun (w9 : World) (hb : Below w.heap.size w w9) => mcloneDc_ok mb m w9 (MapAt.below hm hb)
  have HM := Lib.hid fun (w9 : World) (hb : Below w.heap.size w w9) => mcloneMk_ok wb s w9 (MapAt.below hs hb)
  have HF : Hid (∀ w1 w2 b1 b2, Below w.heap.size w w1 → MapDc w1 b1 m → MapMk w1 b2 s → b1 ≠ b2 → b1 < w1.heap.size → b2 < w1.heap.size → w.heap.size ≤ b1 → w.heap.size ≤ b2 → w1.alloc (.cells #[.map (some b1), .map (some b2)] 100) = w2 → LedAt w2 w1.heap.size b1 b2 D W ∧ Below w.heap.size w w2) := Lib.hid (by
    intro w1 w2 b1 b2 hb k1 k2 k3 k4 k5 k6 k7 hw2
    have hb3 : Below w1.heap.size w1 w2 := by rw [← hw2]; exact (Below.refl _ _).alloc (Nat.le_refl _) _
    exact ⟨⟨by rw [← hw2]; exact heap_alloc_new _ _, ⟨m, MapAt.below k1 hb3, hmr⟩, ⟨s, MapAt.below k2 hb3, hsr⟩, hsD, hsW, by omega, by omega, k3⟩, below_trans hb hb3⟩)
  clear h hrow hm hmr hs hsr hsD hsW hne
  go_enter Tryz.func59, Tryz.ntmps59
  go_wp2_with fail
  have hba : Below (w).heap.size (w) (w).drew := (Below.refl _ _).drew
  obtain ⟨wa, hwa⟩ : ∃ W, (w).drew = W := ⟨_, rfl⟩
  rw [hwa] at hba
  have HSt := Lib.hid fun (w9 : World) (hb : Below wa.heap.size wa w9) => (show (fun w' : World => Below wa.heap.size wa w' ∧ w'.cell? ⟨q, 0, none⟩ = some (.map (some mb)) ∧ w'.cell? ⟨q, 1, none⟩ = some (.map (some wb))) w9 from ⟨hb, cell_later hb (cell_later hba r0), cell_later hb (cell_later hba r1)⟩)
  have hHeld := HSt.out wa (Below.refl _ _)
  refine wp_region_S 10 (fun w' : World => Below wa.heap.size wa w' ∧ w'.cell? ⟨q, 0, none⟩ = some (.map (some mb)) ∧ w'.cell? ⟨q, 1, none⟩ = some (.map (some wb))) (by kernel_rfl) (by decide) ?_
  rw [hwa]
  clear hwa
  refine wpAnyS_takeD 0 (some 5) (.pointer (some ⟨q, 0, none⟩)) (by rfl) (by rfl) (by kernel_rfl) (by exact fun _ _ _ h => h) (by rfl) (fun w' hS => by go_simp) hHeld ?_
  simp only [Act.put, List.setIfInBounds_toArray, List.set_cons_succ, List.set_cons_zero]
  refine wpAnyS_takeD 1 (some 6) (.pointer (some ⟨q, 0, none⟩)) (by rfl) (by rfl) (by kernel_rfl) (by exact fun _ _ _ h => h) (by rfl) (fun w' hS => by go_simp) hHeld ?_
  simp only [Act.put, List.setIfInBounds_toArray, List.set_cons_succ, List.set_cons_zero]
  refine wpAnyS_takeD 2 (some 7) (.pointer (some ⟨q, 0, none⟩)) (by rfl) (by rfl) (by kernel_rfl) (by exact fun _ _ _ h => h) (by rfl) (fun w' hS => by go_simp) hHeld ?_
  simp only [Act.put, List.setIfInBounds_toArray, List.set_cons_succ, List.set_cons_zero]
  refine wpAnyS_takeD 3 (some 8) (.map (some mb)) (by rfl) (by rfl) (by kernel_rfl) (by exact fun _ _ _ h => h) (by rfl) (fun w' hS => by (obtain ⟨_, x0, x1⟩ := hS; go_simp)) hHeld ?_
  simp only [Act.put, List.setIfInBounds_toArray, List.set_cons_succ, List.set_cons_zero]
  refine wpAnyS_takeD 5 (some 10) (.pointer (some ⟨q, 0, none⟩)) (by rfl) (by rfl) (by kernel_rfl) (by exact fun _ _ _ h => h) (by rfl) (fun w' hS => by go_simp) hHeld ?_
  simp only [Act.put, List.setIfInBounds_toArray, List.set_cons_succ, List.set_cons_zero]
  refine wpAnyS_takeD 6 (some 11) (.pointer (some ⟨q, 0, none⟩)) (by rfl) (by rfl) (by kernel_rfl) (by exact fun _ _ _ h => h) (by rfl) (fun w' hS => by go_simp) hHeld ?_
  simp only [Act.put, List.setIfInBounds_toArray, List.set_cons_succ, List.set_cons_zero]
  refine wpAnyS_takeD 7 (some 12) (.pointer (some ⟨q, 1, none⟩)) (by rfl) (by rfl) (by kernel_rfl) (by exact fun _ _ _ h => h) (by rfl) (fun w' hS => by go_simp) hHeld ?_
  simp only [Act.put, List.setIfInBounds_toArray, List.set_cons_succ, List.set_cons_zero]
  refine wpAnyS_takeD 8 (some 13) (.map (some wb)) (by rfl) (by rfl) (by kernel_rfl) (by exact fun _ _ _ h => h) (by rfl) (fun w' hS => by (obtain ⟨_, x0, x1⟩ := hS; go_simp)) hHeld ?_
  simp only [Act.put, List.setIfInBounds_toArray, List.set_cons_succ, List.set_cons_zero]
  clear hHeld
  refine wpAnyS_one 4 (by kernel_rfl) (by rfl) (by decide) (fun K hK => ?_)
  have HK := Lib.hid hK; clear hK
  rw [if_pos (by rfl)]
  go_simp
  refine (HD.out wa hba).mono ?_
  rintro e w5 ⟨rfl, hm5, hb5⟩
  have hl5 := MapAt.lt hm5
  have Hm5 := Lib.hid hm5
  clear hm5
  refine HK.out _ _ (HSt.out _ hb5) ?_
  clear HK
  refine wpAnyS_one 9 (by kernel_rfl) (by rfl) (by decide) (fun K hK => ?_)
  have HK := Lib.hid hK; clear hK
  rw [if_pos (by rfl)]
  go_simp
  refine (HM.out w5 (below_trans hba hb5)).mono ?_
  rintro e w6 ⟨rfl, hm6, hb6⟩
  have hl6 := MapAt.lt hm6
  have Hm6 := Lib.hid hm6
  clear hm6
  refine HK.out _ _ (HSt.out _ (below_trans hb5 hb6)) ?_
  clear HK
  refine (show tailOf _ _ _ _ _ _ _ _ from ⟨by kernel_rfl, ?_⟩)
  simp only [List.drop_succ_cons, List.drop_zero]
  go_wp2_with fail
  go_ret
  have hz := hba.size; have hz5 := hb5.size; have hz6 := hb6.size
  obtain ⟨k1, k2⟩ := HF.out w6 _ wa.heap.size w5.heap.size (below_trans hba (below_trans hb5 hb6)) (MapAt.below Hm5.out hb6) Hm6.out (by omega) (by omega) (by omega) (by omega) (by omega) rfl
  exact ⟨_, rfl, _, _, k1, by omega, by omega, by omega, k2⟩
/-- A ledger, or none. -/
def LedO (w : World) (v : Value) (D : List Dec) (W : List Mrk) : Prop := (v = .pointer none ∧ D = [] ∧ W = []) ∨ ∃ q mb wb, v = .pointer (some ⟨q, 0, none⟩) ∧ LedAt w q mb wb D W
theorem LedO.below {w w' : World} {v : Value} {D : List Dec} {W : List Mrk} (h : LedO w v D W) (hb : Below w.heap.size w w') : LedO w' v D W :=
  h.imp id fun ⟨q, mb, wb, e, h⟩ => ⟨q, mb, wb, e, h.below hb⟩
set_option maxHeartbeats 1000000 in
theorem MadeO_ok (v : Value) (D : List Dec) (W : List Mrk) (w : World) (h : LedO w v D W) (hl : D.length ≤ 1000) :
    Calls Tryz.prog 21 #[v] w fun e w' => ∃ u, e = .returned u ∧ OwnDc w.heap.size w' u D ∧ Below w.heap.size w w' := by
  rcases h with ⟨rfl, rfl, rfl⟩ | ⟨q, mb, wb, rfl, h⟩
  · go_enter Tryz.func21, Tryz.ntmps21
    go_wp2
    go_ret
    exact ⟨_, rfl, own_nil _ _ _ _ _, Below.refl _ _⟩
  · exact LMade_ok q mb wb D W w h hl
set_option maxHeartbeats 1000000 in
theorem DrawnO_ok (v : Value) (D : List Dec) (W : List Mrk) (w : World) (h : LedO w v D W) (hl : W.length ≤ 1000) :
    Calls Tryz.prog 19 #[v] w fun e w' => ∃ u, e = .returned u ∧ OwnMk w.heap.size w' u W ∧ Below w.heap.size w w' := by
  rcases h with ⟨rfl, rfl, rfl⟩ | ⟨q, mb, wb, rfl, h⟩
  · go_enter Tryz.func19, Tryz.ntmps19
    go_wp2
    go_ret
    exact ⟨_, rfl, own_nil _ _ _ _ _, Below.refl _ _⟩
  · exact LDrawn_ok q mb wb D W w h hl
set_option maxHeartbeats 2000000 in
theorem LSame_ok (v u : Value) (D D' : List Dec) (W W' : List Mrk) (w : World) (h : LedO w v D W) (h' : LedO w u D' W') (hl : D.length ≤ 1000) (hl' : D'.length ≤ 1000) (hm : W.length ≤ 1000) (hm' : W'.length ≤ 1000) :
    Calls Tryz.prog 76 #[v, u] w fun e w' => e = .returned (.bool (decide (D = D') && decide (W = W'))) ∧ Below w.heap.size w w' := by
  have H := Lib.hid h; have H' := Lib.hid h'
  clear h h'
  have HL := Lib.hid hl; have HL' := Lib.hid hl'; have HM := Lib.hid hm; have HM' := Lib.hid hm'
  clear hl hl' hm hm'
  go_enter Tryz.func76, Tryz.ntmps76
  go_wp2_with fail
  refine (MadeO_ok v D W w H.out HL.out).mono ?_
  rintro e w1 ⟨z1, rfl, ho1, hb1⟩
  go_wp2_with fail
  refine (MadeO_ok u D' W' w1 (H'.out.below hb1) HL'.out).mono ?_
  rintro e w2 ⟨z2, rfl, ho2, hb2⟩
  go_wp2_with fail
  refine (equalDecs_ok z1 z2 D D' w2 (ho1.slOf.below hb2) ho2.slOf).mono ?_
  rintro e w3 ⟨rfl, hb3⟩
  have hw3 := below_trans hb1 (below_trans hb2 hb3)
  clear ho1 ho2
  by_cases hd : D = D'
  · have hdd : decide (D = D') = true := by simp [hd]
    have Hd := Lib.hid hdd
    rw [hdd]
    clear hd hdd
    go_wp2_with fail
    refine (DrawnO_ok v D W w3 (H.out.below hw3) HM.out).mono ?_
    rintro e w4 ⟨z3, rfl, ho3, hb4⟩
    go_wp2_with fail
    refine (DrawnO_ok u D' W' w4 (H'.out.below (below_trans hw3 hb4)) HM'.out).mono ?_
    rintro e w5 ⟨z4, rfl, ho4, hb5⟩
    go_wp2_with fail
    refine (equalMrks_ok z3 z4 W W' w5 (ho3.slOf.below hb5) ho4.slOf).mono ?_
    rintro e w6 ⟨rfl, hb6⟩
    go_wp2_with fail
    go_ret
    exact ⟨ret_bool (by rw [Hd.out]; simp), below_trans hw3 (below_trans hb4 (below_trans hb5 hb6))⟩
  · have hdd : decide (D = D') = false := by simp [hd]
    have Hd := Lib.hid hdd
    rw [hdd]
    clear hd hdd
    go_wp2_with fail
    go_ret
    exact ⟨ret_bool (by rw [Hd.out]; simp), hw3⟩
end Go.Proofs.YthnckicnnhkkaaaGreat
