/- walk. Condition: the argument reads as a list of specimens. -/
import Derived.Test.YtcpobcfncmcakaaGroF
namespace Go.Proofs.Ytcpobcfncmcakaa
open Go.RowKit Go.Maps

theorem next_no {t : List Spec} {da db : Die} {last : Int} {k : Nat} {x : Spec} (hN : ∀ p, Walk t da p db → (∀ s, p.head? = some s → s.id ≠ last) → ∀ s, p.head? = some s → ∀ j, j < k → t[j]? ≠ some s) (hx : t[k]? = some x)
    (h : ∀ p, Walk t da p db → (∀ s, p.head? = some s → s.id ≠ last) → p.head? = some x → False) : ∀ p, Walk t da p db → (∀ s, p.head? = some s → s.id ≠ last) → ∀ s, p.head? = some s → ∀ j, j < k + 1 → t[j]? ≠ some s := fun p hp hh s hs j hj => by
  rcases Nat.lt_or_ge j k with hlt | hge
  · exact hN p hp hh s hs j hlt
  · rw [show j = k by omega, hx]
    intro e
    cases e
    exact h p hp hh hs
theorem walk_first {t : List Spec} {a b : Die} {x : Spec} {p : List Spec} (h : Walk t a p b) (hs : p.head? = some x) : EndS x a ∧ ∃ q, Walk t (otherS x a) q b ∧ (∀ s, q.head? = some s → s.id ≠ x.id) := by
  cases h with
  | nil => cases hs
  | cons h1 h2 h3 h4 =>
    cases hs
    exact ⟨h2, _, h3, h4⟩

set_option maxHeartbeats 4000000 in
set_option maxRecDepth 100000 in
theorem walk_ok (t : List Spec) (v : Value) (hlen : t.length ≤ 100) (db : Die) : ∀ (n : Nat) (da : Die) (last : Int) (w : World), Specs w v t → (∀ c p, Walk t da p c → (∀ s, p.head? = some s → s.id ≠ last) → p.length ≤ n) → n ≤ 100 →
    Calls Try.prog 40 #[v, vlD da, vlD db, .int .i64 last] w fun e w' => ∃ u ok, e = .returned (.tuple #[u, .bool ok]) ∧ Below w.heap.size w w' ∧ (ok = true → ∃ p, Walk t da p db ∧ (∀ s, p.head? = some s → s.id ≠ last) ∧ p.length ≤ n ∧ Ints w' u (p.map Spec.id)) ∧
      (ok = false → u = .slice none 0 0 ∧ ∀ p, Walk t da p db → ¬ ∀ s, p.head? = some s → s.id ≠ last) := by
  intro n
  induction n using Nat.strongRecOn with
  | ind n ih =>
    intro da last w h hB hn
    obtain ⟨X0, hX0, HzX0, hbX0, hltX0, hcX0⟩ := boxed w #[.int .i64 da.side, .int .i64 da.num] 40
    obtain ⟨X1, hX1, HzX1, hbX1, hltX1, hcX1⟩ := boxed X0 #[.int .i64 db.side, .int .i64 db.num] 40
    have hX := below_trans hbX0 hbX1
    have h0 := h.below hX
    have a0 := cell_later hbX1 (hcX0 0 _ rfl); have a1 := cell_later hbX1 (hcX0 1 _ rfl)
    have b0 := hcX1 0 _ rfl; have b1 := hcX1 1 _ rfl
    clear hcX0 hcX1
    obtain ⟨A, c, rfl, _, _, hc⟩ := h0.cells
    by_cases e0 : da = db
    · subst e0
      have q1 : ∀ w, (binOp .eql 40 (vlD da) (vlD da)).run Try.prog w = .ok (.bool true) w := fun w => by rw [eqlDie_]; simp [eqB]
      go_enter Try.func40, Try.ntmps40
      go_wp2_with fail
      refine bodyPost_ret (v := .tuple #[.slice none 0 0, .bool true]) (by simp [results, Try.results40, go_sem]) rfl ⟨_, _, rfl, hX, fun _ => ⟨[], .nil _, fun _ h => (by cases h), Nat.zero_le _, (own_nil _ _ 0 0 _).slOf⟩, fun h => (by cases h)⟩
    have q1 : ∀ w, (binOp .eql 40 (vlD da) (vlD db)).run Try.prog w = .ok (.bool false) w := fun w => by rw [eqlDie_]; simp [eqB, e0]
    go_enter Try.func40, Try.ntmps40
    go_wp2_with fail
    clear q1 hX0 hX1
    go_loopw [22] (fun i wr => ∃ k : Nat, k ≤ t.length ∧ i = .int .i64 k ∧ Below X1.heap.size X1 wr ∧ ∀ p, Walk t da p db → (∀ s, p.head? = some s → s.id ≠ last) → ∀ s, p.head? = some s → ∀ j, j < k → t[j]? ≠ some s) (fun i _ => t.length - (intOf i).toNat)
    case atStart => exact ⟨0, Nat.zero_le _, rfl, Below.refl _ _, fun _ _ _ _ _ j hj => absurd hj (by omega)⟩
    case round =>
      obtain ⟨k, hk, rfl, hb, hno⟩ := hrel
      have HN := Lib.hid hno; clear hno
      have a0' := cell_later hb a0; have a1' := cell_later hb a1; have b0' := cell_later hb b0; have b1' := cell_later hb b1
      by_cases hlt : k < t.length
      · obtain ⟨bo, o, rfl, hbb, hc⟩ := hc k hlt
        obtain ⟨x, hx⟩ := get_of_lt hlt
        obtain ⟨y0, y1, y2, y3, y4, y5, y6⟩ := hc wr hb k x hx
        obtain ⟨V1, V2, hV1, hV2, HzV2, hkV1, hkV2, hbV2, hltV2⟩ := fresh wr [.int .i64 0, .int .i64 0, .int .i64 0, .int .i64 0, .int .i64 0, .int .i64 0, .int .i64 0] [.int .i64 (x).id, .int .i64 (x).obv, .int .i64 (x).rev, .int .i64 (x).os, .int .i64 (x).rs, .int .i64 (x).ax, .int .i64 (x).wt] 30 rfl
        have hsV2 : ((((((V1.setCell ⟨wr.heap.size, 0, none⟩ (.int .i64 (x).id)).setCell ⟨wr.heap.size, 1, none⟩ (.int .i64 (x).obv)).setCell ⟨wr.heap.size, 2, none⟩ (.int .i64 (x).rev)).setCell ⟨wr.heap.size, 3, none⟩ (.int .i64 (x).os)).setCell ⟨wr.heap.size, 4, none⟩ (.int .i64 (x).rs)).setCell ⟨wr.heap.size, 5, none⟩ (.int .i64 (x).ax)).setCell ⟨wr.heap.size, 6, none⟩ (.int .i64 (x).wt) = V2 := hV2
        clear hV2
        obtain ⟨⟨z0, z1, z2, z3, z4, z5, z6⟩, f0, f1, f2, f3, f4, f5, f6⟩ := cellsS hkV1
        clear hkV1
        obtain ⟨⟨s0, s1, s2, s3, s4, s5, s6⟩, _⟩ := cellsS hkV2
        have hb2 := below_trans hb hbV2
        have Hx := Lib.hid hx
        have Ha := Lib.hid (⟨a0, a1, b0, b1⟩ : _ ∧ _ ∧ _ ∧ _)
        clear hx hc a0 a1 b0 b1 a0' a1' b0' b1'
        go_wp2_with fail
        refine (dies_ok x V2).mono ?_
        rintro e w4 ⟨rfl, hb4⟩
        have t0 := cell_later hb4 s0
        clear s0 s1 s2 s3 s4 s5 s6 z0 z1 z2 z3 z4 z5 z6 f0 f1 f2 f3 f4 f5 f6 y0 y1 y2 y3 y4 y5 y6
        obtain ⟨W1, W2, W3, hW1, hW2, hW3, HzW1, hltW1, hk1, hk2, hk3, hk4, hb5, hlt5⟩ := fresh2 w4 [.int .i64 0, .int .i64 0] [.int .i64 (dA x).side, .int .i64 (dA x).num] [.int .i64 0, .int .i64 0] [.int .i64 (dB x).side, .int .i64 (dB x).num] 40 rfl rfl
        have hs3 : (((W2.setCell ⟨w4.heap.size, 0, none⟩ (.int .i64 (dA x).side)).setCell ⟨w4.heap.size, 1, none⟩ (.int .i64 (dA x).num)).setCell ⟨W1.heap.size, 0, none⟩ (.int .i64 (dB x).side)).setCell ⟨W1.heap.size, 1, none⟩ (.int .i64 (dB x).num) = W3 := hW3
        obtain ⟨⟨c0, c1⟩, f0, f1⟩ := cells2 hk1
        obtain ⟨⟨d0, d1⟩, g0, g1⟩ := cells2 hk2
        obtain ⟨⟨r0, r1⟩, _⟩ := cells2 hk3
        obtain ⟨⟨m0, m1⟩, _⟩ := cells2 hk4
        have hb6 := below_trans hb2 (below_trans hb4 hb5)
        have a0 := cell_later hb6 Ha.out.1; have a1 := cell_later hb6 Ha.out.2.1; have b0 := cell_later hb6 Ha.out.2.2.1; have b1 := cell_later hb6 Ha.out.2.2.2
        have t0 := cell_later hb5 t0
        have Hk := Lib.hid (⟨hk3, hk4⟩ : _ ∧ _)
        clear hW3 hk1 hk2 hk3 hk4
        obtain ⟨iI, hiI, hzI, hkI, hbI⟩ := info_parts infoI
        by_cases eI : x.id = last
        · have d0 : (x.id == last) = true := by simpa using eI
          have HI := Lib.hid eI; clear eI
          clear a0 a1 b0 b1 r0 r1 m0 m1
          have hnx := Lib.hid (next_no HN.out Hx.out fun p hp hh hs => hh x hs HI.out)
          go_wp2_with fail
          refine ⟨?rel, ?measure⟩
          case rel => exact ⟨k + 1, by omega, by go_num, hb6, hnx.out⟩
          case measure => simp [intOf]; omega
        have d0 : (x.id == last) = false := by simpa using eI
        have Hne := Lib.hid eI; clear eI
        by_cases eA : dA x = da
        · have q1 : ∀ w, (binOp .neq 40 (vlD (dA x)) (vlD da)).run Try.prog w = .ok (.bool false) w := fun w => by rw [neqDie_]; simp [neB, eA]
          have q2 : ∀ w, (binOp .eql 40 (vlD (dA x)) (vlD da)).run Try.prog w = .ok (.bool true) w := fun w => by rw [eqlDie_]; simp [eqB, eA]
          have hot : otherS x da = dB x := by rw [otherS, if_pos eA]
          have hEnd := Lib.hid (show EndS x da from .inl eA)
          clear eA
          obtain ⟨N1, N2, hN1, hN2, HzN, hkN1, hkN2, hbN2, hltN2⟩ := fresh W3 [.int .i64 0, .int .i64 0] [.int .i64 (dA x).side, .int .i64 (dA x).num] 40 rfl
          have hsN2 : (N1.setCell ⟨W3.heap.size, 0, none⟩ (.int .i64 (dA x).side)).setCell ⟨W3.heap.size, 1, none⟩ (.int .i64 (dA x).num) = N2 := hN2
          clear hN2
          obtain ⟨⟨z0, z1⟩, f0, f1⟩ := cells2 hkN1
          obtain ⟨⟨n0, n1⟩, u0, u1⟩ := cells2 hkN2
          have r0 := cell_later hbN2 r0; have r1 := cell_later hbN2 r1; have m0 := cell_later hbN2 m0; have m1 := cell_later hbN2 m1
          have a0 := cell_later hbN2 a0; have a1 := cell_later hbN2 a1
          obtain ⟨N3, hN3⟩ : ∃ z, (N2.setCell ⟨W3.heap.size, 0, none⟩ (.int .i64 (dB x).side)).setCell ⟨W3.heap.size, 1, none⟩ (.int .i64 (dB x).num) = z := ⟨_, rfl⟩
          have hkN3 : N3.heap[W3.heap.size]? = some (.cells [.int .i64 (dB x).side, .int .i64 (dB x).num].toArray 40 (0, 0)) := by rw [← hN3]; exact heap_set2 hkN2
          have hg3 : N2.grownBy N3 (some W3.heap.size) := by rw [← hN3]; exact setCells_grown W3.heap.size [.int .i64 (dB x).side, .int .i64 (dB x).num] N2 0
          have hbN3 : Below W3.heap.size W3 N3 := hbN2.grown hg3 hbN2.size (fun j e => by cases e; exact Nat.le_refl _)
          obtain ⟨⟨n2, n3⟩, _⟩ := cells2 hkN3
          rw [← hot] at n2 n3
          clear hot hkN1 hkN2 hkN3 hg3
          have t0 := cell_later hbN3 t0
          have b0 := cell_later hbN3 b0; have b1 := cell_later hbN3 b1
          have hbN := below_trans hb6 hbN3
          have h1N := h0.below hbN
          have hn1 : 1 ≤ n := hB (otherS x da) [x] (.cons (List.mem_of_getElem? Hx.out) hEnd.out (.nil _) (fun s hs => by cases hs)) (fun s hs => by cases hs; exact Hid.out Hne)
          go_wp2_with fail
          refine (ih (n - 1) (by omega) (otherS x da) x.id _ h1N (fun c p hp hh => by
            have := hB c (x :: p) (.cons (List.mem_of_getElem? Hx.out) hEnd.out hp hh) (fun s hs => by cases hs; exact Hid.out Hne)
            simp only [List.length_cons] at this
            omega) (by omega)).mono ?_
          rintro e w7 ⟨u', ok', rfl, hb7, hyes, hnot⟩
          have t0 := cell_later hb7 t0
          have hb8 := below_trans hbN hb7
          clear b0 b1 a0 a1 r0 r1 m0 m1
          cases ok'
          · have HNO := Lib.hid (hnot rfl).2
            clear hyes hnot
            have hnx := Lib.hid (next_no HN.out Hx.out fun p hp hh hs => (by obtain ⟨_, q, h3, h4⟩ := walk_first hp hs; exact HNO.out q h3 h4))
            go_wp2_with fail
            refine ⟨?rel, ?measure⟩
            case rel => exact ⟨k + 1, by omega, by go_num, hb8, hnx.out⟩
            case measure => simp [intOf]; omega
          · obtain ⟨q, hq, hqh, hql, hqi⟩ := hyes rfl
            clear hyes hnot
            obtain ⟨Aq, cq, rfl, _, _, _⟩ := id hqi
            obtain ⟨W9, hW9, HzW9, hb9, hltW9, hcW9⟩ := boxed w7 #[.int .i64 x.id] 3
            clear hcW9
            have hk9 : W9.heap[w7.heap.size]? = some (.cells #[.int .i64 x.id] 3 (0, 0)) := by rw [← hW9]; exact heap_alloc_new _ _
            have hown0 : OwnI w7.heap.size W9 (.slice (some ⟨w7.heap.size, 0, none⟩) 1 1) [x.id] := own_one rfl hk9 (Nat.le_refl _)
            have hsl := SlOf.sl (hqi.below hb9)
            have hql' : q.length ≤ 100 := by omega
            have Hq := Lib.hid (⟨hq, hqh, hql⟩ : _ ∧ _ ∧ _)
            clear hk9 hqi hq hqh hql
            go_wp2_with (at_builtin; refine wpList_append_sl rfl (.tmp 62) (.tmp 63) 25 rfl iI _ 8 Try.underlying25 hiI hzI hkI hbI rfl (by decide) oneI rfl hown0 Aq cq _ (q.map Spec.id) rfl (by simp) hsl (by simp; omega) (by simp; omega) (by omega) ?_; intro v' w10 hown' hgrow _)
            have hb10 : Below w.heap.size w w10 := by
              have hbw := below_trans hX (below_trans hb8 hb9)
              exact hbw.grown hgrow hbw.size (fun j e => by have := (hown0.lt j e).1; have := hbw.size; have := hb9.size; have := (below_trans hX hb8).size; omega)
            refine bodyPost_ret (v := .tuple #[v', .bool true]) (by simp [results, Try.results40, go_sem]) rfl ⟨_, _, rfl, hb10, fun _ => ⟨x :: q, .cons (List.mem_of_getElem? Hx.out) hEnd.out Hq.out.1 Hq.out.2.1, fun s hs => by cases hs; exact Hid.out Hne, ?_, hown'.slOf⟩, fun h => (by cases h)⟩
            have := hB db (x :: q) (.cons (List.mem_of_getElem? Hx.out) hEnd.out Hq.out.1 Hq.out.2.1) (fun s hs => by cases hs; exact Hid.out Hne)
            exact this
        have q1 : ∀ w, (binOp .neq 40 (vlD (dA x)) (vlD da)).run Try.prog w = .ok (.bool true) w := fun w => by rw [neqDie_]; simp [neB, eA]
        have q2 : ∀ w, (binOp .eql 40 (vlD (dA x)) (vlD da)).run Try.prog w = .ok (.bool false) w := fun w => by rw [eqlDie_]; simp [eqB, eA]
        have hot : otherS x da = dA x := by rw [otherS, if_neg eA]
        by_cases eB : dB x = da
        · have q3 : ∀ w, (binOp .neq 40 (vlD (dB x)) (vlD da)).run Try.prog w = .ok (.bool false) w := fun w => by rw [neqDie_]; simp [neB, eB]
          have hEnd := Lib.hid (show EndS x da from .inr eB)
          clear eA eB
          obtain ⟨N1, N2, hN1, hN2, HzN, hkN1, hkN2, hbN2, hltN2⟩ := fresh W3 [.int .i64 0, .int .i64 0] [.int .i64 (dA x).side, .int .i64 (dA x).num] 40 rfl
          have hsN2 : (N1.setCell ⟨W3.heap.size, 0, none⟩ (.int .i64 (dA x).side)).setCell ⟨W3.heap.size, 1, none⟩ (.int .i64 (dA x).num) = N2 := hN2
          clear hN2
          obtain ⟨⟨z0, z1⟩, f0, f1⟩ := cells2 hkN1
          obtain ⟨⟨n2, n3⟩, _⟩ := cells2 hkN2
          have r0 := cell_later hbN2 r0; have r1 := cell_later hbN2 r1; have m0 := cell_later hbN2 m0; have m1 := cell_later hbN2 m1
          have a0 := cell_later hbN2 a0; have a1 := cell_later hbN2 a1
          rw [← hot] at n2 n3
          clear hot hkN1 hkN2
          have t0 := cell_later hbN2 t0
          have b0 := cell_later hbN2 b0; have b1 := cell_later hbN2 b1
          have hbN := below_trans hb6 hbN2
          have h1N := h0.below hbN
          have hn1 : 1 ≤ n := hB (otherS x da) [x] (.cons (List.mem_of_getElem? Hx.out) hEnd.out (.nil _) (fun s hs => by cases hs)) (fun s hs => by cases hs; exact Hid.out Hne)
          go_wp2_with fail
          refine (ih (n - 1) (by omega) (otherS x da) x.id _ h1N (fun c p hp hh => by
            have := hB c (x :: p) (.cons (List.mem_of_getElem? Hx.out) hEnd.out hp hh) (fun s hs => by cases hs; exact Hid.out Hne)
            simp only [List.length_cons] at this
            omega) (by omega)).mono ?_
          rintro e w7 ⟨u', ok', rfl, hb7, hyes, hnot⟩
          have t0 := cell_later hb7 t0
          have hb8 := below_trans hbN hb7
          clear b0 b1 a0 a1 r0 r1 m0 m1
          cases ok'
          · have HNO := Lib.hid (hnot rfl).2
            clear hyes hnot
            have hnx := Lib.hid (next_no HN.out Hx.out fun p hp hh hs => (by obtain ⟨_, q, h3, h4⟩ := walk_first hp hs; exact HNO.out q h3 h4))
            go_wp2_with fail
            refine ⟨?rel, ?measure⟩
            case rel => exact ⟨k + 1, by omega, by go_num, hb8, hnx.out⟩
            case measure => simp [intOf]; omega
          · obtain ⟨q, hq, hqh, hql, hqi⟩ := hyes rfl
            clear hyes hnot
            obtain ⟨Aq, cq, rfl, _, _, _⟩ := id hqi
            obtain ⟨W9, hW9, HzW9, hb9, hltW9, hcW9⟩ := boxed w7 #[.int .i64 x.id] 3
            clear hcW9
            have hk9 : W9.heap[w7.heap.size]? = some (.cells #[.int .i64 x.id] 3 (0, 0)) := by rw [← hW9]; exact heap_alloc_new _ _
            have hown0 : OwnI w7.heap.size W9 (.slice (some ⟨w7.heap.size, 0, none⟩) 1 1) [x.id] := own_one rfl hk9 (Nat.le_refl _)
            have hsl := SlOf.sl (hqi.below hb9)
            have hql' : q.length ≤ 100 := by omega
            have Hq := Lib.hid (⟨hq, hqh, hql⟩ : _ ∧ _ ∧ _)
            clear hk9 hqi hq hqh hql
            go_wp2_with (at_builtin; refine wpList_append_sl rfl (.tmp 62) (.tmp 63) 25 rfl iI _ 8 Try.underlying25 hiI hzI hkI hbI rfl (by decide) oneI rfl hown0 Aq cq _ (q.map Spec.id) rfl (by simp) hsl (by simp; omega) (by simp; omega) (by omega) ?_; intro v' w10 hown' hgrow _)
            have hb10 : Below w.heap.size w w10 := by
              have hbw := below_trans hX (below_trans hb8 hb9)
              exact hbw.grown hgrow hbw.size (fun j e => by have := (hown0.lt j e).1; have := hbw.size; have := hb9.size; have := (below_trans hX hb8).size; omega)
            refine bodyPost_ret (v := .tuple #[v', .bool true]) (by simp [results, Try.results40, go_sem]) rfl ⟨_, _, rfl, hb10, fun _ => ⟨x :: q, .cons (List.mem_of_getElem? Hx.out) hEnd.out Hq.out.1 Hq.out.2.1, fun s hs => by cases hs; exact Hid.out Hne, ?_, hown'.slOf⟩, fun h => (by cases h)⟩
            have := hB db (x :: q) (.cons (List.mem_of_getElem? Hx.out) hEnd.out Hq.out.1 Hq.out.2.1) (fun s hs => by cases hs; exact Hid.out Hne)
            exact this
        · have q3 : ∀ w, (binOp .neq 40 (vlD (dB x)) (vlD da)).run Try.prog w = .ok (.bool true) w := fun w => by rw [neqDie_]; simp [neB, eB]
          have HAB := Lib.hid (⟨eA, eB⟩ : _ ∧ _)
          clear hot eA eB
          have hnx := Lib.hid (next_no HN.out Hx.out fun p hp hh hs => ((walk_first hp hs).1.elim HAB.out.1 HAB.out.2))
          go_wp2_with fail
          refine ⟨?rel, ?measure⟩
          case rel => exact ⟨k + 1, by omega, by go_num, hb6, hnx.out⟩
          case measure => simp [intOf]; omega
      · have e1 : k = t.length := by omega
        subst e1
        clear a0 a1 b0 b1 a0' a1' b0' b1' hc
        go_wp2_with fail
        refine bodyPost_ret (v := .tuple #[.slice none 0 0, .bool false]) (by simp [results, Try.results40, go_sem]) rfl ⟨_, _, rfl, below_trans hX hb, fun h => (by cases h), fun _ => ⟨rfl, fun p hp hh => ?_⟩⟩
        cases hp with
        | nil => exact e0 rfl
        | @cons _ _ s q h1 h2 h3 h4 =>
          obtain ⟨j, hj, hjs⟩ := List.getElem_of_mem h1
          exact HN.out (s :: q) (.cons h1 h2 h3 h4) hh s rfl j hj (by rw [List.getElem?_eq_getElem hj, hjs])
end Go.Proofs.Ytcpobcfncmcakaa
