/- The reference of layer 52: Class, least. Condition: the arguments read as lists. -/
import Derived.Test.YthnckicnnhkkaaaGreatRLdA
import Derived.Test.YthnckicnnhkkaaaGreatCorP
import Derived.Test.YthnckicnnhkkaaaGreatCorK
import Derived.Test.YthnckicnnhkkaaaGreatRegF
import Derived.Deep.DeepCutAuto
namespace Go.Proofs.YthnckicnnhkkaaaGreat
open Go.RowKit Go.Maps Go.Shelf

/-! ### Plain: a class, round by round -/
def endsE (E : List (Int × Int)) : List Int := E.flatMap fun e => [e.1, e.2]
structure Cls (E : List (Int × Int)) (n : Int) (out : List Int) : Prop where
  nd : out.Nodup
  start : n ∈ out
  same : ∀ y ∈ out, nameF E y = nameF E n
  sub : ∀ y ∈ out, y = n ∨ y ∈ endsE E
/-- What was looked at: all numbers ahead of place i with all decisions, the number at place i with the decisions K. -/
structure Dn (L K : List Dec) (ki : Int) (out : List Int) (i : Nat) : Prop where
  past : ∀ j y, j < i → out[j]? = some y → ∀ d ∈ L, d.ki = ki → (d.a = y → d.b ∈ out) ∧ (d.b = y → d.a ∈ out)
  now : ∀ y, out[i]? = some y → ∀ d ∈ K, d.ki = ki → (d.a = y → d.b ∈ out) ∧ (d.b = y → d.a ∈ out)
/-- One more number. -/
def addI (out : List Int) (c : Bool) (x : Int) : List Int := if c = true ∧ x ∉ out then out ++ [x] else out
section
variable {E : List (Int × Int)} {n : Int} {out : List Int} {L K : List Dec} {ki : Int} {i : Nat} {d : Dec} {c : Bool} {x y : Int}
theorem addI_mem (z : Int) (h : z ∈ out) : z ∈ addI out c x := by unfold addI; split <;> simp [h]
theorem addI_has (h : c = true) : x ∈ addI out c x := by
  unfold addI
  split
  · simp
  · rename_i hn
    exact Classical.not_not.1 fun hx => hn ⟨h, hx⟩
theorem addI_at {j : Nat} (h : j < out.length) : (addI out c x)[j]? = out[j]? := by
  unfold addI
  split
  · exact List.getElem?_append_left h
  · rfl
theorem addI_len : out.length ≤ (addI out c x).length := by unfold addI; split <;> simp
theorem endsE_mem {e : Int × Int} (h : e ∈ E) : e.1 ∈ endsE E ∧ e.2 ∈ endsE E := ⟨List.mem_flatMap.2 ⟨e, h, by simp⟩, List.mem_flatMap.2 ⟨e, h, by simp⟩⟩
theorem endsE_len (E : List (Int × Int)) : (endsE E).length = 2 * E.length := by
  unfold endsE
  induction E with
  | nil => rfl
  | cons e E ih => rw [List.flatMap_cons, List.length_append, ih]; simp; omega
theorem nodupI_len : ∀ {xs ys : List Int}, xs.Nodup → (∀ z ∈ xs, z ∈ ys) → xs.length ≤ ys.length
  | [], _, _, _ => Nat.zero_le _
  | x :: xs, ys, hn, hs => by
    obtain ⟨h1, h2⟩ := List.nodup_cons.1 hn
    have hx := hs x (by simp)
    have h3 : ∀ z ∈ xs, z ∈ ys.erase x := fun z hz => (List.mem_erase_of_ne (fun e => h1 (by rw [← e]; exact hz))).2 (hs z (List.mem_cons_of_mem _ hz))
    have h4 := nodupI_len h2 h3
    rw [List.length_erase_of_mem hx] at h4
    have := List.length_pos_of_mem hx
    simp only [List.length_cons]
    omega
theorem Cls.len (h : Cls E n out) : out.length ≤ 2 * E.length + 1 := by
  have := nodupI_len (ys := n :: endsE E) h.nd fun z hz => by rcases h.sub z hz with e | e <;> simp [e]
  simp only [List.length_cons, endsE_len] at this
  exact this
theorem Cls.add (h : Cls E n out) (hx : c = true → nameF E x = nameF E n ∧ x ∈ endsE E) : Cls E n (addI out c x) := by
  unfold addI
  split
  · rename_i hc
    obtain ⟨h1, h2⟩ := hx hc.1
    refine ⟨?_, by simp [h.start], fun y hy => ?_, fun y hy => ?_⟩
    · rw [List.nodup_append]
      refine ⟨h.nd, by simp, fun a ha b hb e => ?_⟩
      simp at hb
      subst hb; subst e
      exact hc.2 ha
    · rcases List.mem_append.1 hy with hy | hy
      · exact h.same y hy
      · simp at hy; rw [hy]; exact h1
    · rcases List.mem_append.1 hy with hy | hy
      · exact h.sub y hy
      · simp at hy; rw [hy]; exact .inr h2
  · exact h
theorem Cls.one (E : List (Int × Int)) (n : Int) : Cls E n [n] := ⟨by simp, by simp, by simp, by simp⟩
theorem Dn.add (h : Dn L K ki out i) (hi : i < out.length) : Dn L K ki (addI out c x) i := by
  refine ⟨fun j y hj hy d hd hk => ?_, fun y hy d hd hk => ?_⟩
  · rw [addI_at (by omega)] at hy
    obtain ⟨h1, h2⟩ := h.past j y hj hy d hd hk
    exact ⟨fun e => addI_mem _ (h1 e), fun e => addI_mem _ (h2 e)⟩
  · rw [addI_at hi] at hy
    obtain ⟨h1, h2⟩ := h.now y hy d hd hk
    exact ⟨fun e => addI_mem _ (h1 e), fun e => addI_mem _ (h2 e)⟩
theorem Dn.snoc (h : Dn L K ki out i) (hy : out[i]? = some y) (hd : d.ki = ki → (d.a = y → d.b ∈ out) ∧ (d.b = y → d.a ∈ out)) : Dn L (K ++ [d]) ki out i := by
  refine ⟨h.past, fun z hz e he hk => ?_⟩
  rw [hy] at hz
  cases hz
  rcases List.mem_append.1 he with he | he
  · exact h.now y hy e he hk
  · simp at he
    subst he
    exact hd hk
theorem Dn.next (h : Dn L L ki out i) : Dn L [] ki out (i + 1) := by
  refine ⟨fun j y hj hy d hd hk => ?_, fun y _ d hd => by simp at hd⟩
  rcases Nat.lt_or_ge j i with hji | hji
  · exact h.past j y hji hy d hd hk
  · have : j = i := by omega
    subst this
    exact h.now y hy d hd hk
theorem Dn.start (L : List Dec) (ki : Int) (out : List Int) : Dn L [] ki out 0 := ⟨fun j y hj => by omega, fun y _ d hd => by simp at hd⟩
theorem class_end (h : Cls (edgK L ki) n out) (hd : Dn L K ki out i) (hi : out.length ≤ i) : ClassOf (edgK L ki) n out := by
  refine classOf_of h.start h.same fun e he => ?_
  obtain ⟨d, h1, h2, rfl⟩ := edgK_mem.1 he
  constructor
  · intro hm
    obtain ⟨j, hj⟩ := List.getElem?_of_mem hm
    exact (hd.past j _ (by have := lt_of_get hj; omega) hj d h1 h2).1 rfl
  · intro hm
    obtain ⟨j, hj⟩ := List.getElem?_of_mem hm
    exact (hd.past j _ (by have := lt_of_get hj; omega) hj d h1 h2).2 rfl
/-- One decision at one number. -/
def clsS (out : List Int) (d : Dec) (y : Int) : List Int := addI (addI out (d.a == y) d.b) (d.b == y) d.a
theorem Cls.step (h : Cls (edgK L ki) n out) (hd : d ∈ L) (hk : d.ki = ki) (hy : y ∈ out) : Cls (edgK L ki) n (clsS out d y) := by
  have he : (d.a, d.b) ∈ edgK L ki := edgK_mem.2 ⟨d, hd, hk, rfl⟩
  have hn := nameF_edge he
  simp only at hn
  obtain ⟨m1, m2⟩ := endsE_mem he
  have hyn := h.same y hy
  refine (h.add fun hc => ?_).add fun hc => ?_
  · have : d.a = y := by simpa using hc
    exact ⟨by rw [← hn, this, hyn], m2⟩
  · have : d.b = y := by simpa using hc
    exact ⟨by rw [hn, this, hyn], m1⟩
theorem Dn.step (h : Dn L K ki out i) (hy : out[i]? = some y) : Dn L (K ++ [d]) ki (clsS out d y) i := by
  have hi := lt_of_get hy
  have hi2 : i < (addI out (d.a == y) d.b).length := Nat.lt_of_lt_of_le hi addI_len
  have hy2 : (clsS out d y)[i]? = some y := by unfold clsS; rw [addI_at hi2, addI_at hi, hy]
  exact ((h.add hi).add hi2).snoc hy2 fun _ => ⟨fun e => addI_mem _ (addI_has (by simp [e])), fun e => addI_has (by simp [e])⟩
theorem clsS_at (hy : out[i]? = some y) : (clsS out d y)[i]? = some y := by
  have hi := lt_of_get hy
  have hi2 : i < (addI out (d.a == y) d.b).length := Nat.lt_of_lt_of_le hi addI_len
  unfold clsS; rw [addI_at hi2, addI_at hi, hy]
theorem edgK_len (L : List Dec) (ki : Int) : (edgK L ki).length ≤ L.length := by
  unfold edgK; rw [List.length_map]; exact List.length_filter_le _ _
end
/-- What the first part of a step gives. -/
theorem addI_no {out : List Int} {c : Bool} {x : Int} (h : c = false ∨ x ∈ out) : addI out c x = out := by
  unfold addI
  rw [if_neg fun hc => h.elim (fun h => by rw [hc.1] at h; cases h) (fun h => hc.2 h)]
theorem addI_yes {out : List Int} {c : Bool} {x : Int} (h : c = true) (hx : x ∉ out) : addI out c x = out ++ [x] := if_pos ⟨h, hx⟩

set_option maxHeartbeats 4000000 in
set_option maxRecDepth 100000 in
theorem least_ok (v : Value) (xs : List Int) (w : World) (h : Ints w v xs) (hn : xs ≠ []) (hl : xs.length ≤ 1000) :
    Calls Tryz.prog 108 #[v] w fun e w' => ∃ m, e = .returned (.int .i64 m) ∧ m ∈ xs ∧ (∀ y ∈ xs, m ≤ y) ∧ Below w.heap.size w w' := by
  obtain ⟨A, c, rfl, hlc, hcm, hcl⟩ := h.cells
  have hpos : 0 < xs.length := List.length_pos_iff.2 hn
  obtain ⟨b, o, rfl, _, hc⟩ := hcl 0 hpos
  have Hc := Lib.hid hc
  obtain ⟨x0, hx0⟩ := get_of_lt hpos
  have c0 := hc w (Below.refl _ _) 0 x0 hx0
  have Hx0 := Lib.hid hx0
  have hl0 : (0 : Int) < (xs.length : Int) := by omega
  simp only [Nat.add_zero] at c0
  clear h hcl hc hn hx0
  go_enter Tryz.func108, Tryz.ntmps108
  go_wp2
  go_loopw [3, 4] (fun t3 t4 wr => ∃ (k : Nat) (m : Int), k ≤ xs.length ∧ t3 = .int .i64 m ∧ t4 = .int .i64 k ∧ Hid (m ∈ xs) ∧ Hid (∀ y ∈ xs.take k, m ≤ y) ∧ Below w.heap.size w wr) (fun _ t _ => xs.length - (intOf t).toNat)
  case atStart => exact ⟨0, x0, Nat.zero_le _, rfl, rfl, List.mem_of_getElem? Hx0.out, (fun y hy => by simp at hy), Below.refl _ _⟩
  case round =>
    obtain ⟨k, m, hk, rfl, rfl, Hm, Hy, hb⟩ := hrel
    by_cases hlt : k < xs.length
    · obtain ⟨x, hx⟩ := get_of_lt hlt
      have c1 := Hc.out wr hb k x hx
      have hl1 : (k : Int) < (xs.length : Int) := by omega
      have HM2 : Hid (min m x ∈ xs) := by
        rcases Int.le_total m x with h | h
        · rw [Int.min_eq_left h]; exact Hm.out
        · rw [Int.min_eq_right h]; exact List.mem_of_getElem? hx
      have HY2 : Hid (∀ y ∈ xs.take (k + 1), min m x ≤ y) := by
        intro y hy
        rw [take_snoc' hx] at hy
        rcases List.mem_append.1 hy with hy | hy
        · have := Hy.out y hy; omega
        · simp at hy; omega
      clear hx
      go_wp2
      refine ⟨?rel, ?measure⟩
      case rel => exact ⟨k + 1, min m x, by omega, rfl, by go_num, HM2, HY2, hb⟩
      case measure => simp [intOf]; omega
    · have HF : Hid (∀ y ∈ xs, m ≤ y) := by have := Hy.out; rw [List.take_of_length_le (by omega)] at this; exact this
      go_wp2
      go_ret
      exact ⟨m, rfl, Hm.out, HF.out, hb⟩
theorem least_name {E : List (Int × Int)} {n m : Int} {out : List Int} (h : ClassOf E n out) (hm : m ∈ out) (hl : ∀ y ∈ out, m ≤ y) : m = nameF E n := by
  have h1 := (h.mem m).1 hm
  have h2 := hl (nameF E n) ((h.mem _).2 (nameF_idem E n))
  have h3 := nameF_le E m
  omega
end Go.Proofs.YthnckicnnhkkaaaGreat
/- The reference of layer 52: Class. Condition: the argument reads as a list. -/
namespace Go.Proofs.YthnckicnnhkkaaaGreat
open Go.RowKit Go.Maps Go.Shelf

set_option maxHeartbeats 16000000 in
set_option maxRecDepth 100000 in
theorem Class_ok (v : Value) (L : List Dec) (ki n : Int) (w : World) (h : Decs w v L) (hL : L.length ≤ 200) :
    Calls Tryz.prog 36 #[v, .int .i64 ki, .int .i64 n] w fun e w' => ∃ u out, e = .returned u ∧ OwnI w.heap.size w' u out ∧ ClassOf (edgK L ki) n out ∧ out ≠ [] ∧ out.length ≤ 1000 ∧ Below w.heap.size w w' := by
  obtain ⟨A, cd, rfl, hld, hcd, hcl⟩ := h.cells
  have HD := Lib.hid hcl
  have hE : 2 * (edgK L ki).length + 1 ≤ 401 := by have := edgK_len L ki; omega
  obtain ⟨iI, hiI, hzI, hkI, hbI⟩ := info_parts infoI
  obtain ⟨W, hW⟩ : ∃ z, w.alloc (.cells #[.int .i64 n] 3) = z := ⟨_, rfl⟩
  have hbW : Below w.heap.size w W := by rw [← hW]; exact (Below.refl _ _).alloc (Nat.le_refl _) _
  have hkW : W.heap[w.heap.size]? = some (.cells (encI n).toArray 3 (0, 0)) := by rw [← hW]; exact heap_alloc_new _ _
  have HOW := Lib.hid (own_unit (B := w.heap.size) lenI hkW (Nat.le_refl _))
  clear h hcl hkW
  go_enter Tryz.func36, Tryz.ntmps36
  go_wp2
  go_loopw [7, 8] (fun t7 t8 wr => ∃ (i : Nat) (v : Value) (out : List Int), i ≤ out.length ∧ t7 = v ∧ t8 = .int .i64 i ∧ OwnI w.heap.size wr v out ∧ Hid (Cls (edgK L ki) n out) ∧ Hid (Dn L [] ki out i) ∧ out.length ≤ 401 ∧ Below w.heap.size w wr) (fun _ t _ => 402 - (intOf t).toNat)
  case atStart => exact ⟨0, _, [n], Nat.zero_le _, rfl, rfl, HOW.out, Cls.one _ _, Dn.start _ _ _, by simp, hbW⟩
  case round =>
    obtain ⟨i, v, out, hi, rfl, rfl, hown, HC, HN, hol, hb⟩ := hrel
    obtain ⟨A8, c8, e8, _⟩ := id hown.slOf
    subst e8
    by_cases hlt : i < out.length
    · obtain ⟨y, hy⟩ := get_of_lt hlt
      have hl1 : (i : Int) < (out.length : Int) := by omega
      have HO := Lib.hid hown; have Hy := Lib.hid hy
      have hb0 := hb
      clear hown hy HOW
      generalize hwo : wr = wo at *
      clear hwo wr
      go_wp2
      go_loopw [7, 9] (fun t7 t9 wr => ∃ (k : Nat) (v : Value) (out : List Int), k ≤ L.length ∧ t7 = v ∧ t9 = .int .i64 k ∧ OwnI w.heap.size wr v out ∧ Hid (Cls (edgK L ki) n out) ∧ Hid (Dn L (L.take k) ki out i) ∧ Hid (out[i]? = some y) ∧ out.length ≤ 401 ∧ Below w.heap.size w wr) (fun _ t _ => L.length - (intOf t).toNat)
      case atStart => exact ⟨0, _, out, Nat.zero_le _, rfl, rfl, HO.out, HC, HN, Hy.out, hol, hb0⟩
      case round =>
        clear HO Hy hol HC HN hl1 hlt hi hb
        obtain ⟨k, v, out, hk, rfl, rfl, hown, HC, HN, Hy, hol, hb⟩ := hrel
        obtain ⟨A9, c9, e9, _⟩ := id hown.slOf
        subst e9
        have hilt : i < out.length := lt_of_get Hy.out
        by_cases hlk : k < L.length
        · obtain ⟨d, hd⟩ := get_of_lt hlk
          obtain ⟨db, dof, rfl, _, hcc⟩ := HD.out _ (lt_of_get hd)
          have Hcc := Lib.hid fun (w9 : World) (hb9 : Below w.heap.size w w9) => hcc w9 hb9 k d hd
          obtain ⟨y0, y1, y2, y3, y4⟩ := hcc wr hb k d hd
          have hl2 : (k : Int) < (L.length : Int) := by omega
          have hl3 : (i : Int) < (out.length : Int) := by omega
          have HTk := Lib.hid (take_snoc' hd)
          have HdL := Lib.hid (List.mem_of_getElem? hd)
          have HO := Lib.hid hown
          clear hcc hd hown
          by_cases hki : d.ki = ki
          case neg =>
            have t1 : (d.ki != ki) = true := by simp [hki]
            have t1' : decide (d.ki = ki) = false := by simp [hki]
            have HN2 : Hid (Dn L (L.take (k + 1)) ki out i) := by
              show Dn _ _ _ _ _
              rw [HTk.out]
              exact HN.out.snoc Hy.out fun h => absurd h hki
            clear hki
            go_wp2
            refine ⟨?rel, ?measure⟩
            case rel => exact ⟨k + 1, _, out, by omega, rfl, by go_num, HO.out, HC, HN2, Hy, hol, hb⟩
            case measure => simp [intOf]; omega
          have t1 : (d.ki != ki) = false := by simp [hki]
          have t1' : decide (d.ki = ki) = true := by simp [hki]
          have HKi := Lib.hid hki
          have HL0 := Lib.hid hol
          obtain ⟨bo, oo, eo, _, hco⟩ := (show Ints wr (.slice A9 out.length c9) out from HO.out.slOf).at (k := i) (by omega)
          cases eo
          have u0 := hco y Hy.out
          have H1 := Lib.hid fun (z : Later wr) => (show Calls Tryz.prog 35 #[.slice (some ⟨bo, oo, none⟩) out.length c9, .int .i64 d.b] z.to fun e w' => e = .returned (.bool (hasB out d.b)) ∧ Below z.to.heap.size z.to w' from (Has_ok _ out d.b z.to ((HO.out.later z).slOf)).mono fun e w' h => ⟨h.1, by rw [← h.2]; exact Below.refl _ _⟩)
          have Y0 := Later.cell_all y0; have Y1 := Later.cell_all y1; have Y2 := Later.cell_all y2; have Y3 := Later.cell_all y3; have Y4 := Later.cell_all y4
          have UU := Later.cell_all u0
          clear hco hki
          by_cases hA2 : d.a = y
          case neg =>
            have t2 : (d.a == y) = false := by simp [hA2]
            have t2' : decide (d.a = y) = false := by simp [hA2]
            have E1 : Hid (addI out (d.a == y) d.b = out) := addI_no (.inl t2)
            clear hA2
            go_wp2
            refine wp_region_later (by kernel_rfl) (by kernel_rfl) ?_
            repeat (go_big_quiet_step (first | fail))
            refine wpQuiet_nil ?_
            intro _ hw'
            obtain ⟨xq, hw''⟩ := hw'
            subst hw''
            have hbc := xq.h
            generalize xq.to = wc at hbc ⊢
            clear Y0 Y1 Y2 Y3 Y4 UU H1 y0 y1 y2 y3 y4
            replace u0 := cell_later hbc u0
            have hwc := below_trans hb hbc
            have HOc := Lib.hid (HO.out.below hbc)
            obtain ⟨y0', y1', y2', y3', y4'⟩ := Hcc.out (wc) (hwc)
            have H2 := Lib.hid fun (z : Later (wc)) => (show Calls Tryz.prog 35 #[.slice (some ⟨bo, oo, none⟩) (out).length (c9), .int .i64 d.a] z.to fun e w' => e = .returned (.bool (hasB (out) d.a)) ∧ Below z.to.heap.size z.to w' from (Has_ok _ (out) d.a z.to (((HOc).out.later z).slOf)).mono fun e w' h => ⟨h.1, by rw [← h.2]; exact Below.refl _ _⟩)
            have Y0' := Later.cell_all y0'; have Y1' := Later.cell_all y1'; have Y2' := Later.cell_all y2'; have Y3' := Later.cell_all y3'; have Y4' := Later.cell_all y4'
            have U0 := Later.cell_all u0
            have hi4 : (i : Int) < (((out).length : Nat) : Int) := by have := hilt; omega
            clear y0' y1' y2' y3' y4' u0
            by_cases hB2 : d.b = y
            case neg =>
              have t3 : (d.b == y) = false := by simp [hB2]
              have t3' : decide (d.b = y) = false := by simp [hB2]
              have E2 : Hid (addI (out) (d.b == y) d.a = (out)) := addI_no (.inl t3)
              clear hB2
              have HE : Hid (clsS out d y = (out)) := by
                show _ = _
                unfold clsS
                rw [E1.out, E2.out]
              have HC2 : Hid (Cls (edgK L ki) n ((out))) := by show Cls _ _ _; rw [← HE.out]; exact HC.out.step HdL.out HKi.out (List.mem_of_getElem? Hy.out)
              have HN2 : Hid (Dn L (L.take (k + 1)) ki ((out)) i) := by show Dn _ _ _ _ _; rw [← HE.out, HTk.out]; exact HN.out.step Hy.out
              have HY2 : Hid (((out))[i]? = some y) := by show _ = _; rw [← HE.out]; exact clsS_at Hy.out
              have HL2 := Lib.hid (show ((out)).length ≤ 401 by have := HC2.out.len; omega)
              go_wp2
              refine wp_region_later (by kernel_rfl) (by kernel_rfl) ?_
              repeat (go_big_quiet_step (first | fail))
              refine wpQuiet_nil ?_
              intro _ hw'
              obtain ⟨xq, hw''⟩ := hw'
              subst hw''
              have hbd := xq.h
              generalize xq.to = wd at hbd ⊢
              clear Y0' Y1' Y2' Y3' Y4' U0 H2
              go_wp2
              refine ⟨?rel, ?measure⟩
              case rel => exact ⟨k + 1, _, (out), by omega, rfl, by go_num, (HOc).out.below hbd, HC2, HN2, HY2, HL2.out, below_trans (hwc) hbd⟩
              case measure => simp [intOf]; omega
            have t3 : (d.b == y) = true := by simp [hB2]
            have t3' : decide (d.b = y) = true := by simp [hB2]
            by_cases hM2 : d.a ∈ (out)
            · have t4 : hasB (out) d.a = true := (hasB_iff _ _).2 hM2
              have E2 : Hid (addI (out) (d.b == y) d.a = (out)) := addI_no (.inr hM2)
              clear hB2 hM2
              have HE : Hid (clsS out d y = (out)) := by
                show _ = _
                unfold clsS
                rw [E1.out, E2.out]
              have HC2 : Hid (Cls (edgK L ki) n ((out))) := by show Cls _ _ _; rw [← HE.out]; exact HC.out.step HdL.out HKi.out (List.mem_of_getElem? Hy.out)
              have HN2 : Hid (Dn L (L.take (k + 1)) ki ((out)) i) := by show Dn _ _ _ _ _; rw [← HE.out, HTk.out]; exact HN.out.step Hy.out
              have HY2 : Hid (((out))[i]? = some y) := by show _ = _; rw [← HE.out]; exact clsS_at Hy.out
              have HL2 := Lib.hid (show ((out)).length ≤ 401 by have := HC2.out.len; omega)
              go_wp2
              refine wp_region_later (by kernel_rfl) (by kernel_rfl) ?_
              repeat (go_big_quiet_step (first | (go_at_call 35; with_reducible exact calls_later (H2.out _))))
              refine wpQuiet_nil ?_
              intro _ hw'
              obtain ⟨xq, hw''⟩ := hw'
              subst hw''
              have hbd := xq.h
              generalize xq.to = wd at hbd ⊢
              clear Y0' Y1' Y2' Y3' Y4' U0 H2
              go_wp2
              refine ⟨?rel, ?measure⟩
              case rel => exact ⟨k + 1, _, (out), by omega, rfl, by go_num, (HOc).out.below hbd, HC2, HN2, HY2, HL2.out, below_trans (hwc) hbd⟩
              case measure => simp [intOf]; omega
            · have t4 : hasB (out) d.a = false := by rw [Bool.eq_false_iff]; exact fun h => hM2 ((hasB_iff _ _).1 h)
              have E2 : Hid (addI (out) (d.b == y) d.a = (out) ++ [d.a]) := addI_yes t3 hM2
              clear hB2 hM2
              have HE : Hid (clsS out d y = ((out) ++ [d.a])) := by
                show _ = _
                unfold clsS
                rw [E1.out, E2.out]
              have HC2 : Hid (Cls (edgK L ki) n (((out) ++ [d.a]))) := by show Cls _ _ _; rw [← HE.out]; exact HC.out.step HdL.out HKi.out (List.mem_of_getElem? Hy.out)
              have HN2 : Hid (Dn L (L.take (k + 1)) ki (((out) ++ [d.a])) i) := by show Dn _ _ _ _ _; rw [← HE.out, HTk.out]; exact HN.out.step Hy.out
              have HY2 : Hid ((((out) ++ [d.a]))[i]? = some y) := by show _ = _; rw [← HE.out]; exact clsS_at Hy.out
              have HL2 := Lib.hid (show (((out) ++ [d.a])).length ≤ 401 by have := HC2.out.len; omega)
              go_wp2
              refine wp_region_later (by kernel_rfl) (by kernel_rfl) ?_
              repeat (go_big_quiet_step (first | (go_at_call 35; with_reducible exact calls_later (H2.out _))))
              refine wpQuiet_nil ?_
              intro _ hw'
              obtain ⟨xq, hw''⟩ := hw'
              subst hw''
              have hbd := xq.h
              generalize xq.to = wd at hbd ⊢
              clear Y0' Y1' Y2' Y3' Y4' U0 H2
              have hwd := below_trans (hwc) hbd
              obtain ⟨y0', y1', y2', y3', y4'⟩ := Hcc.out wd hwd
              have Ho3 := Lib.hid ((HOc).out.below hbd)
              have hzd : w.heap.size ≤ wd.heap.size := hwd.size
              have hlen3 := HL2.out
              simp only [List.length_append, List.length_singleton] at hlen3
              go_wp2_with (at_builtin; refine wpList_append1 (enc := encI) (size := 1) (B := w.heap.size) rfl (.tmp 79) (.tmp 85) _ rfl 3 iI _ 8 Tryz.underlying68 hiI hzI hkI hbI rfl (by decide) rfl Ho3.out (d.a : Int) _ rfl lenI oneI _ rfl rfl (by omega) (by omega) hzd ?_; intro v' wq hown' hgrow hat)
              obtain ⟨Av, cv9, rfl, _⟩ := id hown'.slOf
              have HOq := Lib.hid hown'; have HGq := Lib.hid hgrow
              clear hown' hgrow hat
              go_wp2
              refine ⟨?rel, ?measure⟩
              case rel => exact ⟨k + 1, _, (out) ++ [d.a], by omega, by first | rfl | simp, by go_num, HOq.out, HC2, HN2, HY2, HL2.out, hwd.grown HGq.out hzd (fun j e => (Ho3.out.lt j e).1)⟩
              case measure => simp [intOf]; omega
          have t2 : (d.a == y) = true := by simp [hA2]
          have t2' : decide (d.a = y) = true := by simp [hA2]
          by_cases hM1 : d.b ∈ out
          · have t5 : hasB out d.b = true := (hasB_iff _ _).2 hM1
            have E1 : Hid (addI out (d.a == y) d.b = out) := addI_no (.inr hM1)
            clear hA2 hM1
            go_wp2
            refine wp_region_later (by kernel_rfl) (by kernel_rfl) ?_
            repeat (go_big_quiet_step (first | (go_at_call 35; with_reducible exact calls_later (H1.out _))))
            refine wpQuiet_nil ?_
            intro _ hw'
            obtain ⟨xq, hw''⟩ := hw'
            subst hw''
            have hbc := xq.h
            generalize xq.to = wc at hbc ⊢
            clear Y0 Y1 Y2 Y3 Y4 UU H1 y0 y1 y2 y3 y4
            replace u0 := cell_later hbc u0
            have hwc := below_trans hb hbc
            have HOc := Lib.hid (HO.out.below hbc)
            obtain ⟨y0', y1', y2', y3', y4'⟩ := Hcc.out (wc) (hwc)
            have H2 := Lib.hid fun (z : Later (wc)) => (show Calls Tryz.prog 35 #[.slice (some ⟨bo, oo, none⟩) (out).length (c9), .int .i64 d.a] z.to fun e w' => e = .returned (.bool (hasB (out) d.a)) ∧ Below z.to.heap.size z.to w' from (Has_ok _ (out) d.a z.to (((HOc).out.later z).slOf)).mono fun e w' h => ⟨h.1, by rw [← h.2]; exact Below.refl _ _⟩)
            have Y0' := Later.cell_all y0'; have Y1' := Later.cell_all y1'; have Y2' := Later.cell_all y2'; have Y3' := Later.cell_all y3'; have Y4' := Later.cell_all y4'
            have U0 := Later.cell_all u0
            have hi4 : (i : Int) < (((out).length : Nat) : Int) := by have := hilt; omega
            clear y0' y1' y2' y3' y4' u0
            by_cases hB2 : d.b = y
            case neg =>
              have t3 : (d.b == y) = false := by simp [hB2]
              have t3' : decide (d.b = y) = false := by simp [hB2]
              have E2 : Hid (addI (out) (d.b == y) d.a = (out)) := addI_no (.inl t3)
              clear hB2
              have HE : Hid (clsS out d y = (out)) := by
                show _ = _
                unfold clsS
                rw [E1.out, E2.out]
              have HC2 : Hid (Cls (edgK L ki) n ((out))) := by show Cls _ _ _; rw [← HE.out]; exact HC.out.step HdL.out HKi.out (List.mem_of_getElem? Hy.out)
              have HN2 : Hid (Dn L (L.take (k + 1)) ki ((out)) i) := by show Dn _ _ _ _ _; rw [← HE.out, HTk.out]; exact HN.out.step Hy.out
              have HY2 : Hid (((out))[i]? = some y) := by show _ = _; rw [← HE.out]; exact clsS_at Hy.out
              have HL2 := Lib.hid (show ((out)).length ≤ 401 by have := HC2.out.len; omega)
              go_wp2
              refine wp_region_later (by kernel_rfl) (by kernel_rfl) ?_
              repeat (go_big_quiet_step (first | fail))
              refine wpQuiet_nil ?_
              intro _ hw'
              obtain ⟨xq, hw''⟩ := hw'
              subst hw''
              have hbd := xq.h
              generalize xq.to = wd at hbd ⊢
              clear Y0' Y1' Y2' Y3' Y4' U0 H2
              go_wp2
              refine ⟨?rel, ?measure⟩
              case rel => exact ⟨k + 1, _, (out), by omega, rfl, by go_num, (HOc).out.below hbd, HC2, HN2, HY2, HL2.out, below_trans (hwc) hbd⟩
              case measure => simp [intOf]; omega
            have t3 : (d.b == y) = true := by simp [hB2]
            have t3' : decide (d.b = y) = true := by simp [hB2]
            by_cases hM2 : d.a ∈ (out)
            · have t4 : hasB (out) d.a = true := (hasB_iff _ _).2 hM2
              have E2 : Hid (addI (out) (d.b == y) d.a = (out)) := addI_no (.inr hM2)
              clear hB2 hM2
              have HE : Hid (clsS out d y = (out)) := by
                show _ = _
                unfold clsS
                rw [E1.out, E2.out]
              have HC2 : Hid (Cls (edgK L ki) n ((out))) := by show Cls _ _ _; rw [← HE.out]; exact HC.out.step HdL.out HKi.out (List.mem_of_getElem? Hy.out)
              have HN2 : Hid (Dn L (L.take (k + 1)) ki ((out)) i) := by show Dn _ _ _ _ _; rw [← HE.out, HTk.out]; exact HN.out.step Hy.out
              have HY2 : Hid (((out))[i]? = some y) := by show _ = _; rw [← HE.out]; exact clsS_at Hy.out
              have HL2 := Lib.hid (show ((out)).length ≤ 401 by have := HC2.out.len; omega)
              go_wp2
              refine wp_region_later (by kernel_rfl) (by kernel_rfl) ?_
              repeat (go_big_quiet_step (first | (go_at_call 35; with_reducible exact calls_later (H2.out _))))
              refine wpQuiet_nil ?_
              intro _ hw'
              obtain ⟨xq, hw''⟩ := hw'
              subst hw''
              have hbd := xq.h
              generalize xq.to = wd at hbd ⊢
              clear Y0' Y1' Y2' Y3' Y4' U0 H2
              go_wp2
              refine ⟨?rel, ?measure⟩
              case rel => exact ⟨k + 1, _, (out), by omega, rfl, by go_num, (HOc).out.below hbd, HC2, HN2, HY2, HL2.out, below_trans (hwc) hbd⟩
              case measure => simp [intOf]; omega
            · have t4 : hasB (out) d.a = false := by rw [Bool.eq_false_iff]; exact fun h => hM2 ((hasB_iff _ _).1 h)
              have E2 : Hid (addI (out) (d.b == y) d.a = (out) ++ [d.a]) := addI_yes t3 hM2
              clear hB2 hM2
              have HE : Hid (clsS out d y = ((out) ++ [d.a])) := by
                show _ = _
                unfold clsS
                rw [E1.out, E2.out]
              have HC2 : Hid (Cls (edgK L ki) n (((out) ++ [d.a]))) := by show Cls _ _ _; rw [← HE.out]; exact HC.out.step HdL.out HKi.out (List.mem_of_getElem? Hy.out)
              have HN2 : Hid (Dn L (L.take (k + 1)) ki (((out) ++ [d.a])) i) := by show Dn _ _ _ _ _; rw [← HE.out, HTk.out]; exact HN.out.step Hy.out
              have HY2 : Hid ((((out) ++ [d.a]))[i]? = some y) := by show _ = _; rw [← HE.out]; exact clsS_at Hy.out
              have HL2 := Lib.hid (show (((out) ++ [d.a])).length ≤ 401 by have := HC2.out.len; omega)
              go_wp2
              refine wp_region_later (by kernel_rfl) (by kernel_rfl) ?_
              repeat (go_big_quiet_step (first | (go_at_call 35; with_reducible exact calls_later (H2.out _))))
              refine wpQuiet_nil ?_
              intro _ hw'
              obtain ⟨xq, hw''⟩ := hw'
              subst hw''
              have hbd := xq.h
              generalize xq.to = wd at hbd ⊢
              clear Y0' Y1' Y2' Y3' Y4' U0 H2
              have hwd := below_trans (hwc) hbd
              obtain ⟨y0', y1', y2', y3', y4'⟩ := Hcc.out wd hwd
              have Ho3 := Lib.hid ((HOc).out.below hbd)
              have hzd : w.heap.size ≤ wd.heap.size := hwd.size
              have hlen3 := HL2.out
              simp only [List.length_append, List.length_singleton] at hlen3
              go_wp2_with (at_builtin; refine wpList_append1 (enc := encI) (size := 1) (B := w.heap.size) rfl (.tmp 79) (.tmp 85) _ rfl 3 iI _ 8 Tryz.underlying68 hiI hzI hkI hbI rfl (by decide) rfl Ho3.out (d.a : Int) _ rfl lenI oneI _ rfl rfl (by omega) (by omega) hzd ?_; intro v' wq hown' hgrow hat)
              obtain ⟨Av, cv9, rfl, _⟩ := id hown'.slOf
              have HOq := Lib.hid hown'; have HGq := Lib.hid hgrow
              clear hown' hgrow hat
              go_wp2
              refine ⟨?rel, ?measure⟩
              case rel => exact ⟨k + 1, _, (out) ++ [d.a], by omega, by first | rfl | simp, by go_num, HOq.out, HC2, HN2, HY2, HL2.out, hwd.grown HGq.out hzd (fun j e => (Ho3.out.lt j e).1)⟩
              case measure => simp [intOf]; omega
          · have t5 : hasB out d.b = false := by rw [Bool.eq_false_iff]; exact fun h => hM1 ((hasB_iff _ _).1 h)
            have E1 : Hid (addI out (d.a == y) d.b = out ++ [d.b]) := addI_yes t2 hM1
            clear hA2 hM1
            go_wp2
            refine wp_region_later (by kernel_rfl) (by kernel_rfl) ?_
            repeat (go_big_quiet_step (first | (go_at_call 35; with_reducible exact calls_later (H1.out _))))
            refine wpQuiet_nil ?_
            intro _ hw'
            obtain ⟨xq, hw''⟩ := hw'
            subst hw''
            have hbc := xq.h
            generalize xq.to = wc at hbc ⊢
            clear Y0 Y1 Y2 Y3 Y4 UU H1 y0 y1 y2 y3 y4
            replace u0 := cell_later hbc u0
            have hwc := below_trans hb hbc
            have HOc := Lib.hid (HO.out.below hbc)
            obtain ⟨y0, y1, y2, y3, y4⟩ := Hcc.out wc hwc
            have hzc : w.heap.size ≤ wc.heap.size := hwc.size
            go_wp2_with (at_builtin; refine wpList_append1 (enc := encI) (size := 1) (B := w.heap.size) rfl (.tmp 51) (.tmp 57) _ rfl 3 iI _ 8 Tryz.underlying68 hiI hzI hkI hbI rfl (by decide) rfl HOc.out (d.b : Int) _ rfl lenI oneI _ rfl rfl (by omega) (by omega) hzc ?_; intro v' we hown' hgrow hat)
            obtain ⟨Av, cv9, e9, _⟩ := id hown'.slOf
            obtain ⟨out1, ho1⟩ : ∃ z, out ++ [d.b] = z := ⟨_, rfl⟩
            rw [ho1] at hown' e9 E1
            have hil1 : i < out1.length := by rw [← ho1]; simp; omega
            have Hy1 : Hid (out1[i]? = some y) := by show _ = _; rw [← ho1, List.getElem?_append_left hilt]; exact Hy.out
            have hol1 : out1.length ≤ 402 := by rw [← ho1]; simp; omega
            have hwe := hwc.grown hgrow hzc (fun j e => (HOc.out.lt j e).1)
            subst e9
            clear u0
            obtain ⟨b3, o3, e3, _, hco3⟩ := (show Ints we (.slice Av out1.length cv9) out1 from hown'.slOf).at (k := i) hil1
            subst e3
            have u0 := hco3 y Hy1.out
            have HOe := Lib.hid hown'
            clear hco3
            clear hown' hgrow hat ho1 y0 y1 y2 y3 y4
            obtain ⟨y0', y1', y2', y3', y4'⟩ := Hcc.out (we) (hwe)
            have H2 := Lib.hid fun (z : Later (we)) => (show Calls Tryz.prog 35 #[.slice (some ⟨b3, o3, none⟩) (out1).length (cv9), .int .i64 d.a] z.to fun e w' => e = .returned (.bool (hasB (out1) d.a)) ∧ Below z.to.heap.size z.to w' from (Has_ok _ (out1) d.a z.to (((HOe).out.later z).slOf)).mono fun e w' h => ⟨h.1, by rw [← h.2]; exact Below.refl _ _⟩)
            have Y0' := Later.cell_all y0'; have Y1' := Later.cell_all y1'; have Y2' := Later.cell_all y2'; have Y3' := Later.cell_all y3'; have Y4' := Later.cell_all y4'
            have U0 := Later.cell_all u0
            have hi4 : (i : Int) < (((out1).length : Nat) : Int) := by have := hil1; omega
            clear y0' y1' y2' y3' y4' u0
            by_cases hB2 : d.b = y
            case neg =>
              have t3 : (d.b == y) = false := by simp [hB2]
              have t3' : decide (d.b = y) = false := by simp [hB2]
              have E2 : Hid (addI (out1) (d.b == y) d.a = (out1)) := addI_no (.inl t3)
              clear hB2
              have HE : Hid (clsS out d y = (out1)) := by
                show _ = _
                unfold clsS
                rw [E1.out, E2.out]
              have HC2 : Hid (Cls (edgK L ki) n ((out1))) := by show Cls _ _ _; rw [← HE.out]; exact HC.out.step HdL.out HKi.out (List.mem_of_getElem? Hy.out)
              have HN2 : Hid (Dn L (L.take (k + 1)) ki ((out1)) i) := by show Dn _ _ _ _ _; rw [← HE.out, HTk.out]; exact HN.out.step Hy.out
              have HY2 : Hid (((out1))[i]? = some y) := by show _ = _; rw [← HE.out]; exact clsS_at Hy.out
              have HL2 := Lib.hid (show ((out1)).length ≤ 401 by have := HC2.out.len; omega)
              go_wp2
              refine wp_region_later (by kernel_rfl) (by kernel_rfl) ?_
              repeat (go_big_quiet_step (first | fail))
              refine wpQuiet_nil ?_
              intro _ hw'
              obtain ⟨xq, hw''⟩ := hw'
              subst hw''
              have hbd := xq.h
              generalize xq.to = wd at hbd ⊢
              clear Y0' Y1' Y2' Y3' Y4' U0 H2
              go_wp2
              refine ⟨?rel, ?measure⟩
              case rel => exact ⟨k + 1, _, (out1), by omega, rfl, by go_num, (HOe).out.below hbd, HC2, HN2, HY2, HL2.out, below_trans (hwe) hbd⟩
              case measure => simp [intOf]; omega
            have t3 : (d.b == y) = true := by simp [hB2]
            have t3' : decide (d.b = y) = true := by simp [hB2]
            by_cases hM2 : d.a ∈ (out1)
            · have t4 : hasB (out1) d.a = true := (hasB_iff _ _).2 hM2
              have E2 : Hid (addI (out1) (d.b == y) d.a = (out1)) := addI_no (.inr hM2)
              clear hB2 hM2
              have HE : Hid (clsS out d y = (out1)) := by
                show _ = _
                unfold clsS
                rw [E1.out, E2.out]
              have HC2 : Hid (Cls (edgK L ki) n ((out1))) := by show Cls _ _ _; rw [← HE.out]; exact HC.out.step HdL.out HKi.out (List.mem_of_getElem? Hy.out)
              have HN2 : Hid (Dn L (L.take (k + 1)) ki ((out1)) i) := by show Dn _ _ _ _ _; rw [← HE.out, HTk.out]; exact HN.out.step Hy.out
              have HY2 : Hid (((out1))[i]? = some y) := by show _ = _; rw [← HE.out]; exact clsS_at Hy.out
              have HL2 := Lib.hid (show ((out1)).length ≤ 401 by have := HC2.out.len; omega)
              go_wp2
              refine wp_region_later (by kernel_rfl) (by kernel_rfl) ?_
              repeat (go_big_quiet_step (first | (go_at_call 35; with_reducible exact calls_later (H2.out _))))
              refine wpQuiet_nil ?_
              intro _ hw'
              obtain ⟨xq, hw''⟩ := hw'
              subst hw''
              have hbd := xq.h
              generalize xq.to = wd at hbd ⊢
              clear Y0' Y1' Y2' Y3' Y4' U0 H2
              go_wp2
              refine ⟨?rel, ?measure⟩
              case rel => exact ⟨k + 1, _, (out1), by omega, rfl, by go_num, (HOe).out.below hbd, HC2, HN2, HY2, HL2.out, below_trans (hwe) hbd⟩
              case measure => simp [intOf]; omega
            · have t4 : hasB (out1) d.a = false := by rw [Bool.eq_false_iff]; exact fun h => hM2 ((hasB_iff _ _).1 h)
              have E2 : Hid (addI (out1) (d.b == y) d.a = (out1) ++ [d.a]) := addI_yes t3 hM2
              clear hB2 hM2
              have HE : Hid (clsS out d y = ((out1) ++ [d.a])) := by
                show _ = _
                unfold clsS
                rw [E1.out, E2.out]
              have HC2 : Hid (Cls (edgK L ki) n (((out1) ++ [d.a]))) := by show Cls _ _ _; rw [← HE.out]; exact HC.out.step HdL.out HKi.out (List.mem_of_getElem? Hy.out)
              have HN2 : Hid (Dn L (L.take (k + 1)) ki (((out1) ++ [d.a])) i) := by show Dn _ _ _ _ _; rw [← HE.out, HTk.out]; exact HN.out.step Hy.out
              have HY2 : Hid ((((out1) ++ [d.a]))[i]? = some y) := by show _ = _; rw [← HE.out]; exact clsS_at Hy.out
              have HL2 := Lib.hid (show (((out1) ++ [d.a])).length ≤ 401 by have := HC2.out.len; omega)
              go_wp2
              refine wp_region_later (by kernel_rfl) (by kernel_rfl) ?_
              repeat (go_big_quiet_step (first | (go_at_call 35; with_reducible exact calls_later (H2.out _))))
              refine wpQuiet_nil ?_
              intro _ hw'
              obtain ⟨xq, hw''⟩ := hw'
              subst hw''
              have hbd := xq.h
              generalize xq.to = wd at hbd ⊢
              clear Y0' Y1' Y2' Y3' Y4' U0 H2
              have hwd := below_trans (hwe) hbd
              obtain ⟨y0', y1', y2', y3', y4'⟩ := Hcc.out wd hwd
              have Ho3 := Lib.hid ((HOe).out.below hbd)
              have hzd : w.heap.size ≤ wd.heap.size := hwd.size
              have hlen3 := HL2.out
              simp only [List.length_append, List.length_singleton] at hlen3
              go_wp2_with (at_builtin; refine wpList_append1 (enc := encI) (size := 1) (B := w.heap.size) rfl (.tmp 79) (.tmp 85) _ rfl 3 iI _ 8 Tryz.underlying68 hiI hzI hkI hbI rfl (by decide) rfl Ho3.out (d.a : Int) _ rfl lenI oneI _ rfl rfl (by omega) (by omega) hzd ?_; intro v' wq hown' hgrow hat)
              obtain ⟨Av, cv9, rfl, _⟩ := id hown'.slOf
              have HOq := Lib.hid hown'; have HGq := Lib.hid hgrow
              clear hown' hgrow hat
              go_wp2
              refine ⟨?rel, ?measure⟩
              case rel => exact ⟨k + 1, _, (out1) ++ [d.a], by omega, by first | rfl | simp, by go_num, HOq.out, HC2, HN2, HY2, HL2.out, hwd.grown HGq.out hzd (fun j e => (Ho3.out.lt j e).1)⟩
              case measure => simp [intOf]; omega
        · have he : L.take k = L := List.take_of_length_le (by omega)
          have HN2 : Hid (Dn L [] ki out (i + 1)) := by have := HN.out; rw [he] at this; exact this.next
          clear he
          go_wp2
          refine ⟨?rel, ?measure⟩
          case rel => exact ⟨i + 1, _, out, by omega, rfl, by go_num, hown, HC, HN2, hol, hb⟩
          case measure => simp [intOf]; omega
    · have HE := Lib.hid (class_end HC.out HN.out (by omega))
      have Hst := Lib.hid HC.out.start
      have HO := Lib.hid hown
      clear hown
      go_wp2
      go_ret
      exact ⟨_, out, rfl, HO.out, HE.out, fun e => by have := Hst.out; rw [e] at this; simp at this, by omega, hb⟩
end Go.Proofs.YthnckicnnhkkaaaGreat
/- The reference of layer 52: New, Make, Withdraw, Remove, Specimens, standing. Condition: the corpus reads as such. -/
namespace Go.Proofs.YthnckicnnhkkaaaGreat
open Go.RowKit Go.Maps Go.Shelf

structure RCorR (w : World) (T U : List Nat) (p q : Nat) (vl : Value) (l : List Spec) (D : List Dec) (W : List Mrk) : Prop where
  row : w.heap[p]? = some (.cells [vl, .pointer (some ⟨q, 0, none⟩)].toArray 65 (0, 0))
  spc : Specs w vl l
  led : RLedA w U q D W
  pU : p ∉ U
  vU : ∀ j, vl.ownBlock = some j → j ∉ U ∧ j ≠ p
  mem : p ∈ T ∧ (∀ j, vl.ownBlock = some j → j ∈ T) ∧ ∀ b ∈ U, b ∈ T
  lt : ∀ b ∈ T, b < w.heap.size
  ok : CorW l D W
/-- A reference corpus at block p; T: all its blocks. -/
def RCorAt (w : World) (T : List Nat) (p : Nat) (l : List Spec) (D : List Dec) (W : List Mrk) : Prop := ∃ U q vl, RCorR w T U p q vl l D W
section
variable {w w' : World} {S T U : List Nat} {p q : Nat} {vl : Value} {l : List Spec} {D : List Dec} {W : List Mrk}
theorem RCorR.off (h : RCorR w T U p q vl l D W) (ht : Touch w w' S) (hn : ∀ b ∈ T, b ∉ S) : RCorR w' T U p q vl l D W :=
  ⟨(ht.block p (h.lt p h.mem.1) (hn p h.mem.1)).trans h.row, slOf_off h.spc ht fun j hj => hn j (h.mem.2.1 j hj), h.led.off ht fun b hb => hn b (h.mem.2.2 b hb), h.pU, h.vU, h.mem, fun b hb => Nat.lt_of_lt_of_le (h.lt b hb) ht.size, h.ok⟩
theorem RCorR.below (h : RCorR w T U p q vl l D W) (hb : Below w.heap.size w w') : RCorR w' T U p q vl l D W := h.off (touch_below hb []) (by simp)
theorem RCorAt.off (h : RCorAt w T p l D W) (ht : Touch w w' S) (hn : ∀ b ∈ T, b ∉ S) : RCorAt w' T p l D W := by obtain ⟨U, q, vl, h⟩ := h; exact ⟨U, q, vl, h.off ht hn⟩
theorem RCorAt.below (h : RCorAt w T p l D W) (hb : Below w.heap.size w w') : RCorAt w' T p l D W := h.off (touch_below hb []) (by simp)
theorem RCorAt.ok (h : RCorAt w T p l D W) : CorW l D W := by obtain ⟨U, q, vl, h⟩ := h; exact h.ok
theorem RCorAt.lt (h : RCorAt w T p l D W) : ∀ b ∈ T, b < w.heap.size := by obtain ⟨U, q, vl, h⟩ := h; exact h.lt
/-- Behind a list that is stored. -/
theorem RCorR.list (h : RCorR w T U p q vl l D W) {w1 : World} {u : Value} {l' : List Spec} (hb : Below w.heap.size w w1) (hs : Specs w1 u l') (hu : ∀ j, u.ownBlock = some j → w.heap.size ≤ j ∧ j < w1.heap.size) (hl : LisW l') :
    RCorAt (w1.setCell ⟨p, 0, none⟩ u) (blk u ++ T) p l' D W ∧ Touch w (w1.setCell ⟨p, 0, none⟩ u) T ∧ ∀ b ∈ blk u ++ T, b ∈ T ∨ w.heap.size ≤ b := by
  have h1 := h.below hb
  have ht : Touch w1 (w1.setCell ⟨p, 0, none⟩ u) [p] := touch_set rfl (by simp)
  have hp := h.lt p h.mem.1
  refine ⟨⟨U, q, u, ⟨heap_setCell_same w1 p 0 _ 65 u h1.row, slOf_off hs ht fun j hj => by have := hu j hj; simp; omega, h1.led.off ht fun b hb' e => by simp at e; subst e; exact h.pU hb', h.pU, fun j hj => ⟨fun e => by have := h.lt j (h.mem.2.2 j e); have := hu j hj; omega, by have := hu j hj; omega⟩, ⟨List.mem_append_right _ h.mem.1, fun j hj => List.mem_append_left _ (mem_blk.2 hj), fun b hb' => List.mem_append_right _ (h.mem.2.2 b hb')⟩, fun b hb' => ?_, ⟨hl, h.ok.dec, h.ok.lenD, h.ok.lenW⟩⟩⟩, (touch_below hb T).trans (touch_set rfl h.mem.1), fun b hb' => ?_⟩
  · have hz := ht.size
    rcases List.mem_append.1 hb' with hb' | hb'
    · have := (hu b (mem_blk.1 hb')).2; omega
    · have := h1.lt b hb'; omega
  · rcases List.mem_append.1 hb' with hb' | hb'
    · exact .inr (hu b (mem_blk.1 hb')).1
    · exact .inl hb'
/-- Behind a ledger that is turned. -/
theorem RCorR.ledger (h : RCorR w T U p q vl l D W) {U' : List Nat} {D' : List Dec} {W' : List Mrk} (hl : RLedA w' U' q D' W') (ht : Touch w w' U) (hU : ∀ b ∈ U', b ∈ U ∨ w.heap.size ≤ b) (hok : CorW l D' W') :
    RCorAt w' (U' ++ T) p l D' W' ∧ Touch w w' T ∧ ∀ b ∈ U' ++ T, b ∈ T ∨ w.heap.size ≤ b := by
  have hp := h.lt p h.mem.1
  have hUl : ∀ b ∈ U', b < w'.heap.size := by obtain ⟨vd, vw, h⟩ := hl; exact h.lt
  refine ⟨⟨U', q, vl, ⟨(ht.block p hp h.pU).trans h.row, slOf_off h.spc ht fun j hj => (h.vU j hj).1, hl, fun e => ?_, fun j hj => ⟨fun e => ?_, (h.vU j hj).2⟩, ⟨List.mem_append_right _ h.mem.1, fun j hj => List.mem_append_right _ (h.mem.2.1 j hj), fun b hb => List.mem_append_left _ hb⟩, fun b hb => ?_, hok⟩⟩, ⟨ht.os, ht.tape, ht.output, ht.size, fun k hk hn => ht.block k hk fun e => hn (h.mem.2.2 k e)⟩, fun b hb => ?_⟩
  · rcases hU p e with e | e
    · exact h.pU e
    · omega
  · rcases hU j e with e | e
    · exact (h.vU j hj).1 e
    · have := h.lt j (h.mem.2.1 j hj); omega
  · rcases List.mem_append.1 hb with hb | hb
    · exact hUl b hb
    · exact Nat.lt_of_lt_of_le (h.lt b hb) ht.size
  · rcases List.mem_append.1 hb with hb | hb
    · exact (hU b hb).imp (h.mem.2.2 b) id
    · exact .inl hb
end
set_option maxHeartbeats 2000000 in
theorem RNew_ok (w : World) : Calls Tryz.prog 13 #[] w fun e w' => ∃ p T, e = .returned (.pointer (some ⟨p, 0, none⟩)) ∧ RCorAt w' T p [] [] [] ∧ (∀ b ∈ T, w.heap.size ≤ b) ∧ Below w.heap.size w w' := by
  have HF : Hid (∀ w1 w2 q, Below w.heap.size w w1 → RLedA w1 [q] q [] [] → w.heap.size ≤ q → w1.alloc (.cells #[.slice none 0 0, .pointer (some ⟨q, 0, none⟩)] 65) = w2 → RCorAt w2 [w1.heap.size, q] w1.heap.size [] [] [] ∧ Below w.heap.size w w2) := Lib.hid (by
    intro w1 w2 q hb hL h1 hw2
    have hb3 : Below w1.heap.size w1 w2 := by rw [← hw2]; exact (Below.refl _ _).alloc (Nat.le_refl _) _
    have hs : w2.heap.size = w1.heap.size + 1 := by rw [← hw2]; simp
    have l1 : q < w1.heap.size := by obtain ⟨vd, vw, h⟩ := hL; exact heap_lt h.row
    refine ⟨⟨[q], q, .slice none 0 0, ⟨by rw [← hw2]; exact heap_alloc_new _ _, (own_nil (enc := encS) (k := 7) (e := 31) 0 w2).slOf, hL.below hb3, by simp; omega, fun j hj => (by cases hj), ⟨by simp, fun j hj => (by cases hj), by simp⟩, fun b hb' => by simp at hb'; omega, CorW.nil⟩⟩, below_trans hb hb3⟩)
  go_enter Tryz.func13, Tryz.ntmps13
  go_wp2_with fail
  refine (rNew_ok w).mono ?_
  rintro e w1 ⟨q, rfl, hL, h1, hb⟩
  have HL := Lib.hid hL
  clear hL
  go_wp2_with fail
  go_ret
  obtain ⟨k1, k2⟩ := HF.out w1 _ q hb HL.out h1 rfl
  refine ⟨_, _, rfl, k1, fun b hb' => ?_, k2⟩
  have := hb.size
  simp at hb'
  omega
set_option maxHeartbeats 4000000 in
set_option maxRecDepth 100000 in
theorem RMake_ok (T : List Nat) (p : Nat) (l : List Spec) (D : List Dec) (W : List Mrk) (d : Dec) (w : World) (h : RCorAt w T p l D W) :
    Calls Tryz.prog 51 #[.pointer (some ⟨p, 0, none⟩), .agg #[.int .i64 d.au, .int .i64 d.nu, .int .i64 d.ki, .int .i64 d.a, .int .i64 d.b]] w fun e w' =>
      e = .returned (.int .i64 (makeE D d)) ∧ ∃ T', RCorAt w' T' p l (makeL D d) W ∧ Touch w w' T ∧ ∀ b ∈ T', b ∈ T ∨ w.heap.size ≤ b := by
  obtain ⟨U, q, vl, hR⟩ := h
  obtain ⟨X, hX, HzX, hbX, hltX, _⟩ := boxed w #[.int .i64 (d).au, .int .i64 (d).nu, .int .i64 (d).ki, .int .i64 (d).a, .int .i64 (d).b] 33
  have hkX : (X).heap[(w).heap.size]? = some (.cells [.int .i64 (d).au, .int .i64 (d).nu, .int .i64 (d).ki, .int .i64 (d).a, .int .i64 (d).b].toArray 33 (0, 0)) := by rw [← hX]; exact heap_alloc_new _ _
  have hRX := hR.below hbX
  obtain ⟨⟨r0, r1⟩, _⟩ := cellsM hRX.row
  obtain ⟨⟨c0, c1, c2, c3, c4⟩, _⟩ := cellsD5 hkX
  have HRX := Lib.hid hRX; have HR := Lib.hid hR
  clear hRX hR hkX
  go_enter Tryz.func51, Tryz.ntmps51
  go_wp2_with fail
  have hba : Below (X).heap.size (X) (X).drew := (Below.refl _ _).drew
  obtain ⟨wa, hwa⟩ : ∃ W, (X).drew = W := ⟨_, rfl⟩
  rw [hwa] at hba
  have HSt := Lib.hid fun (w9 : World) (hb : Below wa.heap.size wa w9) => (show (fun w' : World => Below wa.heap.size wa w' ∧ w'.cell? ⟨p, 1, none⟩ = some (.pointer (some ⟨q, 0, none⟩)) ∧ w'.cell? ⟨w.heap.size, 0, none⟩ = some (.int .i64 d.au) ∧ w'.cell? ⟨w.heap.size, 1, none⟩ = some (.int .i64 d.nu) ∧ w'.cell? ⟨w.heap.size, 2, none⟩ = some (.int .i64 d.ki) ∧ w'.cell? ⟨w.heap.size, 3, none⟩ = some (.int .i64 d.a) ∧ w'.cell? ⟨w.heap.size, 4, none⟩ = some (.int .i64 d.b)) w9 from ⟨hb, cell_later hb (cell_later hba r1), cell_later hb (cell_later hba c0), cell_later hb (cell_later hba c1), cell_later hb (cell_later hba c2), cell_later hb (cell_later hba c3), cell_later hb (cell_later hba c4)⟩)
  have hHeld := HSt.out wa (Below.refl _ _)
  refine wp_region_S 5 (fun w' : World => Below wa.heap.size wa w' ∧ w'.cell? ⟨p, 1, none⟩ = some (.pointer (some ⟨q, 0, none⟩)) ∧ w'.cell? ⟨w.heap.size, 0, none⟩ = some (.int .i64 d.au) ∧ w'.cell? ⟨w.heap.size, 1, none⟩ = some (.int .i64 d.nu) ∧ w'.cell? ⟨w.heap.size, 2, none⟩ = some (.int .i64 d.ki) ∧ w'.cell? ⟨w.heap.size, 3, none⟩ = some (.int .i64 d.a) ∧ w'.cell? ⟨w.heap.size, 4, none⟩ = some (.int .i64 d.b)) (by kernel_rfl) (by decide) ?_
  rw [hwa]
  clear hwa
  refine wpAnyS_takeD 0 (some 7) (.pointer (some ⟨p, 0, none⟩)) (by rfl) (by rfl) (by kernel_rfl) (by exact fun _ _ _ h => h) (by rfl) (fun w' hS => by go_simp) hHeld ?_
  simp only [Act.put, List.setIfInBounds_toArray, List.set_cons_succ, List.set_cons_zero]
  refine wpAnyS_takeD 1 (some 8) (.pointer (some ⟨p, 0, none⟩)) (by rfl) (by rfl) (by kernel_rfl) (by exact fun _ _ _ h => h) (by rfl) (fun w' hS => by go_simp) hHeld ?_
  simp only [Act.put, List.setIfInBounds_toArray, List.set_cons_succ, List.set_cons_zero]
  refine wpAnyS_takeD 2 (some 9) (.pointer (some ⟨p, 1, none⟩)) (by rfl) (by rfl) (by kernel_rfl) (by exact fun _ _ _ h => h) (by rfl) (fun w' hS => by go_simp) hHeld ?_
  simp only [Act.put, List.setIfInBounds_toArray, List.set_cons_succ, List.set_cons_zero]
  refine wpAnyS_takeD 3 (some 10) (.pointer (some ⟨q, 0, none⟩)) (by rfl) (by rfl) (by kernel_rfl) (by exact fun _ _ _ h => h) (by rfl) (fun w' hS => by (obtain ⟨_, x0, x1, x2, x3, x4, x5⟩ := hS; go_simp)) hHeld ?_
  simp only [Act.put, List.setIfInBounds_toArray, List.set_cons_succ, List.set_cons_zero]
  refine wpAnyS_takeD 4 (some 11) (.agg #[.int .i64 d.au, .int .i64 d.nu, .int .i64 d.ki, .int .i64 d.a, .int .i64 d.b]) (by rfl) (by rfl) (by kernel_rfl) (by exact fun _ _ _ h => h) (by rfl) (fun w' hS => by (obtain ⟨_, x0, x1, x2, x3, x4, x5⟩ := hS; go_simp)) hHeld ?_
  simp only [Act.put, List.setIfInBounds_toArray, List.set_cons_succ, List.set_cons_zero]
  clear hHeld
  refine (show tailOf _ _ _ _ _ _ _ _ from ⟨by kernel_rfl, ?_⟩)
  simp only [List.drop_succ_cons, List.drop_zero]
  go_wp2_with fail
  have hwa := below_trans hbX hba
  obtain ⟨vd, vw, hL⟩ := (HR.out.below hwa).led
  have HL := Lib.hid hL
  clear hL
  refine (rMake_ok U q vd vw D W d wa HL.out).mono ?_
  rintro e w2 ⟨rfl, U', hl2, ht2, hU2⟩
  have Hl2 := Lib.hid hl2; have Ht2 := Lib.hid ht2; have HU2 := Lib.hid hU2
  clear hl2 ht2 hU2
  go_wp2_with fail
  go_ret
  obtain ⟨k1, k2, k3⟩ := (HR.out.below hwa).ledger Hl2.out Ht2.out HU2.out (HR.out.ok.make d)
  exact ⟨rfl, _, k1, (touch_below hwa T).trans k2, fun b hb => (k3 b hb).imp id fun h => by have := hwa.size; omega⟩
set_option maxHeartbeats 4000000 in
set_option maxRecDepth 100000 in
theorem RDraw_ok (T : List Nat) (p : Nat) (l : List Spec) (D : List Dec) (W : List Mrk) (m : Mrk) (w : World) (h : RCorAt w T p l D W) :
    Calls Tryz.prog 52 #[.pointer (some ⟨p, 0, none⟩), .agg #[.int .i64 m.au, .int .i64 m.nu]] w fun e w' =>
      e = .returned (.int .i64 (drawE W m)) ∧ ∃ T', RCorAt w' T' p l D (drawL W m) ∧ Touch w w' T ∧ ∀ b ∈ T', b ∈ T ∨ w.heap.size ≤ b := by
  obtain ⟨U, q, vl, hR⟩ := h
  obtain ⟨X, hX, HzX, hbX, hltX, _⟩ := boxed w #[.int .i64 (m).au, .int .i64 (m).nu] 35
  have hkX : (X).heap[(w).heap.size]? = some (.cells [.int .i64 (m).au, .int .i64 (m).nu].toArray 35 (0, 0)) := by rw [← hX]; exact heap_alloc_new _ _
  have hRX := hR.below hbX
  obtain ⟨⟨r0, r1⟩, _⟩ := cellsM hRX.row
  obtain ⟨⟨c0, c1⟩, _⟩ := cellsM hkX
  have HRX := Lib.hid hRX; have HR := Lib.hid hR
  clear hRX hR hkX
  go_enter Tryz.func52, Tryz.ntmps52
  go_wp2_with fail
  have hba : Below (X).heap.size (X) (X).drew := (Below.refl _ _).drew
  obtain ⟨wa, hwa⟩ : ∃ W, (X).drew = W := ⟨_, rfl⟩
  rw [hwa] at hba
  have HSt := Lib.hid fun (w9 : World) (hb : Below wa.heap.size wa w9) => (show (fun w' : World => Below wa.heap.size wa w' ∧ w'.cell? ⟨p, 1, none⟩ = some (.pointer (some ⟨q, 0, none⟩)) ∧ w'.cell? ⟨w.heap.size, 0, none⟩ = some (.int .i64 m.au) ∧ w'.cell? ⟨w.heap.size, 1, none⟩ = some (.int .i64 m.nu)) w9 from ⟨hb, cell_later hb (cell_later hba r1), cell_later hb (cell_later hba c0), cell_later hb (cell_later hba c1)⟩)
  have hHeld := HSt.out wa (Below.refl _ _)
  refine wp_region_S 5 (fun w' : World => Below wa.heap.size wa w' ∧ w'.cell? ⟨p, 1, none⟩ = some (.pointer (some ⟨q, 0, none⟩)) ∧ w'.cell? ⟨w.heap.size, 0, none⟩ = some (.int .i64 m.au) ∧ w'.cell? ⟨w.heap.size, 1, none⟩ = some (.int .i64 m.nu)) (by kernel_rfl) (by decide) ?_
  rw [hwa]
  clear hwa
  refine wpAnyS_takeD 0 (some 7) (.pointer (some ⟨p, 0, none⟩)) (by rfl) (by rfl) (by kernel_rfl) (by exact fun _ _ _ h => h) (by rfl) (fun w' hS => by go_simp) hHeld ?_
  simp only [Act.put, List.setIfInBounds_toArray, List.set_cons_succ, List.set_cons_zero]
  refine wpAnyS_takeD 1 (some 8) (.pointer (some ⟨p, 0, none⟩)) (by rfl) (by rfl) (by kernel_rfl) (by exact fun _ _ _ h => h) (by rfl) (fun w' hS => by go_simp) hHeld ?_
  simp only [Act.put, List.setIfInBounds_toArray, List.set_cons_succ, List.set_cons_zero]
  refine wpAnyS_takeD 2 (some 9) (.pointer (some ⟨p, 1, none⟩)) (by rfl) (by rfl) (by kernel_rfl) (by exact fun _ _ _ h => h) (by rfl) (fun w' hS => by go_simp) hHeld ?_
  simp only [Act.put, List.setIfInBounds_toArray, List.set_cons_succ, List.set_cons_zero]
  refine wpAnyS_takeD 3 (some 10) (.pointer (some ⟨q, 0, none⟩)) (by rfl) (by rfl) (by kernel_rfl) (by exact fun _ _ _ h => h) (by rfl) (fun w' hS => by (obtain ⟨_, x0, x1, x2⟩ := hS; go_simp)) hHeld ?_
  simp only [Act.put, List.setIfInBounds_toArray, List.set_cons_succ, List.set_cons_zero]
  refine wpAnyS_takeD 4 (some 11) (.agg #[.int .i64 m.au, .int .i64 m.nu]) (by rfl) (by rfl) (by kernel_rfl) (by exact fun _ _ _ h => h) (by rfl) (fun w' hS => by (obtain ⟨_, x0, x1, x2⟩ := hS; go_simp)) hHeld ?_
  simp only [Act.put, List.setIfInBounds_toArray, List.set_cons_succ, List.set_cons_zero]
  clear hHeld
  refine (show tailOf _ _ _ _ _ _ _ _ from ⟨by kernel_rfl, ?_⟩)
  simp only [List.drop_succ_cons, List.drop_zero]
  go_wp2_with fail
  have hwa := below_trans hbX hba
  refine (rDraw_ok U q D W m wa (HR.out.below hwa).led).mono ?_
  rintro e w2 ⟨rfl, U', hl2, ht2, hU2⟩
  have Hl2 := Lib.hid hl2; have Ht2 := Lib.hid ht2; have HU2 := Lib.hid hU2
  clear hl2 ht2 hU2
  go_wp2_with fail
  go_ret
  obtain ⟨k1, k2, k3⟩ := (HR.out.below hwa).ledger Hl2.out Ht2.out HU2.out (HR.out.ok.draw m)
  exact ⟨rfl, _, k1, (touch_below hwa T).trans k2, fun b hb => (k3 b hb).imp id fun h => by have := hwa.size; omega⟩
set_option maxHeartbeats 2000000 in
theorem RSpecs_ok (T : List Nat) (p : Nat) (l : List Spec) (D : List Dec) (W : List Mrk) (w : World) (h : RCorAt w T p l D W) :
    Calls Tryz.prog 33 #[.pointer (some ⟨p, 0, none⟩)] w fun e w' => ∃ u, e = .returned u ∧ OwnS w.heap.size w' u l ∧ Below w.heap.size w w' := by
  obtain ⟨U, q, vl, hR⟩ := h
  have hll := hR.ok.lis.len
  obtain ⟨iS, hiS, hzS, hkS, hbS⟩ := info_parts infoS
  obtain ⟨W1, hW1⟩ : ∃ z, w.alloc (.cells #[] 31) = z := ⟨_, rfl⟩
  have hb1 : Below w.heap.size w W1 := by rw [← hW1]; exact (Below.refl _ _).alloc (Nat.le_refl _) _
  have hown0 : OwnS w.heap.size W1 (.slice (some ⟨w.heap.size, 0, none⟩) 0 0) [] := own_empty (by rw [← hW1]; exact heap_alloc_new _ _) (Nat.le_refl _)
  obtain ⟨⟨r0, r1⟩, _⟩ := cellsM (hR.below hb1).row
  have hsl := (hR.spc).below hb1
  obtain ⟨A, c, rfl, _⟩ := (hR.spc).cells
  have hsl' := SlOf.sl' hsl
  have Hown := Lib.hid hown0
  clear hR hsl hown0
  go_enter Tryz.func33, Tryz.ntmps33
  go_wp2_with (at_builtin; refine wpList_append_sl rfl (.tmp 5) (.tmp 9) _ rfl iS _ 56 Tryz.underlying51 hiS hzS hkS hbS rfl (by decide) oneS rfl Hown.out _ _ _ l rfl rfl hsl' (by simp; omega) (by simp; omega) hb1.size ?_; intro v1 w1 ho1 hg1 ha1)
  go_ret
  exact ⟨_, rfl, by simpa using ho1, hb1.grown hg1 hb1.size (fun k e => (Hown.out.lt k e).1)⟩
set_option maxHeartbeats 2000000 in
theorem Rstanding_ok (T : List Nat) (p : Nat) (l : List Spec) (D : List Dec) (W : List Mrk) (w : World) (h : RCorAt w T p l D W) :
    Calls Tryz.prog 106 #[.pointer (some ⟨p, 0, none⟩)] w fun e w' => ∃ v, e = .returned v ∧ OwnDc w.heap.size w' v (standL D W) ∧ Below w.heap.size w w' := by
  obtain ⟨U, q, vl, hR⟩ := h
  obtain ⟨⟨r0, r1⟩, _⟩ := cellsM hR.row
  have HL := Lib.hid (rStand_ok U q D W w hR.led)
  clear hR
  go_enter Tryz.func106, Tryz.ntmps106
  go_wp2_with fail
  refine HL.out.mono ?_
  rintro e w1 ⟨v, rfl, ho, hb⟩
  go_wp2_with fail
  go_ret
  exact ⟨v, rfl, ho, hb⟩
theorem remT_step {l : List Spec} {k : Nat} {i : Int} {s : Spec} (hs : l[k]? = some s) : removeL (l.take (k + 1)) i = removeL (l.take k) i ++ (if s.id ≠ i then [s] else []) := by
  rw [take_snoc' hs]
  unfold removeL
  rw [List.filter_append]
  by_cases h : s.id = i <;> simp [h]
theorem remL_len {l : List Spec} {i : Int} (h : i ∈ l.map Spec.id) : (removeL l i).length ≠ l.length := by
  intro e
  have := (show (removeL l i).Sublist l from List.filter_sublist).eq_of_length e
  obtain ⟨s, hs, rfl⟩ := List.mem_map.1 h
  rw [← this] at hs
  have := (List.mem_filter.1 hs).2
  simp at this
set_option maxHeartbeats 8000000 in
set_option maxRecDepth 100000 in
theorem RRemove_ok (T : List Nat) (p : Nat) (l : List Spec) (D : List Dec) (W : List Mrk) (i : Int) (w : World) (h : RCorAt w T p l D W) :
    Calls Tryz.prog 53 #[.pointer (some ⟨p, 0, none⟩), .int .i64 i] w fun e w' =>
      e = .returned (.int .i64 (removeE l i)) ∧ ∃ T', RCorAt w' T' p (removeL l i) D W ∧ Touch w w' T ∧ ∀ b ∈ T', b ∈ T ∨ w.heap.size ≤ b := by
  obtain ⟨U, q, vl, hR⟩ := h
  have HR := Lib.hid hR
  have hll := hR.ok.lis.len
  obtain ⟨⟨r0, r1⟩, _⟩ := cellsM hR.row
  obtain ⟨iS, hiS, hzS, hkS, hbS⟩ := info_parts infoS
  obtain ⟨A, c, rfl, hlc, hcm, hcl⟩ := (hR.spc).cells
  have HCl := Lib.hid hcl; have R0 := Lib.hid r0
  clear hR hcl r0 r1
  go_enter Tryz.func53, Tryz.ntmps53
  go_wp2
  go_loopw [5, 6] (fun t5 t6 wr => ∃ (k : Nat) (v : Value), k ≤ l.length ∧ t5 = v ∧ t6 = .int .i64 k ∧ OwnS w.heap.size wr v (removeL (l.take k) i) ∧ Below w.heap.size w wr) (fun _ t _ => l.length - (intOf t).toNat)
  case atStart => exact ⟨0, _, Nat.zero_le _, rfl, rfl, own_nil _ _ _ _ _, Below.refl _ _⟩
  case round =>
    obtain ⟨k, v, hk, rfl, rfl, hown, hb⟩ := hrel
    have q0 := cell_later hb R0.out
    obtain ⟨A8, c8, e8, _⟩ := id hown.slOf
    subst e8
    by_cases hlt : k < l.length
    · obtain ⟨s, hs⟩ := get_of_lt hlt
      obtain ⟨b, o, rfl, _, hcc⟩ := HCl.out _ (lt_of_get hs)
      obtain ⟨c0, c1, c2, c3, c4, c5, c6⟩ := hcc wr hb k s hs
      have hl1 : (k : Int) < (l.length : Int) := by omega
      have Hst := Lib.hid (remT_step (i := i) hs)
      have HO := Lib.hid hown
      clear hcc hs hown
      by_cases hsi : s.id = i
      · have t1 : (s.id != i) = false := by simp [hsi]
        have t1' : decide (s.id = i) = true := by simp [hsi]
        have HT : Hid (removeL (l.take (k + 1)) i = removeL (l.take k) i) := by have := Hst.out; rw [if_neg (by simp [hsi]), List.append_nil] at this; exact this
        clear hsi
        go_wp2
        refine ⟨?rel, ?measure⟩
        case rel => exact ⟨k + 1, _, by omega, rfl, by go_num, by rw [HT.out]; exact HO.out, hb⟩
        case measure => simp [intOf]; omega
      · have t1 : (s.id != i) = true := by simp [hsi]
        have t1' : decide (s.id = i) = false := by simp [hsi]
        have HT : Hid (removeL (l.take (k + 1)) i = removeL (l.take k) i ++ [s]) := by have := Hst.out; rw [if_pos hsi] at this; exact this
        have hrl : (removeL (l.take k) i).length ≤ k := Nat.le_trans (List.length_filter_le _ _) (by rw [List.length_take]; omega)
        have hzz : w.heap.size ≤ wr.heap.size := hb.size
        clear hsi
        go_wp2_with (at_builtin; refine wpList_append1 (enc := encS) (size := 7) (B := w.heap.size) rfl (.tmp 28) (.tmp 36) _ rfl 31 iS _ 56 Tryz.underlying51 hiS hzS hkS hbS rfl (by decide) rfl HO.out (s : Spec) _ rfl lenS oneS _ rfl rfl (by omega) (by omega) hzz ?_; intro v' wq hown' hgrow hat)
        obtain ⟨Av, cv9, rfl, _⟩ := id hown'.slOf
        rw [← HT.out] at hown'
        have HOq := Lib.hid hown'; have HGq := Lib.hid hgrow
        have e9 := congrArg List.length HT.out
        rw [← e9]
        clear hown' hgrow hat e9
        go_wp2
        refine ⟨?rel, ?measure⟩
        case rel => exact ⟨k + 1, _, by omega, rfl, by go_num, HOq.out, hb.grown HGq.out hzz (fun j e => (HO.out.lt j e).1)⟩
        case measure => simp [intOf]; omega
    · have he : l.take k = l := List.take_of_length_le (by omega)
      rw [he] at hown ⊢
      have HO := Lib.hid hown
      clear he hown
      by_cases hin : i ∈ l.map Spec.id
      · have hne := remL_len hin
        have t1 : (((removeL l i).length : Int) == (l.length : Int)) = false := by simp <;> omega
        have t1' : decide (((removeL l i).length : Int) = (l.length : Int)) = false := by simp <;> omega
        have HE : Hid (removeE l i = 0) := Lib.hid (by rw [removeE, if_pos hin])
        have f0 : wr.frozen? ⟨p, 0, none⟩ = false := heap_free (HR.out.below hb).row
        clear hin hne
        go_wp2
        go_ret
        obtain ⟨k1, k2, k3⟩ := HR.out.list hb HO.out.slOf (HO.out.lt) (HR.out.ok.lis.remove i)
        exact ⟨ret_i64 HE.out.symm, _, k1, k2, k3⟩
      · have hrm := removeL_no hin
        have t1 : (((removeL l i).length : Int) == (l.length : Int)) = true := by rw [hrm]; simp
        have t1' : decide (((removeL l i).length : Int) = (l.length : Int)) = true := by rw [hrm]; simp
        have HE : Hid (removeE l i = 7 ∧ removeL l i = l) := Lib.hid ⟨by rw [removeE, if_neg hin], hrm⟩
        clear hin hrm
        go_wp2
        go_ret
        exact ⟨ret_i64 HE.out.1.symm, T, by rw [HE.out.2]; exact ⟨U, q, _, HR.out.below hb⟩, touch_below hb T, fun b hb => .inl hb⟩
end Go.Proofs.YthnckicnnhkkaaaGreat
/- The reference of layer 52: Enter; reference 9: Find. Condition: the corpus reads as such. -/
namespace Go.Proofs.YthnckicnnhkkaaaGreat
open Go.RowKit Go.Maps Go.Shelf

theorem heap_set7c {w : World} {g : Nat} {a b c d e f k x0 x1 x2 x3 x4 x5 x6 : Value} {t : TypeId} (h : w.heap[g]? = some (.cells [a, b, c, d, e, f, k].toArray t (0, 0))) :
    (((((((w.setCell ⟨g, 0, none⟩ x0).setCell ⟨g, 1, none⟩ x1).setCell ⟨g, 2, none⟩ x2).setCell ⟨g, 3, none⟩ x3).setCell ⟨g, 4, none⟩ x4).setCell ⟨g, 5, none⟩ x5).setCell ⟨g, 6, none⟩ x6).heap[g]? = some (.cells #[x0, x1, x2, x3, x4, x5, x6] t (0, 0)) := heap_setCells [x0, x1, x2, x3, x4, x5, x6] [] [a, b, c, d, e, f, k] w h rfl
theorem below_set7c {B g : Nat} {a w : World} {x0 x1 x2 x3 x4 x5 x6 : Value} (h : Below B a w) (hg : B ≤ g) (hB : B ≤ w.heap.size) : Below B a (((((((w.setCell ⟨g, 0, none⟩ x0).setCell ⟨g, 1, none⟩ x1).setCell ⟨g, 2, none⟩ x2).setCell ⟨g, 3, none⟩ x3).setCell ⟨g, 4, none⟩ x4).setCell ⟨g, 5, none⟩ x5).setCell ⟨g, 6, none⟩ x6) :=
  h.grown (setCells_grown g [x0, x1, x2, x3, x4, x5, x6] w 0) hB (fun j e => by cases e; exact hg)
set_option maxHeartbeats 4000000 in
set_option maxRecDepth 100000 in
theorem FindC_ok (v : Value) (l : List Spec) (id : Int) (w : World) (h : Specs w v l) :
    Calls Tryz.prog 102 #[v, .int .i64 id] w fun e w' => ∃ s : Spec, e = .returned (.tuple #[valS s, .bool (decide (id ∈ l.map Spec.id))]) ∧ Below w.heap.size w w' := by
  obtain ⟨A, c, rfl, _, _, hc⟩ := h.cells
  obtain ⟨W, hW, Hz, hbW, hltW, _⟩ := boxed w #[.int .i64 0, .int .i64 0, .int .i64 0, .int .i64 0, .int .i64 0, .int .i64 0, .int .i64 0] 31
  have hk : W.heap[w.heap.size]? = some (.cells [.int .i64 0, .int .i64 0, .int .i64 0, .int .i64 0, .int .i64 0, .int .i64 0, .int .i64 0].toArray 31 (0, 0)) := by rw [← hW]; exact heap_alloc_new _ _
  have Hk := Lib.hid hk; clear hk
  go_enter Tryz.func102, Tryz.ntmps102
  go_wp2_with fail
  clear hW
  go_loopw [6] (fun i wr => ∃ k : Nat, k ≤ l.length ∧ i = .int .i64 k ∧ Below W.heap.size W wr ∧ ∀ s ∈ l.take k, s.id ≠ id) (fun i _ => l.length - (intOf i).toNat)
  case atStart => exact ⟨0, Nat.zero_le _, rfl, Below.refl _ _, fun s hs => by simp at hs⟩
  case round =>
    obtain ⟨k, hk, rfl, hb, hno⟩ := hrel
    have HN := Lib.hid hno; clear hno
    have Hkr := Lib.hid (heap_below Hk.out hb hltW)
    have hbw := below_trans hbW hb
    by_cases hlt : k < l.length
    · obtain ⟨bo, o, rfl, hbb, hc⟩ := hc k hlt
      obtain ⟨x, hx⟩ := get_of_lt hlt
      obtain ⟨y0, y1, y2, y3, y4, y5, y6⟩ := hc wr hbw k x hx
      have Hx := Lib.hid hx
      have hlt1 : (k : Int) < (l.length : Int) := by omega
      clear hx hc
      cases hid : (x.id == id)
      · have hne : x.id ≠ id := by simpa using hid
        have Hne := Lib.hid hne; clear hne
        go_wp2_with fail
        refine ⟨?rel, ?measure⟩
        case rel => exact ⟨k + 1, by omega, by go_num, hb, fun s hs => by rw [take_snoc' Hx.out, List.mem_append, List.mem_singleton] at hs; rcases hs with hs | rfl; exact HN.out s hs; exact Hne.out⟩
        case measure => simp [intOf]; omega
      · have he : x.id = id := by simpa using hid
        have hin : decide (id ∈ l.map Spec.id) = true := by rw [decide_eq_true_eq, ← he]; exact List.mem_map_of_mem (f := Spec.id) (List.mem_of_getElem? Hx.out)
        have Hin := Lib.hid hin; clear hin he
        obtain ⟨⟨r0, r1, r2, r3, r4, r5, r6⟩, g0, g1, g2, g3, g4, g5, g6⟩ := cellsS Hkr.out
        go_wp2_with fail
        refine bodyPost_ret (results_cell_tmp_row rfl _ _ w.heap.size 31 #[.int .i64 x.id, .int .i64 x.obv, .int .i64 x.rev, .int .i64 x.os, .int .i64 x.rs, .int .i64 x.ax, .int .i64 x.wt] (0, 0) _ (by simp) (heap_set7c Hkr.out) Tryz.underlying31 rfl (by kernel_rfl)) rfl ⟨x, ?_, below_set7c hbw (Nat.le_refl _) hbw.size⟩
        rw [Hin.out]; rfl
    · have hin : decide (id ∈ l.map Spec.id) = false := by
        rw [decide_eq_false_iff_not]
        intro hm
        obtain ⟨s, hs, e⟩ := List.mem_map.1 hm
        exact HN.out s (by rw [List.take_of_length_le (by omega)]; exact hs) e
      have Hin := Lib.hid hin; clear hin hc
      obtain ⟨⟨r0, r1, r2, r3, r4, r5, r6⟩, g0, g1, g2, g3, g4, g5, g6⟩ := cellsS Hkr.out
      go_wp2_with fail
      refine bodyPost_ret (results_cell_tmp_row rfl _ _ w.heap.size 31 #[.int .i64 0, .int .i64 0, .int .i64 0, .int .i64 0, .int .i64 0, .int .i64 0, .int .i64 0] (0, 0) _ (by simp) (heap_set7c Hkr.out) Tryz.underlying31 rfl (by kernel_rfl)) rfl ⟨⟨0, 0, 0, 0, 0, 0, 0⟩, ?_, below_set7c hbw (Nat.le_refl _) hbw.size⟩
      rw [Hin.out]; rfl
set_option maxHeartbeats 1000000 in
theorem rValidS_ok (s : Spec) (w : World) : Calls Tryz.prog 101 #[.agg #[.int .i64 s.id, .int .i64 s.obv, .int .i64 s.rev, .int .i64 s.os, .int .i64 s.rs, .int .i64 s.ax, .int .i64 s.wt]] w fun e w' => e = .returned (.bool (specB s)) ∧ Below w.heap.size w w' := by
  obtain ⟨W, hW, HzW, hbW, hltW, hcW⟩ := boxed w #[.int .i64 s.id, .int .i64 s.obv, .int .i64 s.rev, .int .i64 s.os, .int .i64 s.rs, .int .i64 s.ax, .int .i64 s.wt] 31
  have c0 := hcW 0 _ rfl; have c1 := hcW 1 _ rfl; have c2 := hcW 2 _ rfl; have c3 := hcW 3 _ rfl; have c4 := hcW 4 _ rfl; have c5 := hcW 5 _ rfl; have c6 := hcW 6 _ rfl
  have HD := Lib.hid (Specimen_ok s W)
  clear hcW
  generalize specB s = r at HD ⊢
  go_enter Tryz.func101, Tryz.ntmps101
  go_wp2_with fail
  refine HD.out.mono ?_
  rintro e w1 ⟨rfl, hb1⟩
  go_wp2_with fail
  go_ret
  exact ⟨rfl, below_trans hbW hb1⟩
theorem sorted_ins {l S : List Spec} {s : Spec} (hl : SrtS l) (hn : s.id ∉ l.map Spec.id) (h : SortedOf (l ++ [s]) S) : S = insS l s := by
  refine srtS_uniq (List.pairwise_map.1 h.2.1) (insS_srt hl hn) fun x => ?_
  rw [h.1 x, insS_mem]
  simp
set_option maxHeartbeats 8000000 in
set_option maxRecDepth 100000 in
theorem REnter_ok (T : List Nat) (p : Nat) (l : List Spec) (D : List Dec) (W : List Mrk) (s : Spec) (w : World) (h : RCorAt w T p l D W) :
    Calls Tryz.prog 50 #[.pointer (some ⟨p, 0, none⟩), .agg #[.int .i64 s.id, .int .i64 s.obv, .int .i64 s.rev, .int .i64 s.os, .int .i64 s.rs, .int .i64 s.ax, .int .i64 s.wt]] w fun e w' =>
      e = .returned (.int .i64 (enterE l s)) ∧ ∃ T', RCorAt w' T' p (enterL l s) D W ∧ Touch w w' T ∧ ∀ b ∈ T', b ∈ T ∨ w.heap.size ≤ b := by
  obtain ⟨U, q, vl, hR⟩ := h
  have HN : Hid (∀ w1, Below w.heap.size w w1 → enterE l s ≠ 0 → ∃ T', RCorAt w1 T' p (enterL l s) D W ∧ Touch w w1 T ∧ ∀ b ∈ T', b ∈ T ∨ w.heap.size ≤ b) := Lib.hid (fun w1 hb he => ⟨T, by rw [enterL_no he]; exact ⟨U, q, vl, hR.below hb⟩, touch_below hb T, fun b hb => .inl hb⟩)
  obtain ⟨X, hX, HzX, hbX, hltX, _⟩ := boxed w #[.int .i64 (s).id, .int .i64 (s).obv, .int .i64 (s).rev, .int .i64 (s).os, .int .i64 (s).rs, .int .i64 (s).ax, .int .i64 (s).wt] 31
  have hkX : (X).heap[(w).heap.size]? = some (.cells [.int .i64 (s).id, .int .i64 (s).obv, .int .i64 (s).rev, .int .i64 (s).os, .int .i64 (s).rs, .int .i64 (s).ax, .int .i64 (s).wt].toArray 31 (0, 0)) := by rw [← hX]; exact heap_alloc_new _ _
  have HX := Lib.hid (hR.below hbX)
  have hV := rValidS_ok s X
  have Hk := Lib.hid hkX
  have Hls := Lib.hid hR.ok.lis
  obtain ⟨V, hVd⟩ : ∃ z, specB s = z := ⟨_, rfl⟩
  rw [hVd] at hV
  obtain ⟨⟨c0, c1, c2, c3, c4, c5, c6⟩, _⟩ := cellsS hkX
  have HV := Lib.hid hV; have HVd := Lib.hid hVd; have HR := Lib.hid hR
  clear hkX hV hVd hR
  cases V
  · have HE : Hid (enterE l s = 1) := Lib.hid (by rw [enterE, if_neg (by rw [HVd.out]; simp)])
    go_enter Tryz.func50, Tryz.ntmps50
    go_wp2_with fail
    refine HV.out.mono ?_
    rintro e w1 ⟨rfl, hb1⟩
    go_wp2_with fail
    go_ret
    exact ⟨ret_i64 HE.out.symm, HN.out _ (below_trans hbX hb1) (by rw [HE.out]; decide)⟩
  go_enter Tryz.func50, Tryz.ntmps50
  go_wp2_with fail
  refine HV.out.mono ?_
  rintro e w1 ⟨rfl, hb1⟩
  have hR1 := HX.out.below hb1
  have hk1 := heap_below Hk.out hb1 (heap_lt Hk.out)
  clear c0 c1 c2 c3 c4 c5 c6 HX HV
  obtain ⟨⟨c0, c1, c2, c3, c4, c5, c6⟩, _⟩ := cellsS hk1
  obtain ⟨⟨r0, r1⟩, _⟩ := cellsM hR1.row
  obtain ⟨Tb, hT⟩ : ∃ z, decide (s.id ∈ l.map Spec.id) = z := ⟨_, rfl⟩
  have HFd := Lib.hid fun (w9 : World) (hb : Below w1.heap.size w1 w9) => (show Calls Tryz.prog 102 #[vl, .int .i64 s.id] w9 fun e w' => ∃ x : Spec, e = .returned (.tuple #[valS x, .bool Tb]) ∧ Below w9.heap.size w9 w' by rw [← hT]; exact FindC_ok vl l s.id w9 (hR1.spc.below hb))
  obtain ⟨A, c, hvl, hlc, hcm, _⟩ := (hR1.spc).cells
  have HT := Lib.hid hT
  have hw1 := below_trans hbX hb1
  have HR1 := Lib.hid hR1; have Hk1 := Lib.hid hk1
  clear hT hR1 hk1
  subst hvl
  go_upto_region 3 with fail
  go_cut [6] (fun bv wc => bv = .bool Tb ∧ Below w1.heap.size w1 wc)
  case first =>
    have hba : Below (w1).heap.size (w1) (w1).drew := (Below.refl _ _).drew
    obtain ⟨wa, hwa⟩ : ∃ W, (w1).drew = W := ⟨_, rfl⟩
    rw [hwa] at hba
    have HSt := Lib.hid fun (w9 : World) (hb : Below wa.heap.size wa w9) => (show (fun w' : World => Below wa.heap.size wa w' ∧ w'.cell? ⟨p, 0, none⟩ = some (.slice A l.length c) ∧ w'.cell? ⟨w.heap.size, 0, none⟩ = some (.int .i64 s.id)) w9 from ⟨hb, cell_later hb (cell_later hba r0), cell_later hb (cell_later hba c0)⟩)
    have hHeld := HSt.out wa (Below.refl _ _)
    refine wp_region_S 12 (fun w' : World => Below wa.heap.size wa w' ∧ w'.cell? ⟨p, 0, none⟩ = some (.slice A l.length c) ∧ w'.cell? ⟨w.heap.size, 0, none⟩ = some (.int .i64 s.id)) (by kernel_rfl) (by decide) ?_
    rw [hwa]
    clear hwa
    refine wpAnyS_takeD 0 (some 15) (.pointer (some ⟨p, 0, none⟩)) (by rfl) (by rfl) (by kernel_rfl) (by exact fun _ _ _ h => h) (by rfl) (fun w' hS => by go_simp) hHeld ?_
    simp only [Act.put, List.setIfInBounds_toArray, List.set_cons_succ, List.set_cons_zero]
    refine wpAnyS_takeD 1 (some 16) (.pointer (some ⟨p, 0, none⟩)) (by rfl) (by rfl) (by kernel_rfl) (by exact fun _ _ _ h => h) (by rfl) (fun w' hS => by go_simp) hHeld ?_
    simp only [Act.put, List.setIfInBounds_toArray, List.set_cons_succ, List.set_cons_zero]
    refine wpAnyS_takeD 2 (some 17) (.pointer (some ⟨p, 0, none⟩)) (by rfl) (by rfl) (by kernel_rfl) (by exact fun _ _ _ h => h) (by rfl) (fun w' hS => by go_simp) hHeld ?_
    simp only [Act.put, List.setIfInBounds_toArray, List.set_cons_succ, List.set_cons_zero]
    refine wpAnyS_takeD 3 (some 18) (.slice A l.length c) (by rfl) (by rfl) (by kernel_rfl) (by exact fun _ _ _ h => h) (by rfl) (fun w' hS => by (obtain ⟨_, x0, _⟩ := hS; go_simp)) hHeld ?_
    simp only [Act.put, List.setIfInBounds_toArray, List.set_cons_succ, List.set_cons_zero]
    refine wpAnyS_takeD 4 (some 19) (.pointer (some ⟨w.heap.size, 0, none⟩)) (by rfl) (by rfl) (by kernel_rfl) (by exact fun _ _ _ h => h) (by rfl) (fun w' hS => by go_simp) hHeld ?_
    simp only [Act.put, List.setIfInBounds_toArray, List.set_cons_succ, List.set_cons_zero]
    refine wpAnyS_takeD 5 (some 20) (.int .i64 s.id) (by rfl) (by rfl) (by kernel_rfl) (by exact fun _ _ _ h => h) (by rfl) (fun w' hS => by (obtain ⟨_, _, x0⟩ := hS; go_simp)) hHeld ?_
    simp only [Act.put, List.setIfInBounds_toArray, List.set_cons_succ, List.set_cons_zero]
    clear hHeld
    refine wpAnyS_two 6 10 (by kernel_rfl) (by rfl) (by rfl) (by decide) (by decide) (fun K hK => ?_) (fun K hK => ?_)
    · have HK := Lib.hid hK
      clear hK
      rw [if_pos (by rfl)]
      go_simp
      refine (HFd.out wa hba).mono ?_
      rintro e w5 ⟨x, rfl, hb5⟩
      have hHeld := HSt.out _ hb5
      refine HK.out _ _ (HSt.out _ hb5) ?_
      clear HK
      refine wpAnyS_takeD 7 (some 14) (.tuple #[valS x, .bool Tb]) (by rfl) (by rfl) (by kernel_rfl) (by exact fun _ _ _ h => h) (by rfl) (fun w' hS => by go_simp) hHeld ?_
      simp only [Act.put, List.setIfInBounds_toArray, List.set_cons_succ, List.set_cons_zero]
      refine wpAnyS_takeD 8 (some 22) (valS x) (by rfl) (by rfl) (by kernel_rfl) (by exact fun _ _ _ h => h) (by rfl) (fun w' hS => by go_simp) hHeld ?_
      simp only [Act.put, List.setIfInBounds_toArray, List.set_cons_succ, List.set_cons_zero]
      refine wpAnyS_takeD 9 (some 23) (.bool Tb) (by rfl) (by rfl) (by kernel_rfl) (by exact fun _ _ _ h => h) (by rfl) (fun w' hS => by go_simp) hHeld ?_
      simp only [Act.put, List.setIfInBounds_toArray, List.set_cons_succ, List.set_cons_zero]
      clear hHeld
      refine wpAnyS_one 10 (by kernel_rfl) (by rfl) (by decide) (fun K hK => ?_)
      have HK := Lib.hid hK; clear hK
      rw [if_pos (by rfl)]
      go_simp
      obtain ⟨w6, hw6⟩ : ∃ z, World.alloc w5 (.cells #[.int .i64 0, .int .i64 0, .int .i64 0, .int .i64 0, .int .i64 0, .int .i64 0, .int .i64 0] 31) = z := ⟨_, rfl⟩
      have sw6 : Below (w5).heap.size w5 w6 := by rw [← hw6]; exact (Below.refl _ _).alloc (Nat.le_refl _) _
      have bw6 : Below wa.heap.size wa w6 := below_trans hb5 sw6
      have rw6 : w6.heap[(w5).heap.size]? = some (.cells [.int .i64 0, .int .i64 0, .int .i64 0, .int .i64 0, .int .i64 0, .int .i64 0, .int .i64 0].toArray 31 (0, 0)) := by rw [← hw6]; exact heap_alloc_new _ _
      rw [hw6]
      refine HK.out _ _ (HSt.out _ bw6) ?_
      clear HK hw6
      refine wpAnyS_one 11 (by kernel_rfl) (by rfl) (by decide) (fun K hK => ?_)
      have HK := Lib.hid hK; clear hK
      rw [if_pos (by rfl)]
      obtain ⟨⟨z0, z1, z2, z3, z4, z5, z6⟩, f0, f1, f2, f3, f4, f5, f6⟩ := cellsS rw6
      have hgz : wa.heap.size ≤ (w5).heap.size := hb5.size
      have HBF := Lib.hid ((bw6).grown (setCells_grown ((w5).heap.size) [.int .i64 x.id, .int .i64 x.obv, .int .i64 x.rev, .int .i64 x.os, .int .i64 x.rs, .int .i64 x.ax, .int .i64 x.wt] w6 0) (bw6).size (fun j e => by cases e; exact hgz))
      go_simp
      refine HK.out _ _ (HSt.out _ HBF.out) ?_
      clear HK
      refine (show tailOf _ _ _ _ _ _ _ _ from ⟨by kernel_rfl, ?_⟩)
      simp only [List.drop_succ_cons, List.drop_zero]
      go_wp2_with fail
      go_meet
      exact ⟨rfl, below_trans hba HBF.out⟩
    · have HK := Lib.hid hK
      clear hK
      rw [if_pos (by rfl)]
      go_simp
      obtain ⟨w6, hw6⟩ : ∃ z, World.alloc wa (.cells #[.int .i64 0, .int .i64 0, .int .i64 0, .int .i64 0, .int .i64 0, .int .i64 0, .int .i64 0] 31) = z := ⟨_, rfl⟩
      have sw6 : Below (wa).heap.size wa w6 := by rw [← hw6]; exact (Below.refl _ _).alloc (Nat.le_refl _) _
      have bw6 : Below wa.heap.size wa w6 := below_trans (Below.refl wa.heap.size wa) sw6
      have rw6 : w6.heap[(wa).heap.size]? = some (.cells [.int .i64 0, .int .i64 0, .int .i64 0, .int .i64 0, .int .i64 0, .int .i64 0, .int .i64 0].toArray 31 (0, 0)) := by rw [← hw6]; exact heap_alloc_new _ _
      rw [hw6]
      refine HK.out _ _ (HSt.out _ bw6) ?_
      clear HK hw6
      refine wpAnyS_one 6 (by kernel_rfl) (by rfl) (by decide) (fun K hK => ?_)
      have HK := Lib.hid hK; clear hK
      rw [if_pos (by rfl)]
      go_simp
      refine (HFd.out w6 (below_trans hba bw6)).mono ?_
      rintro e w7 ⟨x, rfl, hb7⟩
      have bw7 := below_trans bw6 hb7
      have hHeld := HSt.out _ bw7
      refine HK.out _ _ (HSt.out _ bw7) ?_
      clear HK
      refine wpAnyS_takeD 7 (some 14) (.tuple #[valS x, .bool Tb]) (by rfl) (by rfl) (by kernel_rfl) (by exact fun _ _ _ h => h) (by rfl) (fun w' hS => by go_simp) hHeld ?_
      simp only [Act.put, List.setIfInBounds_toArray, List.set_cons_succ, List.set_cons_zero]
      refine wpAnyS_takeD 8 (some 22) (valS x) (by rfl) (by rfl) (by kernel_rfl) (by exact fun _ _ _ h => h) (by rfl) (fun w' hS => by go_simp) hHeld ?_
      simp only [Act.put, List.setIfInBounds_toArray, List.set_cons_succ, List.set_cons_zero]
      refine wpAnyS_takeD 9 (some 23) (.bool Tb) (by rfl) (by rfl) (by kernel_rfl) (by exact fun _ _ _ h => h) (by rfl) (fun w' hS => by go_simp) hHeld ?_
      simp only [Act.put, List.setIfInBounds_toArray, List.set_cons_succ, List.set_cons_zero]
      clear hHeld
      have rw7 := heap_below rw6 hb7 (heap_lt rw6)
      refine wpAnyS_one 11 (by kernel_rfl) (by rfl) (by decide) (fun K hK => ?_)
      have HK := Lib.hid hK; clear hK
      rw [if_pos (by rfl)]
      obtain ⟨⟨z0, z1, z2, z3, z4, z5, z6⟩, f0, f1, f2, f3, f4, f5, f6⟩ := cellsS rw7
      have hgz : wa.heap.size ≤ (wa).heap.size := (Nat.le_refl _)
      have HBF := Lib.hid ((bw7).grown (setCells_grown ((wa).heap.size) [.int .i64 x.id, .int .i64 x.obv, .int .i64 x.rev, .int .i64 x.os, .int .i64 x.rs, .int .i64 x.ax, .int .i64 x.wt] w7 0) (bw7).size (fun j e => by cases e; exact hgz))
      go_simp
      refine HK.out _ _ (HSt.out _ HBF.out) ?_
      clear HK
      refine (show tailOf _ _ _ _ _ _ _ _ from ⟨by kernel_rfl, ?_⟩)
      simp only [List.drop_succ_cons, List.drop_zero]
      go_wp2_with fail
      go_meet
      exact ⟨rfl, below_trans hba HBF.out⟩
  case rest =>
    obtain ⟨rfl, hbc⟩ := hcut
    have hRc := HR1.out.below hbc
    have hkc := heap_below Hk1.out hbc (heap_lt Hk1.out)
    have hwc := below_trans hw1 hbc
    obtain ⟨⟨c0, c1, c2, c3, c4, c5, c6⟩, _⟩ := cellsS hkc
    obtain ⟨⟨r0, r1⟩, _⟩ := cellsM hRc.row
    have HRc := Lib.hid hRc; have Hkc := Lib.hid hkc
    clear hRc hkc HR1 Hk1 HFd
    cases Tb
    case true =>
      have hin : s.id ∈ l.map Spec.id := by simpa using HT.out
      have HE : Hid (enterE l s = 8) := Lib.hid (by rw [enterE, if_pos HVd.out, if_pos hin])
      clear hin
      go_wp2_with fail
      go_ret
      exact ⟨ret_i64 HE.out.symm, HN.out _ hwc (by rw [HE.out]; decide)⟩
    have hout : s.id ∉ l.map Spec.id := by simpa using HT.out
    by_cases hf : 64 ≤ l.length
    · have HE : Hid (enterE l s = 6) := Lib.hid (by rw [enterE, if_pos HVd.out, if_neg hout, if_pos hf])
      have t : decide ((64 : Int) ≤ (l.length : Int)) = true := by simp; omega
      clear hout
      go_wp2_with fail
      go_ret
      exact ⟨ret_i64 HE.out.symm, HN.out _ hwc (by rw [HE.out]; decide)⟩
    have HE : Hid (enterE l s = 0) := Lib.hid (by rw [enterE, if_pos HVd.out, if_neg hout, if_neg hf])
    have t : decide ((64 : Int) ≤ (l.length : Int)) = false := by simp; omega
    have Hout := Lib.hid hout
    have Hchk := Lib.hid (Hls.out.check_snoc HE.out)
    obtain ⟨iS, hiS, hzS, hkS, hbS⟩ := info_parts infoS
    have hll := Hls.out.len
    clear hout hf
    go_wp2_with fail
    have hba : Below (wc).heap.size (wc) (wc).drew := (Below.refl _ _).drew
    obtain ⟨wa, hwa⟩ : ∃ W, (wc).drew = W := ⟨_, rfl⟩
    rw [hwa] at hba
    have HSt := Lib.hid fun (w9 : World) (hb : Below wa.heap.size wa w9) => (show (fun w' : World => Below wa.heap.size wa w' ∧ w'.cell? ⟨p, 0, none⟩ = some (.slice A l.length c) ∧ w'.cell? ⟨w.heap.size, 0, none⟩ = some (.int .i64 s.id) ∧ w'.cell? ⟨w.heap.size, 1, none⟩ = some (.int .i64 s.obv) ∧ w'.cell? ⟨w.heap.size, 2, none⟩ = some (.int .i64 s.rev) ∧ w'.cell? ⟨w.heap.size, 3, none⟩ = some (.int .i64 s.os) ∧ w'.cell? ⟨w.heap.size, 4, none⟩ = some (.int .i64 s.rs) ∧ w'.cell? ⟨w.heap.size, 5, none⟩ = some (.int .i64 s.ax) ∧ w'.cell? ⟨w.heap.size, 6, none⟩ = some (.int .i64 s.wt)) w9 from ⟨hb, cell_later hb (cell_later hba r0), cell_later hb (cell_later hba c0), cell_later hb (cell_later hba c1), cell_later hb (cell_later hba c2), cell_later hb (cell_later hba c3), cell_later hb (cell_later hba c4), cell_later hb (cell_later hba c5), cell_later hb (cell_later hba c6)⟩)
    have hHeld := HSt.out wa (Below.refl _ _)
    refine wp_region_F 16 17 (fun w' : World => Below wa.heap.size wa w' ∧ w'.cell? ⟨p, 0, none⟩ = some (.slice A l.length c) ∧ w'.cell? ⟨w.heap.size, 0, none⟩ = some (.int .i64 s.id) ∧ w'.cell? ⟨w.heap.size, 1, none⟩ = some (.int .i64 s.obv) ∧ w'.cell? ⟨w.heap.size, 2, none⟩ = some (.int .i64 s.rev) ∧ w'.cell? ⟨w.heap.size, 3, none⟩ = some (.int .i64 s.os) ∧ w'.cell? ⟨w.heap.size, 4, none⟩ = some (.int .i64 s.rs) ∧ w'.cell? ⟨w.heap.size, 5, none⟩ = some (.int .i64 s.ax) ∧ w'.cell? ⟨w.heap.size, 6, none⟩ = some (.int .i64 s.wt)) (by rfl) (by kernel_rfl) ?_
    rw [hwa]
    clear hwa
    refine wpAnyF_take 0 (some 32) (.pointer (some ⟨p, 0, none⟩)) (by rfl) (by rfl) (by kernel_rfl) (by kernel_rfl) (by exact fun _ _ _ h => h) (by rfl) (fun w' hS => by go_simp) hHeld ?_
    simp only [Act.put, List.setIfInBounds_toArray, List.set_cons_succ, List.set_cons_zero]
    refine wpAnyF_take 2 (some 34) (.pointer (some ⟨p, 0, none⟩)) (by rfl) (by rfl) (by kernel_rfl) (by kernel_rfl) (by exact fun _ _ _ h => h) (by rfl) (fun w' hS => by go_simp) hHeld ?_
    simp only [Act.put, List.setIfInBounds_toArray, List.set_cons_succ, List.set_cons_zero]
    refine wpAnyF_take 3 (some 35) (.pointer (some ⟨p, 0, none⟩)) (by rfl) (by rfl) (by kernel_rfl) (by kernel_rfl) (by exact fun _ _ _ h => h) (by rfl) (fun w' hS => by go_simp) hHeld ?_
    simp only [Act.put, List.setIfInBounds_toArray, List.set_cons_succ, List.set_cons_zero]
    refine wpAnyF_take 4 (some 36) (.pointer (some ⟨p, 0, none⟩)) (by rfl) (by rfl) (by kernel_rfl) (by kernel_rfl) (by exact fun _ _ _ h => h) (by rfl) (fun w' hS => by go_simp) hHeld ?_
    simp only [Act.put, List.setIfInBounds_toArray, List.set_cons_succ, List.set_cons_zero]
    refine wpAnyF_take 5 (some 37) (.slice A l.length c) (by rfl) (by rfl) (by kernel_rfl) (by kernel_rfl) (by exact fun _ _ _ h => h) (by rfl) (fun w' hS => by (obtain ⟨_, x0, _⟩ := hS; go_simp)) hHeld ?_
    simp only [Act.put, List.setIfInBounds_toArray, List.set_cons_succ, List.set_cons_zero]
    refine wpAnyF_take 7 (some 39) (.agg #[.int .i64 s.id, .int .i64 s.obv, .int .i64 s.rev, .int .i64 s.os, .int .i64 s.rs, .int .i64 s.ax, .int .i64 s.wt]) (by rfl) (by rfl) (by kernel_rfl) (by kernel_rfl) (by exact fun _ _ _ h => h) (by rfl) (fun w' hS => by (obtain ⟨_, _, x0, x1, x2, x3, x4, x5, x6⟩ := hS; go_simp)) hHeld ?_
    simp only [Act.put, List.setIfInBounds_toArray, List.set_cons_succ, List.set_cons_zero]
    clear hHeld
    have ba := Below.refl wa.heap.size wa
    have HslL := Lib.hid (SlOf.sl' (HRc.out.spc.below hba))
    refine wpAnyF_two 1 8 (by kernel_rfl) (by rfl) (by rfl) (fun K hK => ?_) (fun K hK => ?_)
    · have HK := Lib.hid hK
      clear hK
      rw [if_pos (by rfl)]
      go_simp
      obtain ⟨w2, hw2⟩ : ∃ z, World.alloc wa (.cells #[] 31) = z := ⟨_, rfl⟩
      have sw2 : Below (wa).heap.size wa w2 := by rw [← hw2]; exact (Below.refl _ _).alloc (Nat.le_refl _) _
      have b2 : Below wa.heap.size wa w2 := below_trans ba sw2
      have k0 : (w2).heap[(wa).heap.size]? = some (.cells #[] 31 (0, 0)) := by rw [← hw2]; exact heap_alloc_new _ _
      rw [hw2]
      refine HK.out _ _ (.inr (HSt.out _ b2)) ?_
      clear HK hw2
      refine wpAnyF_two 6 8 (by kernel_rfl) (by rfl) (by rfl) (fun K hK => ?_) (fun K hK => ?_)
      · have HK := Lib.hid hK
        clear hK
        rw [if_pos (by rfl)]
        refine wp_append_sl (.tmp 33) (.tmp 37) _ rfl iS _ 56 Tryz.underlying51 hiS hzS hkS hbS rfl (by decide) oneS rfl (own_empty (B := wa.heap.size) k0 (Nat.le_refl _)) _ _ _ l rfl rfl (HslL.out.below b2) (by simp; omega) (by simp; omega) (b2).size ?_
        intro v0 w3 ho0 hg0 ha0
        rw [List.nil_append] at ho0
        have b3 := (b2).grown hg0 (b2).size (fun j e => by have e' : some (wa).heap.size = some j := e; cases e'; exact (Nat.le_refl _))
        obtain ⟨A0, c0', e0', _⟩ := id ho0.slOf
        subst e0'
        refine HK.out _ _ (.inr (HSt.out _ b3)) ?_
        clear HK
        refine wpAnyF_one 8 (by kernel_rfl) (by rfl) (fun K hK => ?_)
        have HK := Lib.hid hK; clear hK
        rw [if_pos (by rfl)]
        go_simp
        obtain ⟨w4, hw4⟩ : ∃ z, World.alloc w3 (.cells #[.int .i64 s.id, .int .i64 s.obv, .int .i64 s.rev, .int .i64 s.os, .int .i64 s.rs, .int .i64 s.ax, .int .i64 s.wt] 31) = z := ⟨_, rfl⟩
        have sw4 : Below (w3).heap.size w3 w4 := by rw [← hw4]; exact (Below.refl _ _).alloc (Nat.le_refl _) _
        have b4 : Below wa.heap.size wa w4 := below_trans b3 sw4
        have k1 : (w4).heap[(w3).heap.size]? = some (.cells (encS s).toArray 31 (0, 0)) := by rw [← hw4]; exact heap_alloc_new _ _
        rw [hw4]
        refine HK.out _ _ (.inr (HSt.out _ b4)) ?_
        clear HK hw4
        have ho4 := ho0.below sw4
        refine wpAnyF_one 9 (by kernel_rfl) (by rfl) (fun K hK => ?_)
        have HK := Lib.hid hK; clear hK
        rw [if_pos (by rfl)]
        refine wp_append_sl (.tmp 38) (.tmp 40) _ rfl iS _ 56 Tryz.underlying51 hiS hzS hkS hbS rfl (by decide) oneS rfl ho4 _ _ _ [s] rfl rfl (sl_one rfl k1) (by simp; omega) (by simp; omega) (b4).size ?_
        intro v1 w5 ho1 hg1 ha1
        have b5 := (b4).grown hg1 (b4).size (fun j e => (ho4.lt j e).1)
        obtain ⟨A1, c1', e1', _⟩ := id ho1.slOf
        subst e1'
        refine HK.out _ _ (.inr (HSt.out _ b5)) ?_
        clear HK
        have HSo := Lib.hid (SortO09_ok _ (l ++ [s]) w5 ho1.slOf Hchk.out)
        refine wpAnyF_one 10 (by kernel_rfl) (by rfl) (fun K hK => ?_)
        have HK := Lib.hid hK; clear hK
        rw [if_pos (by rfl)]
        go_simp
        have hlls : (l ++ [s]).length = l.length + 1 := by simp
        rw [hlls] at HSo
        refine HSo.out.mono ?_
        rintro e w7 ⟨u, SS, rfl, hou, hso, hb7⟩
        have b7 := below_trans b5 hb7
        have HeS := Lib.hid (sorted_ins Hls.out.srt Hout.out hso)
        have Hou := Lib.hid hou
        obtain ⟨A7, c7, e7, _⟩ := id hou.slOf
        obtain ⟨n7, hn7⟩ : ∃ z, SS.length = z := ⟨_, rfl⟩
        rw [hn7] at e7
        clear hou hso hn7
        subst e7
        have hHeld := HSt.out _ b7
        refine HK.out _ _ (.inr (HSt.out _ b7)) ?_
        clear HK
        refine wpAnyF_take 11 (some 31) (.tuple #[.slice A7 n7 c7, .int .i64 0]) (by rfl) (by rfl) (by kernel_rfl) (by kernel_rfl) (by exact fun _ _ _ h => h) (by rfl) (fun w' hS => by go_simp) hHeld ?_
        simp only [Act.put, List.setIfInBounds_toArray, List.set_cons_succ, List.set_cons_zero]
        refine wpAnyF_take 12 (some 43) (.slice A7 n7 c7) (by rfl) (by rfl) (by kernel_rfl) (by kernel_rfl) (by exact fun _ _ _ h => h) (by rfl) (fun w' hS => by go_simp) hHeld ?_
        simp only [Act.put, List.setIfInBounds_toArray, List.set_cons_succ, List.set_cons_zero]
        refine wpAnyF_takeP 13 (some 44) (.int .i64 0) (by rfl) (by rfl) (by kernel_rfl) (by exact fun _ _ _ h => h) (by rfl) (fun w' => by go_simp) (.inr hHeld) ?_
        simp only [Act.put, List.setIfInBounds_toArray, List.set_cons_succ, List.set_cons_zero]
        refine wpAnyF_takeP 14 (some 45) (.pointer (some ⟨p, 0, none⟩)) (by rfl) (by rfl) (by kernel_rfl) (by exact fun _ _ _ h => h) (by rfl) (fun w' => by go_simp) (.inr hHeld) ?_
        simp only [Act.put, List.setIfInBounds_toArray, List.set_cons_succ, List.set_cons_zero]
        refine wpAnyF_take 15 (some 46) (.pointer (some ⟨p, 0, none⟩)) (by rfl) (by rfl) (by kernel_rfl) (by kernel_rfl) (by exact fun _ _ _ h => h) (by rfl) (fun w' hS => by go_simp) hHeld ?_
        simp only [Act.put, List.setIfInBounds_toArray, List.set_cons_succ, List.set_cons_zero]
        clear hHeld
        have hw7 := below_trans hwc (below_trans hba b7)
        have q7 := heap_cell (i := 0) (HR.out.below hw7).row
        have f7 : w7.frozen? ⟨p, 0, none⟩ = false := heap_free (HR.out.below hw7).row
        refine wpAnyF_one 16 (by kernel_rfl) (by rfl) (fun K hK => ?_)
        have HK := Lib.hid hK; clear hK
        rw [if_pos (by rfl)]
        go_simp
        refine HK.out _ _ (.inl (by rfl)) ?_
        clear HK
        refine (show wpAnyF _ _ _ _ _ _ 0 _ _ _ from ⟨by kernel_rfl, ?_⟩)
        go_wp2_with fail
        go_ret
        have hzz := hwc.size; have hzb := hba.size; have hz5 := (b5).size
        obtain ⟨k1, k2, k3⟩ := HR.out.list (l' := enterL l s) hw7 (by rw [enterL, if_pos HE.out, ← HeS.out]; exact Hou.out.slOf) (fun j hj => ⟨by have := (Hou.out.lt j hj).1; omega, (Hou.out.lt j hj).2⟩) (Hls.out.enter s)
        exact ⟨ret_i64 HE.out.symm, _, k1, k2, k3⟩
      · have HK := Lib.hid hK
        clear hK
        rw [if_pos (by rfl)]
        go_simp
        obtain ⟨w3, hw3⟩ : ∃ z, World.alloc w2 (.cells #[.int .i64 s.id, .int .i64 s.obv, .int .i64 s.rev, .int .i64 s.os, .int .i64 s.rs, .int .i64 s.ax, .int .i64 s.wt] 31) = z := ⟨_, rfl⟩
        have sw3 : Below (w2).heap.size w2 w3 := by rw [← hw3]; exact (Below.refl _ _).alloc (Nat.le_refl _) _
        have b3 : Below wa.heap.size wa w3 := below_trans b2 sw3
        have k1 : (w3).heap[(w2).heap.size]? = some (.cells (encS s).toArray 31 (0, 0)) := by rw [← hw3]; exact heap_alloc_new _ _
        rw [hw3]
        refine HK.out _ _ (.inr (HSt.out _ b3)) ?_
        clear HK hw3
        have k0' := heap_below k0 sw3 (heap_lt k0)
        refine wpAnyF_one 6 (by kernel_rfl) (by rfl) (fun K hK => ?_)
        have HK := Lib.hid hK; clear hK
        rw [if_pos (by rfl)]
        refine wp_append_sl (.tmp 33) (.tmp 37) _ rfl iS _ 56 Tryz.underlying51 hiS hzS hkS hbS rfl (by decide) oneS rfl (own_empty (B := wa.heap.size) k0' (Nat.le_refl _)) _ _ _ l rfl rfl (HslL.out.below b3) (by simp; omega) (by simp; omega) (b3).size ?_
        intro v0 w4 ho0 hg0 ha0
        rw [List.nil_append] at ho0
        have b4 := (b3).grown hg0 (b3).size (fun j e => by have e' : some (wa).heap.size = some j := e; cases e'; exact (Nat.le_refl _))
        obtain ⟨A0, c0', e0', _⟩ := id ho0.slOf
        subst e0'
        refine HK.out _ _ (.inr (HSt.out _ b4)) ?_
        clear HK
        have hk0l := heap_lt k0
        have k1' := (hg0.block w2.heap.size (heap_lt k1) (fun e => by have e' : w2.heap.size = wa.heap.size := Option.some.inj e; omega)).trans k1
        have ho4 := ho0
        refine wpAnyF_one 9 (by kernel_rfl) (by rfl) (fun K hK => ?_)
        have HK := Lib.hid hK; clear hK
        rw [if_pos (by rfl)]
        refine wp_append_sl (.tmp 38) (.tmp 40) _ rfl iS _ 56 Tryz.underlying51 hiS hzS hkS hbS rfl (by decide) oneS rfl ho4 _ _ _ [s] rfl rfl (sl_one rfl k1') (by simp; omega) (by simp; omega) (b4).size ?_
        intro v1 w5 ho1 hg1 ha1
        have b5 := (b4).grown hg1 (b4).size (fun j e => (ho4.lt j e).1)
        obtain ⟨A1, c1', e1', _⟩ := id ho1.slOf
        subst e1'
        refine HK.out _ _ (.inr (HSt.out _ b5)) ?_
        clear HK
        have HSo := Lib.hid (SortO09_ok _ (l ++ [s]) w5 ho1.slOf Hchk.out)
        refine wpAnyF_one 10 (by kernel_rfl) (by rfl) (fun K hK => ?_)
        have HK := Lib.hid hK; clear hK
        rw [if_pos (by rfl)]
        go_simp
        have hlls : (l ++ [s]).length = l.length + 1 := by simp
        rw [hlls] at HSo
        refine HSo.out.mono ?_
        rintro e w7 ⟨u, SS, rfl, hou, hso, hb7⟩
        have b7 := below_trans b5 hb7
        have HeS := Lib.hid (sorted_ins Hls.out.srt Hout.out hso)
        have Hou := Lib.hid hou
        obtain ⟨A7, c7, e7, _⟩ := id hou.slOf
        obtain ⟨n7, hn7⟩ : ∃ z, SS.length = z := ⟨_, rfl⟩
        rw [hn7] at e7
        clear hou hso hn7
        subst e7
        have hHeld := HSt.out _ b7
        refine HK.out _ _ (.inr (HSt.out _ b7)) ?_
        clear HK
        refine wpAnyF_take 11 (some 31) (.tuple #[.slice A7 n7 c7, .int .i64 0]) (by rfl) (by rfl) (by kernel_rfl) (by kernel_rfl) (by exact fun _ _ _ h => h) (by rfl) (fun w' hS => by go_simp) hHeld ?_
        simp only [Act.put, List.setIfInBounds_toArray, List.set_cons_succ, List.set_cons_zero]
        refine wpAnyF_take 12 (some 43) (.slice A7 n7 c7) (by rfl) (by rfl) (by kernel_rfl) (by kernel_rfl) (by exact fun _ _ _ h => h) (by rfl) (fun w' hS => by go_simp) hHeld ?_
        simp only [Act.put, List.setIfInBounds_toArray, List.set_cons_succ, List.set_cons_zero]
        refine wpAnyF_takeP 13 (some 44) (.int .i64 0) (by rfl) (by rfl) (by kernel_rfl) (by exact fun _ _ _ h => h) (by rfl) (fun w' => by go_simp) (.inr hHeld) ?_
        simp only [Act.put, List.setIfInBounds_toArray, List.set_cons_succ, List.set_cons_zero]
        refine wpAnyF_takeP 14 (some 45) (.pointer (some ⟨p, 0, none⟩)) (by rfl) (by rfl) (by kernel_rfl) (by exact fun _ _ _ h => h) (by rfl) (fun w' => by go_simp) (.inr hHeld) ?_
        simp only [Act.put, List.setIfInBounds_toArray, List.set_cons_succ, List.set_cons_zero]
        refine wpAnyF_take 15 (some 46) (.pointer (some ⟨p, 0, none⟩)) (by rfl) (by rfl) (by kernel_rfl) (by kernel_rfl) (by exact fun _ _ _ h => h) (by rfl) (fun w' hS => by go_simp) hHeld ?_
        simp only [Act.put, List.setIfInBounds_toArray, List.set_cons_succ, List.set_cons_zero]
        clear hHeld
        have hw7 := below_trans hwc (below_trans hba b7)
        have q7 := heap_cell (i := 0) (HR.out.below hw7).row
        have f7 : w7.frozen? ⟨p, 0, none⟩ = false := heap_free (HR.out.below hw7).row
        refine wpAnyF_one 16 (by kernel_rfl) (by rfl) (fun K hK => ?_)
        have HK := Lib.hid hK; clear hK
        rw [if_pos (by rfl)]
        go_simp
        refine HK.out _ _ (.inl (by rfl)) ?_
        clear HK
        refine (show wpAnyF _ _ _ _ _ _ 0 _ _ _ from ⟨by kernel_rfl, ?_⟩)
        go_wp2_with fail
        go_ret
        have hzz := hwc.size; have hzb := hba.size; have hz5 := (b5).size
        obtain ⟨k1, k2, k3⟩ := HR.out.list (l' := enterL l s) hw7 (by rw [enterL, if_pos HE.out, ← HeS.out]; exact Hou.out.slOf) (fun j hj => ⟨by have := (Hou.out.lt j hj).1; omega, (Hou.out.lt j hj).2⟩) (Hls.out.enter s)
        exact ⟨ret_i64 HE.out.symm, _, k1, k2, k3⟩
    · have HK := Lib.hid hK
      clear hK
      rw [if_pos (by rfl)]
      go_simp
      obtain ⟨w2, hw2⟩ : ∃ z, World.alloc wa (.cells #[.int .i64 s.id, .int .i64 s.obv, .int .i64 s.rev, .int .i64 s.os, .int .i64 s.rs, .int .i64 s.ax, .int .i64 s.wt] 31) = z := ⟨_, rfl⟩
      have sw2 : Below (wa).heap.size wa w2 := by rw [← hw2]; exact (Below.refl _ _).alloc (Nat.le_refl _) _
      have b2 : Below wa.heap.size wa w2 := below_trans ba sw2
      have k1 : (w2).heap[(wa).heap.size]? = some (.cells (encS s).toArray 31 (0, 0)) := by rw [← hw2]; exact heap_alloc_new _ _
      rw [hw2]
      refine HK.out _ _ (.inr (HSt.out _ b2)) ?_
      clear HK hw2
      refine wpAnyF_one 1 (by kernel_rfl) (by rfl) (fun K hK => ?_)
      have HK := Lib.hid hK; clear hK
      rw [if_pos (by rfl)]
      go_simp
      obtain ⟨w3, hw3⟩ : ∃ z, World.alloc w2 (.cells #[] 31) = z := ⟨_, rfl⟩
      have sw3 : Below (w2).heap.size w2 w3 := by rw [← hw3]; exact (Below.refl _ _).alloc (Nat.le_refl _) _
      have b3 : Below wa.heap.size wa w3 := below_trans b2 sw3
      have k0 : (w3).heap[(w2).heap.size]? = some (.cells #[] 31 (0, 0)) := by rw [← hw3]; exact heap_alloc_new _ _
      rw [hw3]
      refine HK.out _ _ (.inr (HSt.out _ b3)) ?_
      clear HK hw3
      have k1' := heap_below k1 sw3 (heap_lt k1)
      refine wpAnyF_one 6 (by kernel_rfl) (by rfl) (fun K hK => ?_)
      have HK := Lib.hid hK; clear hK
      rw [if_pos (by rfl)]
      refine wp_append_sl (.tmp 33) (.tmp 37) _ rfl iS _ 56 Tryz.underlying51 hiS hzS hkS hbS rfl (by decide) oneS rfl (own_empty (B := wa.heap.size) k0 (b2.size)) _ _ _ l rfl rfl (HslL.out.below b3) (by simp; omega) (by simp; omega) (b3).size ?_
      intro v0 w4 ho0 hg0 ha0
      rw [List.nil_append] at ho0
      have b4 := (b3).grown hg0 (b3).size (fun j e => by have e' : some (w2).heap.size = some j := e; cases e'; exact (b2.size))
      obtain ⟨A0, c0', e0', _⟩ := id ho0.slOf
      subst e0'
      refine HK.out _ _ (.inr (HSt.out _ b4)) ?_
      clear HK
      have hk1l := heap_lt k1
      have k1'' := (hg0.block wa.heap.size (heap_lt k1') (fun e => by have e' : wa.heap.size = w2.heap.size := Option.some.inj e; omega)).trans k1'
      have ho4 := ho0
      refine wpAnyF_one 9 (by kernel_rfl) (by rfl) (fun K hK => ?_)
      have HK := Lib.hid hK; clear hK
      rw [if_pos (by rfl)]
      refine wp_append_sl (.tmp 38) (.tmp 40) _ rfl iS _ 56 Tryz.underlying51 hiS hzS hkS hbS rfl (by decide) oneS rfl ho4 _ _ _ [s] rfl rfl (sl_one rfl k1'') (by simp; omega) (by simp; omega) (b4).size ?_
      intro v1 w5 ho1 hg1 ha1
      have b5 := (b4).grown hg1 (b4).size (fun j e => (ho4.lt j e).1)
      obtain ⟨A1, c1', e1', _⟩ := id ho1.slOf
      subst e1'
      refine HK.out _ _ (.inr (HSt.out _ b5)) ?_
      clear HK
      have HSo := Lib.hid (SortO09_ok _ (l ++ [s]) w5 ho1.slOf Hchk.out)
      refine wpAnyF_one 10 (by kernel_rfl) (by rfl) (fun K hK => ?_)
      have HK := Lib.hid hK; clear hK
      rw [if_pos (by rfl)]
      go_simp
      have hlls : (l ++ [s]).length = l.length + 1 := by simp
      rw [hlls] at HSo
      refine HSo.out.mono ?_
      rintro e w7 ⟨u, SS, rfl, hou, hso, hb7⟩
      have b7 := below_trans b5 hb7
      have HeS := Lib.hid (sorted_ins Hls.out.srt Hout.out hso)
      have Hou := Lib.hid hou
      obtain ⟨A7, c7, e7, _⟩ := id hou.slOf
      obtain ⟨n7, hn7⟩ : ∃ z, SS.length = z := ⟨_, rfl⟩
      rw [hn7] at e7
      clear hou hso hn7
      subst e7
      have hHeld := HSt.out _ b7
      refine HK.out _ _ (.inr (HSt.out _ b7)) ?_
      clear HK
      refine wpAnyF_take 11 (some 31) (.tuple #[.slice A7 n7 c7, .int .i64 0]) (by rfl) (by rfl) (by kernel_rfl) (by kernel_rfl) (by exact fun _ _ _ h => h) (by rfl) (fun w' hS => by go_simp) hHeld ?_
      simp only [Act.put, List.setIfInBounds_toArray, List.set_cons_succ, List.set_cons_zero]
      refine wpAnyF_take 12 (some 43) (.slice A7 n7 c7) (by rfl) (by rfl) (by kernel_rfl) (by kernel_rfl) (by exact fun _ _ _ h => h) (by rfl) (fun w' hS => by go_simp) hHeld ?_
      simp only [Act.put, List.setIfInBounds_toArray, List.set_cons_succ, List.set_cons_zero]
      refine wpAnyF_takeP 13 (some 44) (.int .i64 0) (by rfl) (by rfl) (by kernel_rfl) (by exact fun _ _ _ h => h) (by rfl) (fun w' => by go_simp) (.inr hHeld) ?_
      simp only [Act.put, List.setIfInBounds_toArray, List.set_cons_succ, List.set_cons_zero]
      refine wpAnyF_takeP 14 (some 45) (.pointer (some ⟨p, 0, none⟩)) (by rfl) (by rfl) (by kernel_rfl) (by exact fun _ _ _ h => h) (by rfl) (fun w' => by go_simp) (.inr hHeld) ?_
      simp only [Act.put, List.setIfInBounds_toArray, List.set_cons_succ, List.set_cons_zero]
      refine wpAnyF_take 15 (some 46) (.pointer (some ⟨p, 0, none⟩)) (by rfl) (by rfl) (by kernel_rfl) (by kernel_rfl) (by exact fun _ _ _ h => h) (by rfl) (fun w' hS => by go_simp) hHeld ?_
      simp only [Act.put, List.setIfInBounds_toArray, List.set_cons_succ, List.set_cons_zero]
      clear hHeld
      have hw7 := below_trans hwc (below_trans hba b7)
      have q7 := heap_cell (i := 0) (HR.out.below hw7).row
      have f7 : w7.frozen? ⟨p, 0, none⟩ = false := heap_free (HR.out.below hw7).row
      refine wpAnyF_one 16 (by kernel_rfl) (by rfl) (fun K hK => ?_)
      have HK := Lib.hid hK; clear hK
      rw [if_pos (by rfl)]
      go_simp
      refine HK.out _ _ (.inl (by rfl)) ?_
      clear HK
      refine (show wpAnyF _ _ _ _ _ _ 0 _ _ _ from ⟨by kernel_rfl, ?_⟩)
      go_wp2_with fail
      go_ret
      have hzz := hwc.size; have hzb := hba.size; have hz5 := (b5).size
      obtain ⟨k1, k2, k3⟩ := HR.out.list (l' := enterL l s) hw7 (by rw [enterL, if_pos HE.out, ← HeS.out]; exact Hou.out.slOf) (fun j hj => ⟨by have := (Hou.out.lt j hj).1; omega, (Hou.out.lt j hj).2⟩) (Hls.out.enter s)
      exact ⟨ret_i64 HE.out.symm, _, k1, k2, k3⟩
end Go.Proofs.YthnckicnnhkkaaaGreat
