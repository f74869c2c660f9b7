/- linkage.names and the reference's names: new numbers by the old ones. Condition: the arguments read as lists of numbers of the machine. -/
import Derived.Test.YtifgpmhkdnmhlaaIterI
import Derived.Test.YtifgpmhkdnmhlaaMapK
import Derived.Test.YtifgpmhkdnmhlaaLinkE
import Derived.Test.YtifgpmhkdnmhlaaRefC
namespace Go.Proofs.Ytifgpmhkdnmhlaa
open Go.RowKit Go.Shelf

/-! ### Plain laws -/
def namesP (o l : List Int) : Bool := numbersB (sortI l) && decide (l.length = o.length)
def namesB (l : List Int) (n : Nat) : Bool := l.all (fun x => inB x 1 999) && decide l.Nodup && decide (l.length = n)
theorem sortI_mem (l : List Int) (x : Int) : x ∈ sortI l ↔ x ∈ l := by simp [sortI]
theorem sortI_asc (l : List Int) : (sortI l).Pairwise (· ≤ ·) :=
  (List.pairwise_mergeSort (le := fun x y : Int => decide (x ≤ y)) (fun a b c h1 h2 => by simp at *; omega) (fun a b => by simp; omega) l).imp (fun h => by simpa using h)
theorem sortI_perm (l : List Int) : (sortI l).Perm l := List.mergeSort_perm _ _
theorem ascB_sort (l : List Int) : ascB (sortI l) 1 999 = (l.all (fun x => inB x 1 999) && decide l.Nodup) := by
  rw [Bool.eq_iff_iff]
  simp only [ascB, decide_eq_true_eq, Bool.and_eq_true, List.all_eq_true, inB]
  constructor
  · rintro ⟨h1, h2⟩
    refine ⟨fun x hx => h1 x ((sortI_mem l x).2 hx), (sortI_perm l).nodup_iff.1 ?_⟩
    exact h2.imp fun h e => by omega
  · rintro ⟨h1, h2⟩
    refine ⟨fun x hx => h1 x ((sortI_mem l x).1 hx), ?_⟩
    have hn := (sortI_perm l).nodup_iff.2 h2
    exact ((sortI_asc l).and hn).imp fun h => by have := h.1; have := h.2; omega
theorem namesP_eq {o l : List Int} (h : o.length ≤ 32) : namesP o l = namesB l o.length := by
  unfold namesP namesB numbersB
  rw [ascB_sort]
  by_cases hl : l.length = o.length
  · have : (sortI l).length ≤ 32 := by rw [sortI_len]; omega
    simp [hl, this]
  · simp [hl]
def zipM (o l : List Int) : List (Int × Int) := (o.zip l).foldl (fun m p => putM m p.1 p.2) []
theorem zipM_snoc {o l : List Int} {k : Nat} {x y : Int} (hx : o[k]? = some x) (hy : l[k]? = some y) : zipM (o.take (k + 1)) (l.take (k + 1)) = putM (zipM (o.take k) (l.take k)) x y := by
  unfold zipM
  rw [take_snoc' hx, take_snoc' hy, List.zip_append (by simp; have := lt_of_get hx; have := lt_of_get hy; omega), List.foldl_append]
  rfl
theorem putM_le {κ β : Type} [DecidableEq κ] (m : List (κ × β)) (x : κ) (y : β) : (putM m x y).length ≤ m.length + 1 := by
  rw [putM_len]; split <;> omega
theorem foldM_le (ps : List (Int × Int)) : ∀ m : List (Int × Int), (ps.foldl (fun m p => putM m p.1 p.2) m).length ≤ m.length + ps.length := by
  induction ps with
  | nil => intro m; simp
  | cons p ps ih => intro m; have := ih (putM m p.1 p.2); have := putM_le m p.1 p.2; simp; omega
theorem zipM_le (o l : List Int) : (zipM o l).length ≤ o.length := by
  have := foldM_le (o.zip l) []
  unfold zipM
  simp at this
  omega
theorem foldM_look (x : Int) : ∀ (ps m : List (Int × Int)), (ps.map Prod.fst).Nodup → lookM (ps.foldl (fun m p => putM m p.1 p.2) m) x = match lookM ps x with | some y => some y | none => lookM m x
  | [], m, _ => rfl
  | p :: ps, m, h => by
    rw [List.map_cons, List.nodup_cons] at h
    rw [List.foldl_cons, foldM_look x ps _ h.2, lookM]
    by_cases hx : p.1 = x
    · subst hx
      rw [if_pos rfl, lookM_none.2 h.1, lookM_same]
    · rw [if_neg hx, lookM_other _ _ hx]
theorem zip_look : ∀ {o l : List Int} {i : Nat} {x y : Int}, o.Nodup → o[i]? = some x → l[i]? = some y → lookM (o.zip l) x = some y
  | [], _, _, _, _, _, h, _ => by simp at h
  | _ :: _, [], _, _, _, _, _, h => by simp at h
  | a :: o, b :: l, 0, x, y, _, h1, h2 => by
    simp at h1 h2
    rw [List.zip_cons_cons, lookM, if_pos h1, h2]
  | a :: o, b :: l, i + 1, x, y, hn, h1, h2 => by
    rw [List.nodup_cons] at hn
    simp only [List.getElem?_cons_succ] at h1 h2
    rw [List.zip_cons_cons, lookM, if_neg (fun e => hn.1 (by have e' : a = x := e; rw [e']; exact List.mem_of_getElem? h1))]
    exact zip_look hn.2 h1 h2
theorem zip_keys (o l : List Int) (h : l.length = o.length) : (o.zip l).map Prod.fst = o := by
  rw [List.map_fst_zip (by omega)]
theorem zipM_look {o l : List Int} (hl : l.length = o.length) (hn : o.Nodup) {i : Nat} {x y : Int} (hx : o[i]? = some x) (hy : l[i]? = some y) : lookM (zipM o l) x = some y := by
  unfold zipM
  rw [foldM_look x _ _ (by rw [zip_keys o l hl]; exact hn), zip_look hn hx hy]
/-- The new number of an old one. -/
def renI (o l : List Int) (x : Int) : Int := (lookM (zipM o l) x).getD 0
theorem renI_at {o l : List Int} (hl : l.length = o.length) (hn : o.Nodup) {i : Nat} {x y : Int} (hx : o[i]? = some x) (hy : l[i]? = some y) : renI o l x = y := by
  unfold renI
  rw [zipM_look hl hn hx hy]
  rfl
theorem nodup_of_asc {o : List Int} (h : o.Pairwise (· < ·)) : o.Nodup := h.imp fun h e => by omega

set_option maxHeartbeats 4000000 in
theorem names_ok (v u : Value) (o l : List Int) (w : World) (h : Ints w v o) (h' : Ints w u l) (hl : l.length ≤ 1048576) (wo : ∀ x ∈ o, wfI x) (wl : ∀ x ∈ l, wfI x) :
    Calls Try.prog 59 #[v, u] w fun e w' => ∃ z, e = .returned (.tuple #[z, .bool (namesP o l)]) ∧ (namesP o l = true → ∃ b, z = .map (some b) ∧ MapII w' b (zipM o l)) ∧ Below w.heap.size w w' := by
  have h0' := h'
  obtain ⟨A, c, rfl, h1, h2, hc⟩ := h.cells
  obtain ⟨A', c', rfl, h1', h2', hc'⟩ := h'.cells
  have hmm := @run_makeMap Try.prog
  go_enter Try.func59, Try.ntmps59
  go_wp2_with fail
  refine (valuesI_ok _ _ _ _).mono ?_
  rintro e w1 ⟨rfl, hw1⟩
  have hb1 : Below w.heap.size w w1 := by rw [hw1]; exact (Below.refl _ _).alloc (Nat.le_refl _) _
  have Hw1 := Lib.hid hw1.symm; clear hw1
  go_wp2_with fail
  refine (sortedI_ok A' c' l hl w w1 Hw1.out h0').mono ?_
  rintro e w2 ⟨s, rfl, hs, hb2⟩
  have hw2 := below_trans hb1 hb2
  have hN := numbers_ok _ (sortI l) w2 hs.slOf
  cases hn : numbersB (sortI l)
  · rw [hn] at hN
    have hP : namesP o l = false := by simp [namesP, hn]
    have HP := Lib.hid hP; have HN := Lib.hid hN; clear hP hN hn hmm
    go_wp2_with fail
    refine HN.out.mono ?_
    rintro e w3 ⟨rfl, rfl⟩
    go_wp2_with fail
    go_ret2
    rw [HP.out]
    exact ⟨_, rfl, (fun h => absurd h (by simp)), hw2⟩
  rw [hn] at hN
  have HN := Lib.hid hN; clear hN
  by_cases hll : l.length = o.length
  case neg =>
    have hd : ((l.length : Int) != (o.length : Int)) = true := by simp; omega
    have hP : namesP o l = false := by simp [namesP, hll]
    have HP := Lib.hid hP; clear hP hn hll hmm
    go_wp2_with fail
    refine HN.out.mono ?_
    rintro e w3 ⟨rfl, rfl⟩
    go_wp2_with fail
    go_ret2
    rw [HP.out]
    exact ⟨_, rfl, (fun h => absurd h (by simp)), hw2⟩
  have hd : ((l.length : Int) != (o.length : Int)) = false := by simp; omega
  have hP : namesP o l = true := by simp [namesP, hll, hn]
  have HP := Lib.hid hP; have Hll := Lib.hid hll; clear hP hn hll
  go_wp2_with fail
  refine HN.out.mono ?_
  rintro e w3 ⟨rfl, rfl⟩
  go_wp2_with fail
  go_loopw [24] (fun i wr => ∃ k : Nat, k ≤ o.length ∧ i = .int .i64 k ∧ MapII wr w2.heap.size (zipM (o.take k) (l.take k)) ∧ Below w2.heap.size w2 wr) (fun i _ => o.length - (intOf i).toNat)
  case atStart => exact ⟨0, Nat.zero_le _, rfl, mapII_made _, (Below.refl _ _).alloc (Nat.le_refl _) _⟩
  case round =>
    clear hmm
    obtain ⟨k, hk, rfl, hm, hb⟩ := hrel
    have hbw := hw2.trans (hb.mono hw2.size)
    by_cases hlt : k < o.length
    · have hlt' : k < l.length := by have := Hll.out; omega
      obtain ⟨b, of, rfl, _, hc⟩ := hc k hlt
      obtain ⟨b', of', rfl, _, hc'⟩ := hc' k hlt'
      obtain ⟨x, hx⟩ := get_of_lt hlt
      obtain ⟨y, hy⟩ := get_of_lt hlt'
      have c0 := hc wr hbw k x hx
      have c1 := hc' wr hbw k y hy
      have hl1 : (k : Int) < (o.length : Int) := by omega
      have hl2 : (k : Int) < (l.length : Int) := by omega
      have hl0 : (0 : Int) ≤ (k : Int) := by omega
      have hzl := zipM_le (o.take k) (l.take k)
      rw [List.length_take] at hzl
      obtain ⟨w4, hup, hm4, hg4⟩ := hm.put (wo x (List.mem_of_getElem? hx)) (wl y (List.mem_of_getElem? hy)) (show _ < maxLen by simp only [maxLen]; omega)
      rw [← zipM_snoc hx hy] at hm4
      have hB4 : Below w2.heap.size w2 w4 := hb.grown hg4 hb.size (fun j e => by cases e; exact Nat.le_refl _)
      have Hm4 := Lib.hid hm4
      clear hm4 hm hx hy hc hc'
      go_wp2_with fail
      refine ⟨?rel, ?measure⟩
      case rel => exact ⟨k + 1, by omega, by go_num, Hm4.out, hB4⟩
      case measure => first | (simp [intOf]; done) | (simp [intOf]; omega)
    · have e1 : o.take k = o := List.take_of_length_le (by omega)
      have e2 : l.take k = l := List.take_of_length_le (by have := Hll.out; omega)
      rw [e1, e2] at hm
      clear e1 e2
      go_wp2_with fail
      go_ret2
      rw [HP.out]
      exact ⟨_, rfl, (fun _ => ⟨_, rfl, hm⟩), hbw⟩
end Go.Proofs.Ytifgpmhkdnmhlaa
