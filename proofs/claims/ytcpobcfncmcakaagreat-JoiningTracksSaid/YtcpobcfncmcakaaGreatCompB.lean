/- component.steps. Condition: the graph is valid, the die's numbers are numbers. -/
import Derived.Test.YtcpobcfncmcakaaGreatCompA
import Derived.Test.YtcpobcfncmcakaaGreatGroB
import Derived.Test.YtcpobcfncmcakaaGreatCovG
import Derived.Test.YtcpobcfncmcakaaGreatForP
namespace Go.Proofs.YtcpobcfncmcakaaGreat
open Go.RowKit Go.Maps

/-- The links of a graph have numbers of dies. -/
def LinkWf (g : Graph) : Prop := ∀ x ∈ g.links, wfD (lA x) ∧ wfD (lB x)
theorem mem_snoc2 {β : Type} {l : List β} {k : Nat} {x : β} {P : β → Prop} (hx : l[k]? = some x) (h : ∀ y ∈ l.take k, P y) (hp : P x) : ∀ y ∈ l.take (k + 1), P y := fun y hy => by
  rw [take_snoc' hx] at hy
  rcases List.mem_append.1 hy with hy | hy
  · exact h y hy
  · rw [List.mem_singleton] at hy; subst hy; exact hp
def mapSz (w : World) (b : Nat) : Nat := match w.heap[b]? with | some (.map es _) => es.size | _ => 0
theorem mapSz_of {w : World} {b : Nat} {m : List (Die × Int)} (h : MapD w b m) : mapSz w b = m.length := by
  obtain ⟨⟨D, ⟨es, clock, hb, _, _, rfl⟩, _, hs, _⟩, _, _⟩ := h
  simp only [Maps.size, length_sorted] at hs
  simp only [mapSz, hb]
  simpa using hs
def qLen (v : Value) : Nat := match v with | .slice _ n _ => n | _ => 0
theorem acrD_wf {g : Graph} (h : LinkWf g) {x : Link} (hx : x ∈ g.links) (d : Die) : wfD (acrD x d) := by
  have := h x hx
  unfold acrD acrO
  split
  · exact this.2
  · split
    · exact this.1
    · exact ⟨wfN (n := 0) (by omega), wfN (n := 0) (by omega)⟩
end Go.Proofs.YtcpobcfncmcakaaGreat
/- component.in, away, Joined. Condition: the graph in its memory, the dies' numbers are numbers. -/
namespace Go.Proofs.YtcpobcfncmcakaaGreat
open Go.RowKit Go.Maps

theorem ascB_bounds {xs : List Int} {lo hi : Int} (h : ascB xs lo hi = true) : ∀ x ∈ xs, lo ≤ x ∧ x ≤ hi := by
  simp only [ascB, decide_eq_true_eq] at h
  exact h.1
theorem linkWf {g : Graph} (hg : graphB g = true) : LinkWf g := fun x hx => by
  have hok := (graphB_iff g).1 hg
  have hE := graphB_ends hg
  have h1 := ascB_bounds hok.ao _ (hE.1 x hx)
  have h2 := ascB_bounds hok.ar _ (hE.2 x hx)
  exact ⟨⟨wfN (n := 0) (by omega), show wfI x.obv from wf_small (by omega) (by omega)⟩, ⟨wfN (n := 1) (by omega), show wfI x.rev from wf_small (by omega) (by omega)⟩⟩
noncomputable def awayE (g : Graph) (a b : Die) : Int := if graphB g = true then (if joinB (edgesG g) a b = true then 0 else 7) else 1
theorem away_1 {g : Graph} {a b : Die} (h : graphB g = false) : awayE g a b = 1 := by rw [awayE, if_neg (by simp [h])]
theorem away_7 {g : Graph} {a b : Die} (h : graphB g = true) (hj : ¬ JoinE (edgesG g) a b) : awayE g a b = 7 := by rw [awayE, if_pos h, if_neg (fun h => hj (joinB_iff.1 h))]
theorem away_0 {g : Graph} {a b : Die} (h : graphB g = true) (hj : JoinE (edgesG g) a b) : awayE g a b = 0 := by rw [awayE, if_pos h, if_pos (joinB_iff.2 hj)]
noncomputable def joinG (g : Graph) (a b : Die) : Bool := graphB g && joinB (edgesG g) a b
theorem away_join (g : Graph) (a b : Die) : (awayE g a b == 0) = joinG g a b := by
  unfold awayE joinG
  cases graphB g
  · simp
  · cases joinB (edgesG g) a b <;> simp
end Go.Proofs.YtcpobcfncmcakaaGreat
/- component.Parts. Condition: the graph in its memory. -/
namespace Go.Proofs.YtcpobcfncmcakaaGreat
open Go.RowKit Go.Maps

noncomputable def partsG (g : Graph) : List Int := partsA (joinB (edgesG g)) (diesG g)
theorem dies_wf {g : Graph} (hg : graphB g = true) : ∀ d ∈ diesG g, wfD d := fun d hd => by
  have hok := (graphB_iff g).1 hg
  rw [diesG, if_pos hg] at hd
  rcases List.mem_append.1 hd with hd | hd
  · obtain ⟨n, hn, rfl⟩ := List.mem_map.1 hd
    have := ascB_bounds hok.ao n hn
    exact ⟨wfN (n := 0) (by omega), show wfI n from wf_small (by omega) (by omega)⟩
  · obtain ⟨n, hn, rfl⟩ := List.mem_map.1 hd
    have := ascB_bounds hok.ar n hn
    exact ⟨wfN (n := 1) (by omega), show wfI n from wf_small (by omega) (by omega)⟩
theorem dies_le {g : Graph} (hg : graphB g = true) : (diesG g).length ≤ 64 := by
  have hok := (graphB_iff g).1 hg
  rw [dies_len hg]
  have := hok.lo; have := hok.lr; omega
/-- What the map of numbers knows after some dies. -/
def NumAt (R : Die → Die → Bool) (rs : List Die) (mm : List (Die × Int)) : Prop := ∀ x, lookM mm x = if rs.any (fun r => R r x) then some ((partI R rs x : Nat) : Int) else none
theorem NumAt.len {g : Graph} (hg : graphB g = true) {rs : List Die} {mm : List (Die × Int)} (h : NumAt (joinB (edgesG g)) rs mm) (hn : (mm.map Prod.fst).Nodup) : mm.length ≤ 64 := by
  have := nodup_len (c := diesG g) hn (fun x hx => by
    have hs := look_mem.2 hx
    rw [h x] at hs
    split at hs
    · rename_i ha
      obtain ⟨r, _, hr⟩ := List.any_eq_true.1 ha
      exact (dies_end hg x).2 (joinB_iff.1 hr).2.1
    · cases hs)
  have := dies_le hg
  rw [List.length_map] at *
  omega
theorem numAt_nil (R : Die → Die → Bool) : NumAt R [] [] := fun _ => rfl
/-- A new component: what its dies are called. -/
theorem NumAt.new {g : Graph} (hg : graphB g = true) {ds : List Die} {mm mm' : List (Die × Int)} {d : Die} {K : List Die} (hd : d ∈ diesG g) (h : NumAt (joinB (edgesG g)) (repsA (joinB (edgesG g)) ds) mm)
    (hno : (repsA (joinB (edgesG g)) ds).any (fun r => joinB (edgesG g) r d) = false) (hK : ∀ x, x ∈ K ↔ Con (edgesG g) d x) (hmm : ∀ x, lookM mm' x = if x ∈ K then some ((repsA (joinB (edgesG g)) ds).length : Int) else lookM mm x) :
    NumAt (joinB (edgesG g)) (repsA (joinB (edgesG g)) (ds ++ [d])) mm' := fun x => by
  have hE := (dies_end hg d).1 hd
  have hR : ∀ x, joinB (edgesG g) d x = true ↔ x ∈ K := fun x => by
    rw [hK, joinB_iff]
    constructor
    · exact fun h => h.2.2
    · intro hc
      refine ⟨hE, ?_, hc⟩
      by_cases e : d = x
      · rw [← e]; exact hE
      · exact (con_end hc e).2
  rw [repsA_new hno, hmm x]
  by_cases hx : x ∈ K
  · have hdx := (hR x).2 hx
    have hnx : (repsA (joinB (edgesG g)) ds).any (fun r => joinB (edgesG g) r x) = false := by
      rw [← Bool.not_eq_true]
      intro ha
      obtain ⟨r, h1, h2⟩ := List.any_eq_true.1 ha
      have hs := rel_join (E := edgesG g) (ds := []) (fun d hd => by cases hd)
      have := hs.trans _ _ _ h2 (hs.symm _ _ hdx)
      rw [← Bool.not_eq_true] at hno
      exact hno (List.any_eq_true.2 ⟨r, h1, this⟩)
    rw [if_pos hx, if_pos (by rw [List.any_append]; simp [hdx])]
    congr 1
    rw [partI, findIdx_new hnx hdx]
  · have hdx : joinB (edgesG g) d x = false := by
      rw [← Bool.not_eq_true]; exact fun h => hx ((hR x).1 h)
    rw [if_neg hx, h x]
    cases ha : (repsA (joinB (edgesG g)) ds).any (fun r => joinB (edgesG g) r x)
    · rw [if_neg (by simp), if_neg (by rw [List.any_append, ha]; simp [hdx])]
    · rw [if_pos rfl, if_pos (by rw [List.any_append, ha]; rfl)]
      congr 1
      rw [partI, partI, findIdx_pre (List.prefix_append _ _) ha]
theorem partsA_snoc {R : Die → Die → Bool} {ds : List Die} {k : Nat} {d : Die} (hd : ds[k]? = some d) : (partsA R ds).take (k + 1) = (partsA R ds).take k ++ [((partI R (repsA R ds) d : Nat) : Int)] := by
  refine take_snoc' ?_
  rw [partsA, List.getElem?_map, hd]; rfl
theorem part_pre {R : Die → Die → Bool} {ds : List Die} {k : Nat} {d : Die} (h : (repsA R (ds.take k)).any (fun r => R r d) = true) : partI R (repsA R ds) d = partI R (repsA R (ds.take k)) d :=
  findIdx_pre (repsA_take ds k) h

end Go.Proofs.YtcpobcfncmcakaaGreat
/- component.Chains, Loops. Condition: the graph in its memory. -/
namespace Go.Proofs.YtcpobcfncmcakaaGreat
open Go.RowKit Go.Maps

/-! ### Chains, plain -/
section
variable {α : Type} {R : α → α → Bool} {ds : List α}
def chainsP (R : α → α → Bool) (ds : List α) (j : Nat) : List (List α) := (List.range (repsA R (ds.take j)).length).map fun k => (ds.take j).filter fun d => decide (partI R (repsA R ds) d = k)
theorem chainsP_len (j : Nat) : (chainsP R ds j).length = (repsA R (ds.take j)).length := by simp [chainsP]
theorem chainsP_all : chainsP R ds ds.length = chainsA R ds := by rw [chainsP, chainsA, List.take_length]
theorem chainsP_get {j k : Nat} (h : k < (repsA R (ds.take j)).length) : (chainsP R ds j)[k]? = some ((ds.take j).filter fun d => decide (partI R (repsA R ds) d = k)) := by
  rw [chainsP, List.getElem?_map, List.getElem?_range h]; rfl
theorem chainsP_row_len {j k : Nat} {r : List α} (h : (chainsP R ds j)[k]? = some r) : r.length ≤ j := by
  have hk := lt_of_get h
  rw [chainsP_len] at hk
  rw [chainsP_get hk] at h
  cases h
  refine Nat.le_trans (List.length_filter_le _ _) ?_
  rw [List.length_take]; omega
theorem part_old {j : Nat} {d : α} (ha : (repsA R (ds.take j)).any (fun r => R r d) = true) : partI R (repsA R ds) d < (repsA R (ds.take j)).length := by
  rw [show partI R (repsA R ds) d = partI R (repsA R (ds.take j)) d from findIdx_pre (repsA_take ds j) ha]
  exact part_lt ha
theorem part_new {j : Nat} {d : α} (hd : ds[j]? = some d) (hr : R d d = true) (ha : (repsA R (ds.take j)).any (fun r => R r d) = false) : partI R (repsA R ds) d = (repsA R (ds.take j)).length := by
  have h1 : (repsA R (ds.take (j + 1))).any (fun r => R r d) = true := by rw [take_snoc' hd, repsA_new ha, List.any_append]; simp [hr]
  rw [show partI R (repsA R ds) d = partI R (repsA R (ds.take (j + 1))) d from findIdx_pre (repsA_take ds (j + 1)) h1, take_snoc' hd, repsA_new ha, partI, findIdx_new ha hr]
theorem chainsP_old {j : Nat} {d : α} {r : List α} (hd : ds[j]? = some d) (ha : (repsA R (ds.take j)).any (fun r => R r d) = true) (hrow : (chainsP R ds j)[partI R (repsA R ds) d]? = some r) :
    chainsP R ds (j + 1) = (chainsP R ds j).set (partI R (repsA R ds) d) (r ++ [d]) := by
  have hp := part_old ha
  have hl : (repsA R (ds.take (j + 1))).length = (repsA R (ds.take j)).length := by rw [take_snoc' hd, repsA_old ha]
  rw [chainsP_get hp] at hrow
  cases hrow
  refine List.ext_getElem? fun i => ?_
  by_cases hi : i < (repsA R (ds.take j)).length
  · rw [chainsP_get (by omega), take_snoc' hd, List.filter_append, List.getElem?_set]
    by_cases e : partI R (repsA R ds) d = i
    · subst e
      rw [if_pos rfl, if_pos (by rw [chainsP_len]; exact hp)]
      simp
    · rw [if_neg e, chainsP_get hi]
      simp [e]
  · rw [List.getElem?_eq_none (by rw [chainsP_len]; omega), List.getElem?_eq_none (by rw [List.length_set, chainsP_len]; omega)]
theorem chainsP_new (hrel : Rel R ds) {j : Nat} {d : α} (hd : ds[j]? = some d) (hr : R d d = true) (ha : (repsA R (ds.take j)).any (fun r => R r d) = false) :
    chainsP R ds (j + 1) = (chainsP R ds j ++ [[]]).set (partI R (repsA R ds) d) ([] ++ [d]) := by
  have hp := part_new hd hr ha
  have hl : (repsA R (ds.take (j + 1))).length = (repsA R (ds.take j)).length + 1 := by rw [take_snoc' hd, repsA_new ha]; simp
  refine List.ext_getElem? fun i => ?_
  by_cases hi : i < (repsA R (ds.take j)).length + 1
  · rw [chainsP_get (by omega), take_snoc' hd, List.filter_append, List.getElem?_set]
    by_cases e : partI R (repsA R ds) d = i
    · rw [if_pos e, if_pos (by rw [List.length_append, chainsP_len]; simp; omega)]
      have hno : (ds.take j).filter (fun x => decide (partI R (repsA R ds) x = i)) = [] := by
        rw [List.filter_eq_nil_iff]
        intro x hx
        have h2 := part_old (ds := ds) (d := x) (reps_any (hrel.take j) x hx)
        simp only [decide_eq_true_eq]
        omega
      rw [hno]
      simp [e]
    · rw [if_neg e, List.getElem?_append_left (by rw [chainsP_len]; omega), chainsP_get (by omega)]
      simp [e]
  · rw [List.getElem?_eq_none (by rw [chainsP_len]; omega), List.getElem?_eq_none (by rw [List.length_set, List.length_append, chainsP_len]; simp; omega)]
end

/-! ### A slice of slices of dies that grow -/
structure Hdr where
  a : Option Addr
  n : Nat
  c : Nat
abbrev Hdr.v (h : Hdr) : Value := .slice h.a h.n h.c
def encH (h : Hdr) : List Value := [h.v]
theorem lenH (h : Hdr) : (encH h).length = 1 := rfl
theorem oneH (h : Hdr) : ∀ u ∈ encH h, u.oneCell' = true := by simp [encH, Value.oneCell']
theorem infoC : (Tryz.prog.info? 97).map (fun i => (i.zero, i.size, i.bytes)) = some (some (.slice none 0 0), 1, 24) := by kernel_rfl
abbrev OwnH (B : Nat) (w : World) (u : Value) (hs : List Hdr) : Prop := Own encH 1 97 B w u hs
structure ChSt (B : Nat) (w : World) (u : Value) (hs : List Hdr) (R : List (List Die)) : Prop where
  own : OwnH B w u hs
  len : hs.length = R.length
  row : ∀ (i : Nat) (h : Hdr) (r : List Die), hs[i]? = some h → R[i]? = some r → OwnD B w h.v r
  apart : ∀ (i j : Nat) (h k : Hdr), hs[i]? = some h → hs[j]? = some k → i ≠ j → Apart h.v k.v
section
variable {B : Nat} {w w' : World} {u : Value} {hs : List Hdr} {R : List (List Die)}
theorem row_ne {x : Value} {r : List Die} (h : OwnD B w x r) (ho : OwnH B w u hs) : x.ownBlock = none ∨ x.ownBlock ≠ u.ownBlock := by
  rcases h.2 with ⟨rfl, _⟩ | ⟨g, cap, cur, rfl, _, hg, _⟩
  · exact .inl rfl
  · exact .inr (own_block ho hg (by decide))
theorem ne_row {x : Value} {r : List Die} (h : OwnD B w x r) (ho : OwnH B w u hs) : u.ownBlock = none ∨ u.ownBlock ≠ x.ownBlock := by
  rcases row_ne h ho with e | e
  · rw [e]; cases u.ownBlock <;> simp
  · exact .inr fun e2 => e e2.symm
theorem chSt_nil (B : Nat) (w : World) : ChSt B w (.slice none 0 0) [] [] := ⟨own_nil _ _ _ _ _, rfl, fun i h r hh => by simp at hh, fun i j h k hh => by simp at hh⟩
theorem ChSt.below (h : ChSt B w u hs R) (hb : Below w.heap.size w w') : ChSt B w' u hs R := ⟨h.own.below hb, h.len, fun i x r h1 h2 => (h.row i x r h1 h2).below hb, h.apart⟩
theorem ChSt.push {v' : Value} (h : ChSt B w u hs R) (hown : OwnH B w' v' (hs ++ [⟨none, 0, 0⟩])) (hg : w.grownBy w' u.ownBlock) : ChSt B w' v' (hs ++ [⟨none, 0, 0⟩]) (R ++ [[]]) := by
  refine ⟨hown, by simp [h.len], fun i x r h1 h2 => ?_, fun i j x k h1 h2 hij => ?_⟩
  · rcases Nat.lt_or_ge i hs.length with hi | hi
    · rw [List.getElem?_append_left hi] at h1
      rw [List.getElem?_append_left (by rw [← h.len]; exact hi)] at h2
      have := h.row i x r h1 h2
      exact this.kept hg (row_ne this h.own)
    · have hl := lt_of_get h1
      simp at hl
      obtain rfl : i = hs.length := by omega
      rw [List.getElem?_append_right (Nat.le_refl _)] at h1
      rw [h.len, List.getElem?_append_right (Nat.le_refl _)] at h2
      simp at h1 h2
      subst h1; subst h2
      exact own_nil _ _ _ _ _
  · rcases Nat.lt_or_ge i hs.length with hi | hi
    · rw [List.getElem?_append_left hi] at h1
      rcases Nat.lt_or_ge j hs.length with hj | hj
      · rw [List.getElem?_append_left hj] at h2
        exact h.apart i j x k h1 h2 hij
      · have hl := lt_of_get h2
        simp at hl
        obtain rfl : j = hs.length := by omega
        rw [List.getElem?_append_right (Nat.le_refl _)] at h2
        simp at h2
        subst h2
        unfold Apart
        cases x.v.ownBlock <;> simp [Value.ownBlock]
    · have hl := lt_of_get h1
      simp at hl
      obtain rfl : i = hs.length := by omega
      rw [List.getElem?_append_right (Nat.le_refl _)] at h1
      simp at h1
      subst h1
      exact .inl rfl
theorem own_hdr {x : Value} {r : List Die} (h : OwnD B w x r) : ∃ k : Hdr, x = k.v := by
  rcases h.cases with ⟨rfl, rfl⟩ | ⟨g, cap, rfl, _⟩
  · exact ⟨⟨none, 0, 0⟩, rfl⟩
  · exact ⟨⟨_, _, _⟩, rfl⟩
theorem ChSt.put {gu n cap k : Nat} {h0 h1 : Hdr} {r0 r1 : List Die} (h : ChSt B w (.slice (some ⟨gu, 0, none⟩) n cap) hs R) (hn : n = hs.length) (hk : hs[k]? = some h0) (hr : R[k]? = some r0)
    (ho : OwnD B w' h1.v r1) (hg : w.grownBy w' h0.v.ownBlock) (hat : h1.v.ownBlock = h0.v.ownBlock ∨ h1.v.ownBlock = some w.heap.size) :
    ChSt B (w'.setCell ⟨gu, k, none⟩ h1.v) (.slice (some ⟨gu, 0, none⟩) n cap) (hs.set k h1) (R.set k r1) := by
  have hrow0 := h.row k h0 r0 hk hr
  have hu : OwnH B w' (.slice (some ⟨gu, 0, none⟩) n cap) hs := h.own.kept hg (ne_row hrow0 h.own)
  have hkl := lt_of_get hk
  have hset := setCells_grown gu (encH h1) w' (k * 1)
  have hput := hu.put lenH (by omega) hn (show k < n by omega) h1
  rw [show w'.setCell ⟨gu, k, none⟩ h1.v = w'.setCells gu (k * 1) (encH h1) by rw [Nat.mul_one]; rfl]
  have hlt : ∀ (i : Nat) (x : Hdr), hs[i]? = some x → ∀ g, x.v.ownBlock = some g → g < w.heap.size := fun i x hx g e => by
    obtain ⟨r, hr⟩ := get_of_lt (show i < R.length by rw [← h.len]; exact lt_of_get hx)
    exact ((h.row i x r hx hr).lt g e).2
  refine ⟨hput, by simp [h.len], fun i x r q1 q2 => ?_, fun i j x y q1 q2 hij => ?_⟩
  · by_cases e : k = i
    · subst e
      rw [List.getElem?_set_self hkl] at q1
      rw [List.getElem?_set_self (by rw [← h.len]; exact hkl)] at q2
      cases q1; cases q2
      exact ho.kept hset (row_ne ho hu)
    · rw [List.getElem?_set_ne e] at q1
      rw [List.getElem?_set_ne e] at q2
      have h3 := h.row i x r q1 q2
      have h4 := h3.kept hg (h.apart i k x h0 q1 hk (fun e2 => e e2.symm))
      exact h4.kept hset (row_ne h4 hu)
  · by_cases e : k = i
    · subst e
      rw [List.getElem?_set_self hkl] at q1
      cases q1
      rw [List.getElem?_set_ne hij] at q2
      exact (h.apart k j h0 y hk q2 hij).append hat (hlt j y q2)
    · rw [List.getElem?_set_ne e] at q1
      by_cases e2 : k = j
      · subst e2
        rw [List.getElem?_set_self hkl] at q2
        cases q2
        exact (h.apart i k x h0 q1 hk hij).append' hat (hlt i x q1)
      · rw [List.getElem?_set_ne e2] at q2
        exact h.apart i j x y q1 q2 hij
end
theorem ChSt.base {B B' : Nat} {w : World} {u : Value} {hs : List Hdr} {R : List (List Die)} (h : ChSt B w u hs R) (hB : B' ≤ B) : ChSt B' w u hs R := ⟨h.own.base hB, h.len, fun i x r h1 h2 => (h.row i x r h1 h2).base hB, h.apart⟩
theorem ChSt.len_le {B : Nat} {w : World} {u : Value} {hs : List Hdr} {R : List (List Die)} (h : ChSt B w u hs R) : ∃ A c, u = .slice A R.length c := by
  obtain ⟨A, c, e, _⟩ := h.own.slOf
  exact ⟨A, c, by rw [e, h.len]⟩
noncomputable def chainsG (g : Graph) : List (List Die) := chainsA (joinB (edgesG g)) (diesG g)
noncomputable def loopsG (g : Graph) : Int := if graphB g = true then (g.links.length : Int) - g.obv.length - g.rev.length + (chainsG g).length else 0
theorem chainsG_len (g : Graph) : (chainsG g).length = (repsA (joinB (edgesG g)) (diesG g)).length := by rw [chainsG, ← chainsP_all, chainsP_len, List.take_length]
end Go.Proofs.YtcpobcfncmcakaaGreat
