/- Plain laws on renaming: with the numbers that the dies have nothing changes; a renamed graph is valid and keeps the degrees. No condition. -/
import Derived.Test.YtifgpmhkdnmhlaaRenA
import Derived.Test.YtifgpmhkdnmhlaaRenB
namespace Go.Proofs.Ytifgpmhkdnmhlaa
open Go.RowKit

theorem asc_range {l : List Int} (h : ascB l 1 999 = true) : ∀ n ∈ l, 1 ≤ n ∧ n ≤ 999 := fun n hn => by simp only [ascB, decide_eq_true_eq] at h; exact h.1 n hn
theorem namesB_self {l : List Int} (h : ascB l 1 999 = true) : namesB l l.length = true := by
  simp only [namesB, Bool.and_eq_true, decide_eq_true_eq, List.all_eq_true, inB]
  exact ⟨⟨asc_range h, nodup_of_asc (ascB_asc h)⟩, trivial⟩
theorem renOK_self {g : Graph} : renOK g g.obv g.rev = graphB g := by
  unfold renOK
  cases hg : graphB g
  · rfl
  · have hok := (graphB_iff g).1 hg
    rw [namesB_self hok.ao, namesB_self hok.ar]
    rfl
theorem renI_self {l : List Int} (h : l.Nodup) {x : Int} (hx : x ∈ l) : renI l l x = x := by
  obtain ⟨i, hi⟩ := List.mem_iff_getElem?.1 hx
  exact renI_at rfl h hi hi
theorem renL_self {g : Graph} (hg : graphB g = true) : renL g g.obv g.rev = g.links := by
  have hok := (graphB_iff g).1 hg
  have hE := graphB_ends hg
  unfold renL
  have : g.links.map (renLink g.obv g.obv g.rev g.rev) = g.links.map id := List.map_congr_left fun x hx => by
    unfold renLink
    rw [renI_self (nodup_of_asc (ascB_asc hok.ao)) (hE.1 x hx), renI_self (nodup_of_asc (ascB_asc hok.ar)) (hE.2 x hx)]
    rfl
  rw [this, List.map_id]
theorem renG_self {g : Graph} (hg : graphB g = true) : renG g g.obv g.rev = g := by
  have hok := (graphB_iff g).1 hg
  have hE := graphB_ends hg
  rw [renG_with (by rw [renOK_self, hg]), renL_self hg]
  have e1 : g.obv = withs (g.links.map Link.obv) := withs_unique (ascB_asc hok.ao) fun n => by
    constructor
    · intro hn; exact (hasB_iff _ _).1 (List.all_eq_true.1 hok.uo n hn)
    · intro hn; obtain ⟨x, hx, rfl⟩ := List.mem_map.1 hn; exact hE.1 x hx
  have e2 : g.rev = withs (g.links.map Link.rev) := withs_unique (ascB_asc hok.ar) fun n => by
    constructor
    · intro hn; exact (hasB_iff _ _).1 (List.all_eq_true.1 hok.ur n hn)
    · intro hn; obtain ⟨x, hx, rfl⟩ := List.mem_map.1 hn; exact hE.2 x hx
  rw [← e1, ← e2]

structure Named (l : List Int) (n : Nat) : Prop where
  range : ∀ x ∈ l, 1 ≤ x ∧ x ≤ 999
  nodup : l.Nodup
  len : l.length = n
theorem namesB_iff {l : List Int} {n : Nat} : namesB l n = true ↔ Named l n := by
  simp only [namesB, Bool.and_eq_true, decide_eq_true_eq, List.all_eq_true, inB]
  exact ⟨fun ⟨⟨a, b⟩, c⟩ => ⟨a, b, c⟩, fun ⟨a, b, c⟩ => ⟨⟨a, b⟩, c⟩⟩
theorem renOK_iff {g : Graph} {o r : List Int} : renOK g o r = true ↔ graphB g = true ∧ Named o g.obv.length ∧ Named r g.rev.length := by
  simp only [renOK, Bool.and_eq_true, namesB_iff]
  exact ⟨fun ⟨⟨a, b⟩, c⟩ => ⟨a, b, c⟩, fun ⟨a, b, c⟩ => ⟨⟨a, b⟩, c⟩⟩
/-- What a link's die becomes: the new number at the old one's place. -/
theorem renI_ex {o l : List Int} (hl : l.length = o.length) (hn : o.Nodup) {x : Int} (hx : x ∈ o) : ∃ (i : Nat) (y : Int), o[i]? = some x ∧ l[i]? = some y ∧ renI o l x = y := by
  obtain ⟨i, hi⟩ := List.mem_iff_getElem?.1 hx
  obtain ⟨y, hy⟩ := get_of_lt (show i < l.length by have := lt_of_get hi; omega)
  exact ⟨i, y, hi, hy, renI_at hl hn hi hy⟩
theorem nodup_inj {l : List Int} (h : l.Nodup) {i j : Nat} {x : Int} (hi : l[i]? = some x) (hj : l[j]? = some x) : i = j := by
  obtain ⟨h1, e1⟩ := List.getElem?_eq_some_iff.1 hi
  obtain ⟨h2, e2⟩ := List.getElem?_eq_some_iff.1 hj
  have h := List.pairwise_iff_getElem.1 h
  rcases Nat.lt_trichotomy i j with hlt | rfl | hlt
  · exact absurd (by rw [e1, e2]) (h i j h1 h2 hlt)
  · rfl
  · exact absurd (by rw [e1, e2]) (h j i h2 h1 hlt)
theorem renI_eq {o l : List Int} (hl : l.length = o.length) (hn : o.Nodup) (hn' : l.Nodup) {i : Nat} {x a b : Int} (hx : x ∈ o) (ha : o[i]? = some a) (hb : l[i]? = some b) : (renI o l x == b) = (x == a) := by
  obtain ⟨j, y, hj, hy, e⟩ := renI_ex hl hn hx
  rw [e, Bool.eq_iff_iff, beq_iff_eq, beq_iff_eq]
  constructor
  · rintro rfl
    obtain rfl := nodup_inj hn' hy hb
    rw [hj] at ha
    exact Option.some.inj ha
  · rintro rfl
    obtain rfl := nodup_inj hn hj ha
    rw [hy] at hb
    exact Option.some.inj hb
theorem graphB_made {L : List Link} (h1 : (withs (L.map Link.obv)).length ≤ 32) (h2 : (withs (L.map Link.rev)).length ≤ 32) (h3 : L.length ≤ 64) (h4 : ascB (L.map Link.id) 1 9999 = true) (h5 : ∀ x ∈ L, (1 ≤ x.obv ∧ x.obv ≤ 999) ∧ (1 ≤ x.rev ∧ x.rev ≤ 999)) :
    graphB ⟨withs (L.map Link.obv), withs (L.map Link.rev), L⟩ = true := by
  rw [graphB_iff]
  refine ⟨h1, h2, h3, ?_, ?_, h4, ?_, ?_, ?_⟩
  · simp only [ascB, decide_eq_true_eq]
    refine ⟨fun n hn => ?_, withs_asc _⟩
    obtain ⟨x, hx, rfl⟩ := List.mem_map.1 ((withs_mem _ _).1 hn)
    exact (h5 x hx).1
  · simp only [ascB, decide_eq_true_eq]
    refine ⟨fun n hn => ?_, withs_asc _⟩
    obtain ⟨x, hx, rfl⟩ := List.mem_map.1 ((withs_mem _ _).1 hn)
    exact (h5 x hx).2
  · refine List.all_eq_true.2 fun x hx => ?_
    simp only [Bool.and_eq_true, hasB_iff, withs_mem]
    exact ⟨List.mem_map_of_mem hx, List.mem_map_of_mem hx⟩
  · exact List.all_eq_true.2 fun n hn => (hasB_iff _ _).2 ((withs_mem _ _).1 hn)
  · exact List.all_eq_true.2 fun n hn => (hasB_iff _ _).2 ((withs_mem _ _).1 hn)
theorem renG_valid {g : Graph} {o r : List Int} (h : renOK g o r = true) : graphB (renG g o r) = true := by
  obtain ⟨hg, no, nr⟩ := renOK_iff.1 h
  have hok := (graphB_iff g).1 hg
  have hE := graphB_ends hg
  have ho : ∀ x ∈ g.links, renI g.obv o x.obv ∈ o := fun x hx => by
    obtain ⟨i, y, _, hy, e⟩ := renI_ex no.len (nodup_of_asc (ascB_asc hok.ao)) (hE.1 x hx)
    rw [e]; exact List.mem_of_getElem? hy
  have hr : ∀ x ∈ g.links, renI g.rev r x.rev ∈ r := fun x hx => by
    obtain ⟨i, y, _, hy, e⟩ := renI_ex nr.len (nodup_of_asc (ascB_asc hok.ar)) (hE.2 x hx)
    rw [e]; exact List.mem_of_getElem? hy
  have len : ∀ {l k : List Int} {n : Nat}, (∀ m ∈ l, m ∈ k) → k.length = n → n ≤ 32 → (withs l).length ≤ 32 := fun {l k n} hs hn h32 => by
    have h1 := (asc_sub (withs_asc k) (withs_asc l) fun m hm => (withs_mem k m).2 (hs m ((withs_mem l m).1 hm))).1
    have h2 := withs_len k
    omega
  rw [renG_with h]
  refine graphB_made (len (k := o) (fun m hm => ?_) no.len hok.lo) (len (k := r) (fun m hm => ?_) nr.len hok.lr) (by simp [renL]; exact hok.ll) (by rw [renL_ids]; exact hok.ids) fun x hx => ?_
  · obtain ⟨z, hz, rfl⟩ := List.mem_map.1 hm
    obtain ⟨x, hx, rfl⟩ := List.mem_map.1 hz
    exact ho x hx
  · obtain ⟨z, hz, rfl⟩ := List.mem_map.1 hm
    obtain ⟨x, hx, rfl⟩ := List.mem_map.1 hz
    exact hr x hx
  · obtain ⟨z, hz, rfl⟩ := List.mem_map.1 hx
    exact ⟨no.range _ (ho z hz), nr.range _ (hr z hz)⟩
theorem ren_deg0 {g : Graph} {o r : List Int} (h : renOK g o r = true) {i : Nat} {a b : Int} (ha : g.obv[i]? = some a) (hb : o[i]? = some b) : degI (renG g o r) ⟨0, b⟩ = degI g ⟨0, a⟩ := by
  obtain ⟨hg, no, nr⟩ := renOK_iff.1 h
  have hok := (graphB_iff g).1 hg
  have hE := graphB_ends hg
  rw [degI, degI, if_pos (renG_valid h), if_pos hg, renG_with h]
  simp only [renL, List.countP_map]
  congr 1
  refine List.countP_congr fun x hx => ?_
  have := renI_eq no.len (nodup_of_asc (ascB_asc hok.ao)) no.nodup (hE.1 x hx) ha hb
  simp only [Function.comp, touchB, renLink]
  rw [this]
  simp
theorem ren_deg1 {g : Graph} {o r : List Int} (h : renOK g o r = true) {i : Nat} {a b : Int} (ha : g.rev[i]? = some a) (hb : r[i]? = some b) : degI (renG g o r) ⟨1, b⟩ = degI g ⟨1, a⟩ := by
  obtain ⟨hg, no, nr⟩ := renOK_iff.1 h
  have hok := (graphB_iff g).1 hg
  have hE := graphB_ends hg
  rw [degI, degI, if_pos (renG_valid h), if_pos hg, renG_with h]
  simp only [renL, List.countP_map]
  congr 1
  refine List.countP_congr fun x hx => ?_
  have := renI_eq nr.len (nodup_of_asc (ascB_asc hok.ar)) nr.nodup (hE.2 x hx) ha hb
  simp only [Function.comp, touchB, renLink]
  rw [this]
  simp
theorem renG_links {g : Graph} {o r : List Int} (h : renOK g o r = true) : (renG g o r).links.length = g.links.length := by
  rw [renG_with h]; simp [renL]
end Go.Proofs.Ytifgpmhkdnmhlaa
