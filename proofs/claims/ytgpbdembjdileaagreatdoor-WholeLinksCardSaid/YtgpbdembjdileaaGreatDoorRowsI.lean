/- A slice of slices of numbers that grow. No condition. -/
import Derived.Test.YtgpbdembjdileaaGreatDoorCompB
namespace Go.Proofs.YtgpbdembjdileaaGreatDoor
open Go.RowKit Go.Maps

theorem infoHI : (Tryz.prog.info? 26).map (fun i => (i.zero, i.size, i.bytes)) = some (some (.slice none 0 0), 1, 24) := by kernel_rfl
abbrev OwnHI (B : Nat) (w : World) (u : Value) (hs : List Hdr) : Prop := Own encH 1 26 B w u hs
structure RoSt (B : Nat) (w : World) (u : Value) (hs : List Hdr) (R : List (List Int)) : Prop where
  own : OwnHI B w u hs
  len : hs.length = R.length
  row : ∀ (i : Nat) (h : Hdr) (r : List Int), hs[i]? = some h → R[i]? = some r → OwnI B w h.v r
  apart : ∀ (i j : Nat) (h k : Hdr), hs[i]? = some h → hs[j]? = some k → i ≠ j → Apart h.v k.v
section
variable {B : Nat} {w w' : World} {u : Value} {hs : List Hdr} {R : List (List Int)}
theorem rowi_ne {x : Value} {r : List Int} (h : OwnI B w x r) (ho : OwnHI B w u hs) : x.ownBlock = none ∨ x.ownBlock ≠ u.ownBlock := by
  rcases h.2 with ⟨rfl, _⟩ | ⟨g, cap, cur, rfl, _, hg, _⟩
  · exact .inl rfl
  · exact .inr (own_block ho hg (by decide))
theorem ne_rowi {x : Value} {r : List Int} (h : OwnI B w x r) (ho : OwnHI B w u hs) : u.ownBlock = none ∨ u.ownBlock ≠ x.ownBlock := by
  rcases rowi_ne h ho with e | e
  · rw [e]; cases u.ownBlock <;> simp
  · exact .inr fun e2 => e e2.symm
theorem roSt_nil (B : Nat) (w : World) : RoSt B w (.slice none 0 0) [] [] := ⟨own_nil _ _ _ _ _, rfl, fun i h r hh => by simp at hh, fun i j h k hh => by simp at hh⟩
theorem RoSt.below (h : RoSt B w u hs R) (hb : Below w.heap.size w w') : RoSt B w' u hs R := ⟨h.own.below hb, h.len, fun i x r h1 h2 => (h.row i x r h1 h2).below hb, h.apart⟩
theorem RoSt.push {v' : Value} (h : RoSt B w u hs R) (hown : OwnHI B w' v' (hs ++ [⟨none, 0, 0⟩])) (hg : w.grownBy w' u.ownBlock) : RoSt B w' v' (hs ++ [⟨none, 0, 0⟩]) (R ++ [[]]) := by
  refine ⟨hown, by simp [h.len], fun i x r h1 h2 => ?_, fun i j x k h1 h2 hij => ?_⟩
  · rcases Nat.lt_or_ge i hs.length with hi | hi
    · rw [List.getElem?_append_left hi] at h1
      rw [List.getElem?_append_left (by rw [← h.len]; exact hi)] at h2
      have := h.row i x r h1 h2
      exact this.kept hg (rowi_ne this h.own)
    · have hl := lt_of_get h1
      simp at hl
      obtain rfl : i = hs.length := by omega
      rw [List.getElem?_append_right (Nat.le_refl _)] at h1
      rw [h.len, List.getElem?_append_right (Nat.le_refl _)] at h2
      simp at h1 h2
      subst h1; subst h2
      exact own_nil _ _ _ _ _
  · rcases Nat.lt_or_ge i hs.length with hi | hi
    · rw [List.getElem?_append_left hi] at h1
      rcases Nat.lt_or_ge j hs.length with hj | hj
      · rw [List.getElem?_append_left hj] at h2
        exact h.apart i j x k h1 h2 hij
      · have hl := lt_of_get h2
        simp at hl
        obtain rfl : j = hs.length := by omega
        rw [List.getElem?_append_right (Nat.le_refl _)] at h2
        simp at h2
        subst h2
        unfold Apart
        cases x.v.ownBlock <;> simp [Value.ownBlock]
    · have hl := lt_of_get h1
      simp at hl
      obtain rfl : i = hs.length := by omega
      rw [List.getElem?_append_right (Nat.le_refl _)] at h1
      simp at h1
      subst h1
      exact .inl rfl
theorem own_hdri {x : Value} {r : List Int} (h : OwnI B w x r) : ∃ k : Hdr, x = k.v := by
  rcases h.cases with ⟨rfl, rfl⟩ | ⟨g, cap, rfl, _⟩
  · exact ⟨⟨none, 0, 0⟩, rfl⟩
  · exact ⟨⟨_, _, _⟩, rfl⟩
theorem RoSt.put {gu n cap k : Nat} {h0 h1 : Hdr} {r0 r1 : List Int} (h : RoSt B w (.slice (some ⟨gu, 0, none⟩) n cap) hs R) (hn : n = hs.length) (hk : hs[k]? = some h0) (hr : R[k]? = some r0)
    (ho : OwnI B w' h1.v r1) (hg : w.grownBy w' h0.v.ownBlock) (hat : h1.v.ownBlock = h0.v.ownBlock ∨ h1.v.ownBlock = some w.heap.size) :
    RoSt B (w'.setCell ⟨gu, k, none⟩ h1.v) (.slice (some ⟨gu, 0, none⟩) n cap) (hs.set k h1) (R.set k r1) := by
  have hrow0 := h.row k h0 r0 hk hr
  have hu : OwnHI B w' (.slice (some ⟨gu, 0, none⟩) n cap) hs := h.own.kept hg (ne_rowi hrow0 h.own)
  have hkl := lt_of_get hk
  have hset := setCells_grown gu (encH h1) w' (k * 1)
  have hput := hu.put lenH (by omega) hn (show k < n by omega) h1
  rw [show w'.setCell ⟨gu, k, none⟩ h1.v = w'.setCells gu (k * 1) (encH h1) by rw [Nat.mul_one]; rfl]
  have hlt : ∀ (i : Nat) (x : Hdr), hs[i]? = some x → ∀ g, x.v.ownBlock = some g → g < w.heap.size := fun i x hx g e => by
    obtain ⟨r, hr⟩ := get_of_lt (show i < R.length by rw [← h.len]; exact lt_of_get hx)
    exact ((h.row i x r hx hr).lt g e).2
  refine ⟨hput, by simp [h.len], fun i x r q1 q2 => ?_, fun i j x y q1 q2 hij => ?_⟩
  · by_cases e : k = i
    · subst e
      rw [List.getElem?_set_self hkl] at q1
      rw [List.getElem?_set_self (by rw [← h.len]; exact hkl)] at q2
      cases q1; cases q2
      exact ho.kept hset (rowi_ne ho hu)
    · rw [List.getElem?_set_ne e] at q1
      rw [List.getElem?_set_ne e] at q2
      have h3 := h.row i x r q1 q2
      have h4 := h3.kept hg (h.apart i k x h0 q1 hk (fun e2 => e e2.symm))
      exact h4.kept hset (rowi_ne h4 hu)
  · by_cases e : k = i
    · subst e
      rw [List.getElem?_set_self hkl] at q1
      cases q1
      rw [List.getElem?_set_ne hij] at q2
      exact (h.apart k j h0 y hk q2 hij).append hat (hlt j y q2)
    · rw [List.getElem?_set_ne e] at q1
      by_cases e2 : k = j
      · subst e2
        rw [List.getElem?_set_self hkl] at q2
        cases q2
        exact (h.apart i k x h0 q1 hk hij).append' hat (hlt i x q1)
      · rw [List.getElem?_set_ne e2] at q2
        exact h.apart i j x y q1 q2 hij
end
theorem RoSt.base {B B' : Nat} {w : World} {u : Value} {hs : List Hdr} {R : List (List Int)} (h : RoSt B w u hs R) (hB : B' ≤ B) : RoSt B' w u hs R := ⟨h.own.base hB, h.len, fun i x r h1 h2 => (h.row i x r h1 h2).base hB, h.apart⟩
theorem RoSt.len_le {B : Nat} {w : World} {u : Value} {hs : List Hdr} {R : List (List Int)} (h : RoSt B w u hs R) : ∃ A c, u = .slice A R.length c := by
  obtain ⟨A, c, e, _⟩ := h.own.slOf
  exact ⟨A, c, by rw [e, h.len]⟩
theorem RoSt.rows {B : Nat} {w : World} {u : Value} {hs : List Hdr} {R : List (List Int)} (h : RoSt B w u hs R) : Rows w u R := by
  obtain ⟨A, c, e, h1, h2, h3⟩ := h.own.slOf
  refine ⟨A, c, hs.flatMap encH, by rw [e, h.len], by rw [← h.len]; exact h1, h2, by rw [← h.len]; exact h3, fun i x r hx hr => ?_⟩
  have hf := flat_get encH 1 lenH hs i 0 (by omega)
  rw [Nat.mul_one, Nat.add_zero, hx] at hf
  obtain ⟨y, hy⟩ := get_of_lt (show i < hs.length by rw [h.len]; exact lt_of_get hr)
  rw [hy] at hf
  obtain rfl : x = y.v := by simpa [encH] using hf
  exact (h.row i y r hy hr).slOf
end Go.Proofs.YtgpbdembjdileaaGreatDoor
