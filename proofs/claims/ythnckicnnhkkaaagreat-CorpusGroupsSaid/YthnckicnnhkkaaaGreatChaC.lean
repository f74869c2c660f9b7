/- Corpus: Chains. Condition: the corpus reads as such, or it is nil. -/
import Derived.Test.YthnckicnnhkkaaaGreatCorO
import Derived.Test.YthnckicnnhkkaaaGreatCompB
import Derived.Test.YthnckicnnhkkaaaGreatTopA
namespace Go.Proofs.YthnckicnnhkkaaaGreat
open Go.RowKit Go.Maps Go.Shelf

theorem rowsD_nil (w : World) : RowsD w (.slice none 0 0) [] := ⟨none, 0, [], rfl, Nat.le_refl _, by simp [maxLen], Sl.nil _ _ _, by simp⟩
/-- Chains that no store below B changes. -/
def RowsT (B : Nat) (w : World) (u : Value) (R : List (List Die)) : Prop := ∀ (w' : World) (S : List Nat), Touch w w' S → (∀ b ∈ S, b < B) → RowsD w' u R
theorem RowsT.below {B : Nat} {w w' : World} {u : Value} {R : List (List Die)} (h : RowsT B w u R) (hb : Below w.heap.size w w') : RowsD w' u R := h w' [] (touch_below hb []) (by simp)
theorem RowsT.rows {B : Nat} {w : World} {u : Value} {R : List (List Die)} (h : RowsT B w u R) : RowsD w u R := h.below (Below.refl _ _)
theorem ChSt.rowsT {B : Nat} {w : World} {u : Value} {hs : List Hdr} {R : List (List Die)} (h : ChSt B w u hs R) : RowsT B w u R := by
  intro w' S ht hS
  obtain ⟨A, c, e, h1, h2, h3⟩ := (h.own.touch ht hS).slOf
  refine ⟨A, c, hs.flatMap encH, by rw [e, h.len], by rw [← h.len]; exact h1, h2, by rw [← h.len]; exact h3, fun i x r hx hr => ?_⟩
  have hf := flat_get encH 1 lenH hs i 0 (by omega)
  rw [Nat.mul_one, Nat.add_zero, hx] at hf
  obtain ⟨y, hy⟩ := get_of_lt (show i < hs.length by rw [h.len]; exact lt_of_get hr)
  rw [hy] at hf
  obtain rfl : x = y.v := by simpa [encH] using hf
  exact ((h.row i y r hy hr).touch ht hS).slOf
theorem rowsT_nil (B : Nat) (w : World) : RowsT B w (.slice none 0 0) [] := fun _ _ _ _ => rowsD_nil _
theorem RowsT.le {B B' : Nat} {w : World} {u : Value} {R : List (List Die)} (h : RowsT B w u R) (hb : B' ≤ B) : RowsT B' w u R := fun w' S ht hS => h w' S ht fun b hb' => by have := hS b hb'; omega
def chaE (l : List Spec) : Int := if ofE l = 0 then validE (ofG l) else ofE l
noncomputable def chaL (l : List Spec) : List (List Die) := if ofE l = 0 then chainsG (ofG l) else []
set_option maxHeartbeats 4000000 in
set_option maxRecDepth 100000 in
theorem CChains_ok (v : Value) (l : List Spec) (D : List Dec) (W : List Mrk) (w : World) (h : CorO w v l D W) :
    Calls Tryz.prog 25 #[v] w fun e w' => ∃ u, e = .returned (.tuple #[u, .int .i64 (chaE (effL (standL D W) l))]) ∧ RowsT w.heap.size w' u (chaL (effL (standL D W) l)) ∧ Below w.heap.size w w' := by
  have HE := Lib.hid (Effective_ok v l D W w h)
  obtain ⟨q, rfl⟩ : ∃ q, v = .pointer q := by
    rcases h with ⟨rfl, _⟩ | ⟨S, p, rfl, _⟩
    · exact ⟨_, rfl⟩
    · exact ⟨_, rfl⟩
  generalize effL (standL D W) l = E at HE ⊢
  clear h
  go_enter Tryz.func25, Tryz.ntmps25
  go_wp2_with fail
  refine HE.out.mono ?_
  rintro e w1 ⟨u, rfl, ho, hb1⟩
  have HO := Lib.hid (Of_ok u E w1 ho.slOf)
  obtain ⟨Au, cu, rfl, _⟩ := id ho.slOf
  clear ho
  go_wp2_with fail
  refine HO.out.mono ?_
  rintro e w2 ⟨g, rfl, hg, hb2⟩
  have hg0 := hg
  obtain ⟨v1, v2, v3, rfl, ho, hr, hl⟩ := hg0
  obtain ⟨A1, c1, rfl, _, _, _⟩ := ho.cells
  obtain ⟨A2, c2, rfl, _, _, _⟩ := hr.cells
  obtain ⟨A3, c3, rfl, _, _, _⟩ := hl.cells
  obtain ⟨V1, V2, hV1, hV2, HzV2, hkV1, hkV2, hbV2, hltV2⟩ := fresh w2 [.slice none 0 0, .slice none 0 0, .slice none 0 0] [.slice A1 (ofG E).obv.length c1, .slice A2 (ofG E).rev.length c2, .slice A3 (ofG E).links.length c3] 76 rfl
  have hsV2 : ((V1.setCell ⟨w2.heap.size, 0, none⟩ (.slice A1 (ofG E).obv.length c1)).setCell ⟨w2.heap.size, 1, none⟩ (.slice A2 (ofG E).rev.length c2)).setCell ⟨w2.heap.size, 2, none⟩ (.slice A3 (ofG E).links.length c3) = V2 := hV2
  clear hV2
  obtain ⟨⟨z0, z1, z2⟩, f0, f1, f2⟩ := cells3 hkV1
  obtain ⟨⟨s0, s1, s2⟩, _⟩ := cells3 hkV2
  have HzV := Lib.hid HzV2
  clear hkV1 hkV2 ho hr hl HzV2
  by_cases hz : ofE E = 0
  · have HC := Lib.hid (Chains_ok _ _ V2 (hg.below hbV2))
    have HE2 : Hid (chaE E = validE (ofG E) ∧ chaL E = chainsG (ofG E)) := Lib.hid ⟨if_pos hz, if_pos hz⟩
    rw [hz]
    clear hg hz HO HE
    go_wp2_with fail
    refine HC.out.mono ?_
    rintro e w3 ⟨u2, hs, rfl, hch, hb3⟩
    have HR := Lib.hid (hch.rowsT.le (below_trans hb1 (below_trans hb2 hbV2)).size)
    clear hch z0 z1 z2 f0 f1 f2 s0 s1 s2 hsV2
    go_wp2_with fail
    go_ret2
    exact ⟨u2, by rw [HE2.out.1]; rfl, by rw [HE2.out.2]; exact HR.out, below_trans hb1 (below_trans hb2 (below_trans hbV2 hb3))⟩
  · have HE2 : Hid (chaE E = ofE E ∧ chaL E = []) := Lib.hid ⟨if_neg hz, if_neg hz⟩
    have t1 : (ofE E != 0) = true := by simpa using hz
    have t2 : decide (ofE E = 0) = false := by simpa using hz
    clear hg hz HO HE
    go_wp2_with fail
    go_ret2
    exact ⟨.slice none 0 0, by rw [HE2.out.1]; rfl, by rw [HE2.out.2]; exact rowsT_nil _ _, below_trans hb1 (below_trans hb2 hbV2)⟩
end Go.Proofs.YthnckicnnhkkaaaGreat
