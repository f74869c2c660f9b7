/- linkage.Dies; the reference's Dies and Degree. Condition: the arguments read as graphs and dies. -/
import Derived.Test.YtikfffojeakjoaaGreatDoorLinkH
namespace Go.Proofs.YtikfffojeakjoaaGreatDoor
open Go.RowKit Go.Shelf

def diesG (g : Graph) : List Die := if graphB g = true then g.obv.map (Die.mk 0) ++ g.rev.map (Die.mk 1) else []

set_option maxHeartbeats 4000000 in
set_option maxRecDepth 100000 in
theorem Dies_own (v : Value) (g : Graph) (w : World) (h : GraphAt w v g) :
    Calls Tryz.prog 98 #[v] w fun e w' => ∃ u, e = .returned (.tuple #[u, .int .i64 (validE g)]) ∧ OwnD w.heap.size w' u (diesG g) ∧ Below w.heap.size w w' := by
    have h0 := h
    obtain ⟨v1, v2, v3, rfl, ho, hr, hl⟩ := h
    obtain ⟨A1, c1, rfl, o1, o2, hco⟩ := ho.cells
    obtain ⟨A2, c2, rfl, r1, r2, hcr⟩ := hr.cells
    obtain ⟨A3, c3, rfl, _, _, _⟩ := hl.cells
    obtain ⟨W, hW, Hz, hwW, hlt, hc1⟩ := boxed w #[.slice A1 g.obv.length c1, .slice A2 g.rev.length c2, .slice A3 g.links.length c3] 68
    have a0 := hc1 0 _ rfl; have a1 := hc1 1 _ rfl; have a2 := hc1 2 _ rfl
    clear hc1
    go_enter Tryz.func98, Tryz.ntmps98
    go_wp2_with fail
    refine (Valid_ok _ _ _ (h0.below hwW)).mono ?_
    rintro e w1 ⟨rfl, hb1⟩
    clear hW
    have b0 := cell_later hb1 a0; have b1 := cell_later hb1 a1; have b2 := cell_later hb1 a2
    have hw1 := below_trans hwW hb1
    clear a0 a1 a2
    cases hg : graphB g
    · go_wp2_with fail
      go_ret2
      exact ⟨_, ret_mat (by simp [validE, hg]), by simp only [diesG, hg]; exact own_nil encD 2 43 _ _, hw1⟩
    have hok := (graphB_iff g).1 hg
    have hlo := hok.lo; have hlr := hok.lr
    have hvz : validE g = 0 := by simp [validE, hg]
    have hmz : diesG g = g.obv.map (Die.mk 0) ++ g.rev.map (Die.mk 1) := by simp [diesG, hg]
    have Hvz := Lib.hid hvz; have Hmz := Lib.hid hmz; clear hvz hmz hok
    obtain ⟨iD, hiD, hzD, hkD, hbD⟩ := info_parts infoD
    go_wp2_with fail
    go_loopw [4, 15] (fun u i wr => ∃ k : Nat, k ≤ g.obv.length ∧ i = .int .i64 k ∧ OwnD w1.heap.size wr u ((g.obv.take k).map (Die.mk 0)) ∧ Below w1.heap.size w1 wr) (fun _ i _ => g.obv.length - (intOf i).toNat)
    case atStart => exact ⟨0, Nat.zero_le _, rfl, own_nil _ _ _ _ _, Below.refl _ _⟩
    case round =>
      obtain ⟨k, hk, rfl, hown, hb⟩ := hrel
      have d0 := cell_later hb b0; have d1 := cell_later hb b1
      by_cases hlt' : k < g.obv.length
      · obtain ⟨b, o, rfl, _, hc⟩ := hco k hlt'
        obtain ⟨x, hx⟩ := get_of_lt hlt'
        have e0 := hc wr (hw1.trans (hb.mono hw1.size)) k x hx
        have Hx := Lib.hid hx; clear hx hc
        have hl1 : (k : Int) < (g.obv.length : Int) := by omega
        have hl0 : (0 : Int) ≤ (k : Int) := by omega
        have hlen : ((g.obv.take k).map (Die.mk 0)).length ≤ 32 := by simp; omega
        have hBs := hb.size
        go_wp2_with (at_builtin; refine wpList_append1 (enc := encD) (size := 2) (B := w1.heap.size) rfl (.tmp 19) (.tmp 22) _ rfl 43 iD _ 16 Tryz.underlying110 hiD hzD hkD hbD rfl (by decide) rfl hown (Die.mk 0 x) _ rfl lenD oneD _ rfl rfl (by omega) (by omega) hBs ?_; intro v' w2 hown' hgrow hat)
        refine ⟨?rel, ?measure⟩
        case rel => exact ⟨k + 1, by omega, by go_num, by rw [map_take_snoc _ Hx.out]; exact hown', hb.trans (below_append hown hgrow hBs)⟩
        case measure => simp [intOf]; omega
      · have e1 : g.obv.take k = g.obv := List.take_of_length_le (by omega)
        rw [e1] at hown
        clear e1
        have hb0 := hb
        go_wp2_with fail
        go_loopw [4, 28] (fun u i wr => ∃ k : Nat, k ≤ g.rev.length ∧ i = .int .i64 k ∧ OwnD w1.heap.size wr u (g.obv.map (Die.mk 0) ++ (g.rev.take k).map (Die.mk 1)) ∧ Below w1.heap.size w1 wr) (fun _ i _ => g.rev.length - (intOf i).toNat)
        case atStart => exact ⟨0, Nat.zero_le _, rfl, by simpa using hown, hb⟩
        case round =>
          clear hown hb hb0 d0 d1
          obtain ⟨j, hj, rfl, hown, hb⟩ := hrel
          have d1 := cell_later hb b1
          by_cases hlt2 : j < g.rev.length
          · obtain ⟨b, o, rfl, _, hc⟩ := hcr j hlt2
            obtain ⟨x, hx⟩ := get_of_lt hlt2
            have e0 := hc _ (hw1.trans (hb.mono hw1.size)) j x hx
            have Hx := Lib.hid hx; clear hx hc
            have hl1 : (j : Int) < (g.rev.length : Int) := by omega
            have hl0 : (0 : Int) ≤ (j : Int) := by omega
            have hlen : (g.obv.map (Die.mk 0) ++ (g.rev.take j).map (Die.mk 1)).length ≤ 64 := by simp; omega
            have hBs := hb.size
            go_wp2_with (at_builtin; refine wpList_append1 (enc := encD) (size := 2) (B := w1.heap.size) rfl (.tmp 32) (.tmp 35) _ rfl 43 iD _ 16 Tryz.underlying110 hiD hzD hkD hbD rfl (by decide) rfl hown (Die.mk 1 x) _ rfl lenD oneD _ rfl rfl (by omega) (by omega) hBs ?_; intro v' w2 hown' hgrow hat)
            refine ⟨?rel, ?measure⟩
            case rel => exact ⟨j + 1, by omega, by go_num, by rw [map_take_snoc _ Hx.out, ← List.append_assoc]; exact hown', hb.trans (below_append hown hgrow hBs)⟩
            case measure => simp [intOf]; omega
          · have e1 : g.rev.take j = g.rev := List.take_of_length_le (by omega)
            rw [e1] at hown
            clear e1
            go_wp2_with fail
            go_ret2
            exact ⟨_, ret_mat Hvz.out.symm, by rw [Hmz.out]; exact hown.base hw1.size, hw1.trans (hb.mono hw1.size)⟩
theorem Dies_ok (v : Value) (g : Graph) (w : World) (h : GraphAt w v g) :
    Calls Tryz.prog 98 #[v] w fun e w' => ∃ u, e = .returned (.tuple #[u, .int .i64 (validE g)]) ∧ Dies w' u (diesG g) ∧ Below w.heap.size w w' :=
  (Dies_own v g w h).mono fun _ _ ⟨u, h1, h2, h3⟩ => ⟨u, h1, h2.slOf, h3⟩

end Go.Proofs.YtikfffojeakjoaaGreatDoor
/- linkage.Partners. Condition: the argument reads as a graph. -/
namespace Go.Proofs.YtikfffojeakjoaaGreatDoor
open Go.RowKit Go.Shelf

def partE (g : Graph) (d : Die) : Int := if graphB g = true then (if degI g d = 0 then 7 else 0) else 1
def partL (g : Graph) (d : Die) : List Int := (g.links.filter fun x => touchB x d).map fun x => endI x (1 - d.side)
def partG (g : Graph) (d : Die) : List Int := if graphB g = true then withs (partL g d) else []

theorem deg_zero {g : Graph} {d : Die} (h : degI g d = 0) (hg : graphB g = true) : partL g d = [] := by
  simp only [degI, if_pos hg] at h
  have h0 : g.links.countP (fun x => touchB x d) = 0 := by omega
  rw [List.countP_eq_zero] at h0
  have : (g.links.filter fun x => touchB x d) = [] := List.filter_eq_nil_iff.2 h0
  simp [partL, this]
theorem deg_side {g : Graph} {d : Die} (h : degI g d ≠ 0) : d.side = 0 ∨ d.side = 1 := by
  by_cases hs : d.side = 0 ∨ d.side = 1
  · exact hs
  · exfalso; apply h
    unfold degI
    split
    · have : g.links.countP (fun x => touchB x d) = 0 := by simp [touch_none hs]
      rw [this]; rfl
    · rfl
theorem filter_map_snoc {α β : Type} {p : α → Bool} {f : α → β} {l : List α} {k : Nat} {x : α} (hx : l[k]? = some x) : ((l.take (k + 1)).filter p).map f = ((l.take k).filter p).map f ++ (if p x = true then [f x] else []) := by
  rw [take_snoc' hx, List.filter_append, List.map_append]
  congr 1
  by_cases h : p x = true <;> simp [h]
theorem graphB_links {g : Graph} (h : graphB g = true) : g.links.length ≤ 64 := ((graphB_parts g).1 h).1.1.2.2
def pickL (ls : List Link) (s o n : Int) : List Int := (ls.filter fun x => touchB x ⟨s, n⟩).map fun x => endI x o
theorem pick_snoc {ls : List Link} {k : Nat} {x : Link} {s o n : Int} (hx : ls[k]? = some x) : pickL (ls.take (k + 1)) s o n = pickL (ls.take k) s o n ++ (if touchB x ⟨s, n⟩ = true then [endI x o] else []) := filter_map_snoc hx
theorem pick_len (ls : List Link) (s o n : Int) : (pickL ls s o n).length ≤ ls.length := by
  rw [pickL, List.length_map]; exact List.length_filter_le _ _
end Go.Proofs.YtikfffojeakjoaaGreatDoor
