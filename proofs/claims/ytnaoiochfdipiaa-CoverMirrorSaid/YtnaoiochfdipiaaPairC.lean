/- linkage.Pairs. Condition: the argument reads as a graph. -/
import Derived.Test.YtnaoiochfdipiaaPairP
import Derived.Test.YtnaoiochfdipiaaPairB
import Derived.Test.YtnaoiochfdipiaaLinkI
namespace Go.Proofs.Ytnaoiochfdipiaa
open Go.RowKit Go.Shelf

set_option maxHeartbeats 4000000 in
set_option maxRecDepth 100000 in
theorem Pairs_ok (v : Value) (g : Graph) (w : World) (h : GraphAt w v g) :
    Calls Try.prog 37 #[v] w fun e w' => ∃ u, e = .returned (.tuple #[u, .int .i64 (validE g)]) ∧ Pairs w' u (pairsG g) ∧ Below w.heap.size w w' := by
  have h0 := h
  obtain ⟨v1, v2, v3, rfl, ho, hr, hl⟩ := h
  obtain ⟨A1, c1, rfl, _, _, _⟩ := ho.cells
  obtain ⟨A2, c2, rfl, _, _, _⟩ := hr.cells
  obtain ⟨A3, c3, rfl, l1, l2, hcl⟩ := hl.cells
  obtain ⟨W, hW, Hz, hwW, hlt, hc1⟩ := boxed w #[.slice A1 g.obv.length c1, .slice A2 g.rev.length c2, .slice A3 g.links.length c3] 25
  have a0 := hc1 0 _ rfl; have a1 := hc1 1 _ rfl; have a2 := hc1 2 _ rfl
  clear hc1
  go_enter Try.func37, Try.ntmps37
  go_wp2_with fail
  refine (Valid_ok _ _ _ (h0.below hwW)).mono ?_
  rintro e w1 ⟨rfl, hb1⟩
  clear hW
  have b0 := cell_later hb1 a0; have b1 := cell_later hb1 a1; have b2 := cell_later hb1 a2
  have hw1 := below_trans hwW hb1
  clear a0 a1 a2
  cases hg : graphB g
  · go_wp2_with fail
    go_ret2
    exact ⟨_, ret_mat (by simp [validE, hg]), by simp only [pairsG, hg]; exact (own_nil encP 2 48 0 _).slOf, hw1⟩
  have hok := (graphB_iff g).1 hg
  have hE := graphB_ends hg
  have Hcp := Lib.hid (fun zs (h : ByPair (g.links.map pairOf) zs) => compact_pairs (ascB_asc hok.ao) (ascB_asc hok.ar) hE.1 hE.2 h)
  have hll := hok.ll
  have hvz : validE g = 0 := by simp [validE, hg]
  have hmz : pairsG g = pairsOf g.obv g.rev g.links := by simp [pairsG, hg]
  have Hvz := Lib.hid hvz; have Hmz := Lib.hid hmz; clear hvz hmz hok hE hg
  obtain ⟨iP, hiP, hzP, hkP, hbP⟩ := info_parts infoP
  go_wp2_with fail
  go_loopw [4, 13] (fun u i wr => ∃ k : Nat, k ≤ g.links.length ∧ i = .int .i64 k ∧ OwnP w1.heap.size wr u ((g.links.take k).map pairOf) ∧ Below w1.heap.size w1 wr) (fun _ i _ => g.links.length - (intOf i).toNat)
  case atStart => exact ⟨0, Nat.zero_le _, rfl, own_nil _ _ _ _ _, Below.refl _ _⟩
  case round =>
    obtain ⟨k, hk, rfl, hown, hb⟩ := hrel
    by_cases hlt' : k < g.links.length
    · obtain ⟨b, o, rfl, _, hc⟩ := hcl k hlt'
      obtain ⟨x, hx⟩ := get_of_lt hlt'
      obtain ⟨e0, e1, e2⟩ := hc wr (hw1.trans (hb.mono hw1.size)) k x hx
      have Hx := Lib.hid hx; clear hx hc
      obtain ⟨W1, hW1, Hz1, hb2, hlt1, hc1⟩ := boxed wr #[.int .i64 x.id, .int .i64 x.obv, .int .i64 x.rev] 32
      have m1 := hc1 1 _ rfl; have m2 := hc1 2 _ rfl
      clear hc1
      have hq := hown.below hb2
      have hBs : w1.heap.size ≤ W1.heap.size := by have := hb.size; have := hb2.size; omega
      have hlen : ((g.links.take k).map pairOf).length ≤ 64 := by simp; omega
      have hbW := below_trans hb hb2
      go_wp2_with (at_builtin; refine wpList_append1 (enc := encP) (size := 2) (B := w1.heap.size) rfl (.tmp 17) (.tmp 23) _ rfl 48 iP _ 16 Try.underlying37 hiP hzP hkP hbP rfl (by decide) rfl hq (pairOf x) _ rfl lenP oneP _ rfl rfl (by omega) (by omega) hBs ?_; intro v' w2 hown' hgrow hat)
      refine ⟨?rel, ?measure⟩
      case rel => exact ⟨k + 1, by omega, by go_num, by rw [map_take_snoc _ Hx.out]; exact hown', hbW.trans (below_append hq hgrow hBs)⟩
      case measure => simp [intOf]; omega
    · have e1 : g.links.take k = g.links := List.take_of_length_le (by omega)
      rw [e1] at hown
      clear e1
      have hlen : (g.links.map pairOf).length ≤ 1048576 := by simp; omega
      have hww := hw1.trans (hb.mono hw1.size)
      have hsz := hb.size
      have hsz1 := hw1.size
      have Hown := Lib.hid hown; clear hown
      go_wp2_with fail
      refine (sortFuncP_ok _ _ _ _ Hown.out hlen).mono ?_
      rintro e w2 ⟨rfl, ys, hys, hby, hyl, hg2⟩
      have hb2 : Below w.heap.size w w2 := hww.grown hg2 (by omega) (fun j e => by have := (Hown.out.lt j e).1; omega)
      have Hby := Lib.hid hby; have Hyl := Lib.hid hyl; clear hby hyl
      have hz2 := hg2.size
      clear hg2
      go_wp2_with fail
      refine (compactP_ok _ _ _ _ hys (by rw [Hyl.out]; exact hlen)).mono ?_
      rintro e w3 ⟨u, rfl, hu, _, hg3⟩
      rw [Hcp.out _ Hby.out] at hu
      have hb3 : Below w.heap.size w w3 := hb2.grown hg3 (by omega) (fun j e => by have := (hys.lt j e).1; omega)
      go_wp2_with fail
      go_ret2
      exact ⟨_, ret_mat Hvz.out.symm, by rw [Hmz.out]; exact hu.slOf, hb3⟩
end Go.Proofs.Ytnaoiochfdipiaa
