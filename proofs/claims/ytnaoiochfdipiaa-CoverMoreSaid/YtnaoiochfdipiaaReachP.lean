/- The dies that alternating paths from free obverses reach, plain. No program in sight, no condition. -/
import Derived.Test.YtnaoiochfdipiaaCovE
import Derived.Test.YtnaoiochfdipiaaLib2
import Derived.Test.YtnaoiochfdipiaaOwn
import Derived.ArgAppend
namespace Go.Proofs.Ytnaoiochfdipiaa
open Go.RowKit

/-- While of runs: the obverses and reverses that were reached, and those whose partners are still to be looked at (Q). -/
structure Reach (g : Graph) (s : St) (F : Int → Bool) (O R Q : List Int) : Prop where
  nodO : O.Nodup
  nodR : R.Nodup
  subO : ∀ o ∈ O, o ∈ g.obv
  subR : ∀ r ∈ R, r ∈ g.rev
  que : ∀ o ∈ Q, o ∈ O
  free : ∀ o ∈ g.obv, lookM s.obv o = none → o ∈ O
  done : ∀ o ∈ O, o ∈ Q ∨ ∀ r ∈ nbr g o, r ∈ R
  mate : ∀ r ∈ R, ∀ o, lookM s.rev r = some o → o ∈ O
  from' : ∀ o ∈ O, lookM s.obv o = none ∨ ∃ r ∈ R, lookM s.rev r = some o
  inF : ∀ r ∈ R, F r = true
  nearF : ∀ o ∈ O, ∀ x ∈ nbr g o, F x = true
section
variable {g : Graph} {s : St} {F : Int → Bool} {O R Q : List Int}
def addL (l : List Int) (x : Int) : List Int := if x ∈ l then l else l ++ [x]
theorem mem_addL {l : List Int} {x y : Int} : y ∈ addL l x ↔ y ∈ l ∨ y = x := by
  unfold addL
  split
  · exact ⟨.inl, fun h => by rcases h with h | rfl; exact h; assumption⟩
  · rw [List.mem_append, List.mem_singleton]
theorem nodup_add {l : List Int} {x : Int} (h : l.Nodup) (hx : x ∉ l) : (l ++ [x]).Nodup := by
  rw [List.nodup_append]
  exact ⟨h, by simp, fun a ha c hc e => by simp at hc; subst hc; subst e; exact hx ha⟩
theorem addL_nodup {l : List Int} {x : Int} (h : l.Nodup) : (addL l x).Nodup := by
  unfold addL
  split
  · exact h
  · exact nodup_add h (by assumption)
/-- A partner is reached; its own partner has been reached, or there is none. -/
theorem Reach.see (hg : graphB g = true) (h : Reach g s F O R Q) {o r : Int} (ho : o ∈ O) (hr : r ∈ nbr g o) (hm : ∀ o2, lookM s.rev r = some o2 → o2 ∈ O) : Reach g s F O (addL R r) Q where
  nodO := h.nodO
  nodR := addL_nodup h.nodR
  subO := h.subO
  subR x hx := by
    rcases mem_addL.1 hx with hx | rfl
    · exact h.subR x hx
    · exact nbr_rev hg o _ hr
  que := h.que
  free := h.free
  done a ha := (h.done a ha).imp id fun h1 x hx => mem_addL.2 (.inl (h1 x hx))
  mate x hx o2 h2 := by
    rcases mem_addL.1 hx with hx | rfl
    · exact h.mate x hx o2 h2
    · exact hm o2 h2
  from' a ha := (h.from' a ha).imp id fun ⟨x, hx, h1⟩ => ⟨x, mem_addL.2 (.inl hx), h1⟩
  inF x hx := by
    rcases mem_addL.1 hx with hx | rfl
    · exact h.inF x hx
    · exact h.nearF o ho _ hr
  nearF := h.nearF
/-- A partner is reached, and its own partner with it. -/
theorem Reach.push (hg : graphB g = true) (hC : Closed (nbr g) s.rev (fun r => F r = true)) (hM : Mate (nbr g) s) (h : Reach g s F O R Q) {o r o2 : Int} (ho : o ∈ O) (hr : r ∈ nbr g o) (hm : lookM s.rev r = some o2) (hn : o2 ∉ O) : Reach g s F (O ++ [o2]) (addL R r) (Q ++ [o2]) where
  nodO := nodup_add h.nodO hn
  nodR := addL_nodup h.nodR
  subO x hx := by
    rcases List.mem_append.1 hx with hx | hx
    · exact h.subO x hx
    · rw [List.mem_singleton] at hx
      subst hx
      exact nbr_obv hg (hM.link _ _ hm)
  subR x hx := by
    rcases mem_addL.1 hx with hx | rfl
    · exact h.subR x hx
    · exact nbr_rev hg o _ hr
  que x hx := by
    rcases List.mem_append.1 hx with hx | hx
    · exact List.mem_append_left _ (h.que x hx)
    · exact List.mem_append_right _ hx
  free a ha hf := List.mem_append_left _ (h.free a ha hf)
  done a ha := by
    rcases List.mem_append.1 ha with ha | ha
    · exact (h.done a ha).imp (fun h1 => List.mem_append_left _ h1) fun h1 x hx => mem_addL.2 (.inl (h1 x hx))
    · exact .inl (List.mem_append_right _ ha)
  mate x hx a h2 := by
    rcases mem_addL.1 hx with hx | rfl
    · exact List.mem_append_left _ (h.mate x hx a h2)
    · rw [hm] at h2
      cases h2
      exact List.mem_append_right _ (by simp)
  from' a ha := by
    rcases List.mem_append.1 ha with ha | ha
    · exact (h.from' a ha).imp id fun ⟨x, hx, h1⟩ => ⟨x, mem_addL.2 (.inl hx), h1⟩
    · rw [List.mem_singleton] at ha
      subst ha
      exact .inr ⟨r, mem_addL.2 (.inr rfl), hm⟩
  inF x hx := by
    rcases mem_addL.1 hx with hx | rfl
    · exact h.inF x hx
    · exact h.nearF o ho _ hr
  nearF a ha x hx := by
    rcases List.mem_append.1 ha with ha | ha
    · exact h.nearF a ha x hx
    · rw [List.mem_singleton] at ha
      subst ha
      obtain ⟨o', e1, e2⟩ := hC r (h.nearF o ho r hr)
      rw [hm] at e1
      cases e1
      exact e2 x hx
theorem Reach.pop {o : Int} (h : Reach g s F O R (o :: Q)) (hd : ∀ r ∈ nbr g o, r ∈ R) : Reach g s F O R Q where
  nodO := h.nodO
  nodR := h.nodR
  subO := h.subO
  subR := h.subR
  que x hx := h.que x (List.mem_cons_of_mem _ hx)
  free := h.free
  done a ha := by
    rcases h.done a ha with h1 | h1
    · rcases List.mem_cons.1 h1 with rfl | h1
      · exact .inr hd
      · exact .inl h1
    · exact .inr h1
  mate := h.mate
  from' := h.from'
  inF := h.inF
  nearF := h.nearF
/-- The free obverses alone. -/
theorem reach_start (hn : g.obv.Nodup) (hf : ∀ o ∈ g.obv, lookM s.obv o = none → ∀ r ∈ nbr g o, F r = true) : Reach g s F (g.obv.filter fun o => (lookM s.obv o).isNone) [] (g.obv.filter fun o => (lookM s.obv o).isNone) where
  nodO := hn.filter _
  nodR := List.nodup_nil
  subO o ho := (List.mem_filter.1 ho).1
  subR r hr := absurd hr (by simp)
  que _ h := h
  free o ho hf := List.mem_filter.2 ⟨ho, by rw [hf]; rfl⟩
  done _ h := .inl h
  mate r hr := absurd hr (by simp)
  from' o ho := .inl (by simpa using (List.mem_filter.1 ho).2)
  inF r hr := absurd hr (by simp)
  nearF o ho := hf o (List.mem_filter.1 ho).1 (by simpa using (List.mem_filter.1 ho).2)
/-- All was looked at: the reverses reached are closed, and what the program collects is their cover. -/
theorem Reach.cover (hM : Mate (nbr g) s) (hC : Closed (nbr g) s.rev (fun r => F r = true)) (h : Reach g s F O R []) :
    Closed (nbr g) s.rev (fun r => decide (r ∈ R) = true) ∧ (∀ o ∈ g.obv, lookM s.obv o = none → ∀ r ∈ nbr g o, decide (r ∈ R) = true) ∧
      (g.obv.filter fun o => !decide (o ∈ O)).map (Die.mk 0) ++ (g.rev.filter fun r => decide (r ∈ R)).map (Die.mk 1) = coverL g s.obv fun r => decide (r ∈ R) := by
  have hd : ∀ o ∈ O, ∀ r ∈ nbr g o, r ∈ R := fun o ho => (h.done o ho).resolve_left (by simp)
  refine ⟨fun r hr => ?_, fun o ho hf r hr => ?_, ?_⟩
  · have hr' : r ∈ R := of_decide_eq_true hr
    obtain ⟨o', e1, _⟩ := hC r (h.inF r hr')
    exact ⟨o', e1, fun x hx => decide_eq_true (hd o' (h.mate r hr' o' e1) x hx)⟩
  · rw [decide_eq_true_eq]
    exact hd o (h.free o ho hf) r hr
  · rw [coverL]
    congr 2
    refine List.filter_congr fun o ho => ?_
    cases hl : lookM s.obv o with
    | none => simp [h.free o ho hl]
    | some r =>
      have hb := hM.fwd _ _ hl
      simp only
      congr 1
      rw [decide_eq_decide]
      constructor
      · intro ho'
        rcases h.from' o ho' with h1 | ⟨x, hx, h1⟩
        · rw [hl] at h1; cases h1
        · have := hM.inj hb h1
          rw [this]; exact hx
      · exact fun hr => h.mate r hr o hb
end
end Go.Proofs.Ytnaoiochfdipiaa
/- Maps behind a call that touches others; adding to a set. No program in sight, no condition. -/
namespace Go.Proofs.Ytnaoiochfdipiaa
open Go.RowKit Go.Shelf Go.Maps

theorem putM_same {κ β : Type} [DecidableEq κ] : ∀ {m : List (κ × β)} {x : κ} {y : β}, lookM m x = some y → putM m x y = m
  | [], x, y, h => by simp [lookM] at h
  | p :: m, x, y, h => by
    obtain ⟨a, b⟩ := p
    rw [lookM] at h
    rw [putM]
    by_cases e : a = x
    · rw [if_pos e] at h ⊢
      cases h
      rw [e]
    · rw [if_neg e] at h ⊢
      rw [putM_same h]
section
variable {κ β : Type} [DecidableEq κ] {P : Program} {k e t : TypeId} {KE : KeyEnc P k κ} {EE : ElEnc P e β} {w w' : World} {b : Nat} {m : List (κ × β)}
theorem MapAt.same (h : MapAt KE EE w b m) (he : w'.heap[b]? = w.heap[b]?) : MapAt KE EE w' b m := by
  obtain ⟨⟨D, ⟨es, clock, hb, hr⟩, h2⟩, h3, h4⟩ := h
  exact ⟨⟨D, ⟨es, clock, he.trans hb, hr⟩, h2⟩, h3, h4⟩
end
section
variable {w w' : World} {S : List Nat}
theorem MapII.touch {b : Nat} {m : List (Int × Int)} (h : MapII w b m) (ht : Touch w w' S) (hb : b ∉ S) : MapII w' b m := MapAt.same h (ht.block b h.lt hb)
theorem SetI.touch {b : Nat} {l : List Int} (h : SetI w b l) (ht : Touch w w' S) (hb : b ∉ S) : SetI w' b l := ⟨h.1, MapAt.same h.2 (ht.block b h.lt hb)⟩
theorem StAt.touch {bo br : Nat} {s : St} (h : StAt w bo br s) (ht : Touch w w' S) (h1 : bo ∉ S) (h2 : br ∉ S) : StAt w' bo br s := ⟨h.o.touch ht h1, h.r.touch ht h2, h.ne⟩
theorem SetI.add {b : Nat} {l : List Int} (h : SetI w b l) {x : Int} (hx : wfI x) (hn : l.length < maxLen) :
    ∃ w', (Instr.mapUpdate 69 (.map (some b)) (.int .i64 x) (.bool true)).run Try.prog w = .ok () w' ∧ SetI w' b (addL l x) ∧ w.grownBy w' (some b) := by
  by_cases hl : x ∈ l
  · obtain ⟨w', h1, h2, h3⟩ := MapAt.put h.2 Try.underlying69 (x := x) (y := true) hx trivial (by simpa using hn)
    rw [putM_same (by rw [lookM_set, if_pos hl])] at h2
    rw [addL, if_pos hl]
    exact ⟨w', h1, ⟨h.1, h2⟩, h3⟩
  · rw [addL, if_neg hl]
    exact h.put hx hl hn
theorem setLen_of {b : Nat} {l : List Int} (h : SetI w b l) : mapLen w b = l.length := by
  obtain ⟨_, ⟨D, ⟨es, clock, hb, _, _, rfl⟩, _, hs, _⟩, _, _⟩ := h
  simp only [Maps.size, length_sorted] at hs
  simp only [mapLen, hb]
  simpa using hs
theorem nocell_pair {a b : Nat} {l l' : List Int} (h : SetI w a l) (h' : SetI w b l') : NoCell w [a, b] := by
  intro c hc o p
  simp only [List.mem_cons, List.not_mem_nil, or_false] at hc
  rcases hc with rfl | rfl
  · exact h.nocell _ (by simp) o p
  · exact h'.nocell _ (by simp) o p
end
end Go.Proofs.Ytnaoiochfdipiaa
/- A queue of numbers: a slice into a block of the call's own that is cut at its front and appended to. No program in sight, no condition. -/
namespace Go.Proofs.Ytnaoiochfdipiaa
open Go.RowKit

/-- v is a slice into a block from B on; it reads as xs. -/
def OwnQ (B : Nat) (w : World) (v : Value) (xs : List Int) : Prop :=
  (v = .slice none 0 0 ∧ xs = []) ∨ ∃ g off cap cur, v = .slice (some ⟨g, off, none⟩) xs.length cap ∧ B ≤ g ∧ w.heap[g]? = some (.cells cur 3 (0, 0)) ∧ xs.length ≤ cap ∧ cap ≤ maxLen ∧ off + cap ≤ cur.size ∧ ∀ (i : Nat) (x : Int), xs[i]? = some x → cur[off + i]? = some (.int .i64 x)
section
variable {w w' : World} {B : Nat} {v : Value} {xs : List Int}
theorem OwnQ.lt (h : OwnQ B w v xs) : ∀ g, v.ownBlock = some g → B ≤ g ∧ g < w.heap.size := by
  intro j hj
  rcases h with ⟨rfl, _⟩ | ⟨g, off, cap, cur, rfl, hb, hg, _⟩
  · simp [Value.ownBlock] at hj
  · simp only [Value.ownBlock, Option.some.injEq] at hj
    subst hj
    exact ⟨hb, heap_lt hg⟩
theorem OwnQ.kept {row : Option Nat} (h : OwnQ B w v xs) (hg : w.grownBy w' row) (hne : v.ownBlock = none ∨ v.ownBlock ≠ row) : OwnQ B w' v xs := by
  rcases h with h | ⟨g, off, cap, cur, rfl, hb, hgg, rest⟩
  · exact .inl h
  · refine .inr ⟨g, off, cap, cur, rfl, hb, ?_, rest⟩
    rw [hg.block g (heap_lt hgg) (by simpa [Value.ownBlock] using hne)]
    exact hgg
theorem Own.q (h : OwnI B w v xs) : OwnQ B w v xs := by
  rcases h.2 with ⟨rfl, hn⟩ | ⟨g, cap, cur, rfl, hb, hg, hle, hm, hs, htake⟩
  · exact .inl ⟨rfl, List.eq_nil_of_length_eq_zero hn⟩
  · refine .inr ⟨g, 0, cap, cur, rfl, hb, hg, hle, hm, by omega, fun i x hx => ?_⟩
    have h1 : (xs.flatMap encI)[i]? = some (.int .i64 x) := by rw [flatI, List.getElem?_map, hx]; rfl
    rw [← htake, List.getElem?_take] at h1
    split at h1
    · rw [Nat.zero_add]; simpa using h1
    · cases h1
/-- The queue without its first. -/
theorem OwnQ.cells {x : Int} (h : OwnQ B w v (x :: xs)) : ∃ g off cap, v = .slice (some ⟨g, off, none⟩) (xs.length + 1) (cap + 1) ∧ cap + 1 ≤ maxLen ∧ xs.length ≤ cap ∧ g < w.heap.size ∧ B ≤ g ∧ w.cell? ⟨g, off, none⟩ = some (.int .i64 x) ∧ OwnQ B w (.slice (some ⟨g, off + 1, none⟩) xs.length cap) xs := by
  rcases h with ⟨_, h0⟩ | ⟨g, off, cap, cur, rfl, hb, hg, hle, hm, hs, hc⟩
  · cases h0
  · simp only [List.length_cons] at hle
    obtain ⟨c, rfl⟩ : ∃ c, cap = c + 1 := ⟨cap - 1, by omega⟩
    refine ⟨g, off, c, rfl, hm, by omega, heap_lt hg, hb, ?_, .inr ⟨g, off + 1, c, cur, rfl, hb, hg, by omega, by omega, by omega, fun i y hy => ?_⟩⟩
    · rw [heap_cell hg]
      exact hc 0 x rfl
    · have := hc (i + 1) y (by simpa using hy)
      rwa [show off + 1 + i = off + (i + 1) by omega]
theorem OwnQ.nil (h : OwnQ B w v []) : ∃ A c, v = .slice A 0 c := by
  rcases h with ⟨rfl, _⟩ | ⟨g, off, cap, cur, rfl, _⟩
  · exact ⟨_, _, rfl⟩
  · exact ⟨_, _, rfl⟩
/-- The queue cut at its front; where nothing is left of its block the address stays. -/
theorem OwnQ.cut {x : Int} (h : OwnQ B w v (x :: xs)) : ∃ g off cap, v = .slice (some ⟨g, off, none⟩) (xs.length + 1) (cap + 1) ∧ cap + 1 ≤ maxLen ∧ xs.length ≤ cap ∧ (0 < cap → OwnQ B w (.slice (some ⟨g, off + 1, none⟩) xs.length cap) xs) ∧ (cap = 0 → xs = [] ∧ OwnQ B w (.slice (some ⟨g, off, none⟩) 0 0) []) := by
  obtain ⟨g, off, cap, rfl, h1, h2, h3, h4, h5, h6⟩ := h.cells
  refine ⟨g, off, cap, rfl, h1, h2, fun _ => h6, fun h0 => ?_⟩
  subst h0
  have e0 : xs = [] := List.eq_nil_of_length_eq_zero (by omega)
  subst e0
  refine ⟨rfl, ?_⟩
  rcases h with ⟨_, h0⟩ | ⟨g', off', cap', cur, e, hb, hg, hle, hm, hs, hc⟩
  · cases h0
  · injection e with e1 e2 e3
    simp only [Option.some.injEq, Addr.mk.injEq] at e1
    obtain ⟨rfl, rfl, _⟩ := e1
    exact .inr ⟨g, off, 0, cur, rfl, hb, hg, Nat.le_refl _, by simp [maxLen], by omega, fun i y hy => by simp at hy⟩
theorem OwnQ.alloc (h : OwnQ B w v xs) (o : Obj) : OwnQ B (w.alloc o) v xs := h.kept (World.grownBy_alloc w o none) (by cases v.ownBlock <;> simp)
/-- 'append(queue, y)'. -/
theorem wpList_appendQ {W : World} {ops : Array Oper} {rest : List Oper} {o : Oper} {a : Act} {Q : Exit → Act → World → Prop} (hgd : o.guard = none) (s x : Operand)
    (ho : o.op = .call { callee := .builtin .append, args := #[s, x], argTypes := #[22, 22] }) (i : TypeInfo) (hi : Try.prog.info? 3 = some i) (hz : i.zero = some (.int .i64 0)) (hsize : i.size = 1) (hby : i.bytes = 8)
    (hs : a.eval s = v) (hown : OwnQ B W v xs) (y : Int) (cs : Array Value) (hcs : cs = #[.int .i64 y]) (g : Nat) (hg : g = W.heap.size) (hx : a.eval x = .slice (some ⟨g, 0, none⟩) 1 1) (hn : xs.length + 1 ≤ 1048576) (hB : B ≤ W.heap.size)
    (h : ∀ v' w', OwnQ B w' v' (xs ++ [y]) → W.grownBy w' v.ownBlock → (v'.ownBlock = v.ownBlock ∨ Fresh W.heap.size v') → wpList Try.prog ops Q rest (a.put o.dst v') w') : wpList Try.prog ops Q (o :: rest) a (W.alloc (.cells cs 3)) := by
  subst hcs
  subst hg
  have hown' := hown.alloc (.cells #[.int .i64 y] 3)
  rcases hown with ⟨rfl, rfl⟩ | ⟨b, off, cap, cur, rfl, hb, hbg, hle, hm, hsz, hc⟩
  · exact wpList_append1 (enc := encI) (size := 1) (B := B) hgd s x _ ho 3 i (.int .i64 0) 8 Try.underlying22 hi hz hsize hby rfl (by decide) hs (own_nil encI 1 3 B W) y _ rfl lenI oneI _ rfl hx (by simp) (by simp) hB
      fun v' w' h1 h2 h3 => h v' w' (Own.q h1) h2 (h3.imp id fun e g hg => by rw [e] at hg; have := Option.some.inj hg; omega)
  · have hb1 : (W.alloc (.cells #[.int .i64 y] 3)).heap[b]? = some (.cells cur 3 (0, 0)) := (Below.heap_alloc W _ b (heap_lt hbg)).trans hbg
    refine wpList_append_arg _ hgd s x _ ho 3 i (.int .i64 0) 1 8 Try.underlying22 hi hz hsize hby rfl (by decide) b off xs.length cap (xs.map (Value.int .i64)) hs (by simp) (fun j u hu => ?_) ⟨W.heap.size, 0, none⟩ 1 1 [.int .i64 y] hx rfl (fun j u hu => ?_) (by simp [Value.oneCell'])
      (fun hr j hj => ?_) (by simp only [maxLen]; omega) (by omega) (fun hr => ?_) (fun _ v' w' h1 h2 => ?_)
    · rw [heap_cell hb1]
      rw [List.getElem?_map] at hu
      cases hx : xs[j]? with
      | none => rw [hx] at hu; cases hu
      | some z => rw [hx] at hu; cases hu; exact hc j z hx
    · rw [Addr.add_lit, Nat.zero_add, heap_cell (heap_alloc_new W _)]
      simpa using hu
    · have : j = 0 := by simp at hj; omega
      subst this
      refine ⟨?_, heap_free hb1⟩
      rw [heap_cell hb1, Nat.mul_one, Nat.add_zero]
      simp
      omega
    · rw [Nat.mul_one]
      have hset : (W.alloc (.cells #[.int .i64 y] 3)).setCells b (off + xs.length) [.int .i64 y] = (W.alloc (.cells #[.int .i64 y] 3)).setCell ⟨b, off + xs.length, none⟩ (.int .i64 y) := rfl
      rw [hset]
      refine h _ _ (.inr ⟨b, off, cap, _, by simp, hb, heap_setCell_same _ b (off + xs.length) _ _ _ hb1, by simp; omega, hm, by simp; omega, fun j z hz => ?_⟩) ((World.grownBy_alloc W _ _).trans (setCells_grown b [.int .i64 y] _ _)) (.inl (by simp [Value.ownBlock]))
      rw [Array.getElem?_setIfInBounds]
      by_cases hj : j < xs.length
      · rw [List.getElem?_append_left hj] at hz
        rw [if_neg (by omega)]
        exact hc j z hz
      · rw [List.getElem?_append_right (by omega)] at hz
        have hj0 : j - xs.length = 0 := by have := (List.getElem?_eq_some_iff.1 hz).1; simp at this; omega
        rw [hj0] at hz
        simp at hz
        subst hz
        rw [if_pos (by omega), if_pos (by omega)]
    · have hgr : W.grownBy w' none := (World.grownBy_alloc W _ none).trans h2
      have h3 : Own encI 1 3 (W.heap.size + 1) w' v' (xs ++ [y]) := by
        have h4 := h1
        rw [show xs.map (Value.int .i64) ++ [Value.int .i64 y] = (xs ++ [y]).flatMap encI by rw [flatI]; simp] at h4
        have h5 : Own encI 1 3 (W.alloc (.cells #[.int .i64 y] 3)).heap.size w' v' (xs ++ [y]) := by
          show World.ownsRow _ _ _ _ _ _ _
          rw [List.length_append]
          exact h4
        exact h5.base (by simp)
      exact h v' w' (Own.q (h3.base (by omega))) ⟨hgr.os, hgr.tape, hgr.output, hgr.size, fun k hk _ => hgr.block k hk (by simp)⟩ (.inr (h3.fresh.mono (by omega)))
end
/-- A slice of numbers behind a call that touches another block. -/
theorem Ints.kept {w w' : World} {v : Value} {xs : List Int} {row : Option Nat} (h : Ints w v xs) (hg : w.grownBy w' row) (hne : v.ownBlock = none ∨ v.ownBlock ≠ row) : Ints w' v xs := by
  obtain ⟨A, c, rfl, h1, h2, h3, h4⟩ := h
  refine ⟨A, c, rfl, h1, h2, h3, fun hn => ?_⟩
  obtain ⟨b, o, rfl, hb, hc⟩ := h4 hn
  refine ⟨b, o, rfl, Nat.lt_of_lt_of_le hb hg.size, fun j u hu => ?_⟩
  rw [World.cell?_of_block (hg.block b hb (by simpa [Value.ownBlock] using hne))]
  exact hc j u hu
theorem Ints.at {w : World} {A : Option Addr} {n c : Nat} {xs : List Int} (h : Ints w (.slice A n c) xs) {k : Nat} (hk : k < xs.length) : ∃ b o, A = some ⟨b, o, none⟩ ∧ b < w.heap.size ∧ ∀ x, xs[k]? = some x → w.cell? ⟨b, o + k, none⟩ = some (.int .i64 x) := by
  obtain ⟨b, o, e, hb, hc⟩ := SlOf.opens lenI (SlOf.sl h) (by omega)
  refine ⟨b, o, e, hb, fun x hx => ?_⟩
  have := hc k x hx 0 _ rfl
  simpa using this
end Go.Proofs.Ytnaoiochfdipiaa
