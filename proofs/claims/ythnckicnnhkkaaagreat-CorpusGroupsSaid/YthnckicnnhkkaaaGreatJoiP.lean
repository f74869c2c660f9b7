/- Joining ledgers and lists of specimens, plain. No program in sight, no condition. -/
import Derived.Test.YthnckicnnhkkaaaGreatGooP
import Derived.Test.YthnckicnnhkkaaaGreatLedE
import Derived.Test.YthnckicnnhkkaaaGreatCorK
namespace Go.Proofs.YthnckicnnhkkaaaGreat
open Go.RowKit

/-! ### Decisions -/
theorem srt_inj {D : List Dec} (hs : SrtD D) {x y : Dec} (hx : x ∈ D) (hy : y ∈ D) (e : mkOf x = mkOf y) : x = y := by
  have h1 := find_of hs hx
  have h2 := find_of hs hy
  rw [e, h2] at h1
  exact (Option.some.inj h1).symm
/-- A decision of the one list and another one of the other with its mark. -/
def confB (D D' : List Dec) : Bool := D'.any fun d => D.any fun e => decide (mkOf e = mkOf d) && decide (e ≠ d)
theorem conf_iff {D D' : List Dec} : confB D D' = true ↔ ∃ d ∈ D', ∃ e ∈ D, mkOf e = mkOf d ∧ e ≠ d := by
  unfold confB
  simp [List.any_eq_true]
theorem conf_no {D D' : List Dec} (h : confB D D' = false) {d e : Dec} (hd : d ∈ D') (he : e ∈ D) (hm : mkOf e = mkOf d) : e = d := by
  refine Classical.byContradiction fun hne => ?_
  have := conf_iff.2 ⟨d, hd, e, he, hm, hne⟩
  rw [h] at this; cases this
theorem conf_comm (D D' : List Dec) : confB D D' = confB D' D := by
  rw [Bool.eq_iff_iff, conf_iff, conf_iff]
  constructor
  · rintro ⟨d, hd, e, he, h1, h2⟩; exact ⟨e, he, d, hd, h1.symm, fun h => h2 h.symm⟩
  · rintro ⟨d, hd, e, he, h1, h2⟩; exact ⟨e, he, d, hd, h1.symm, fun h => h2 h.symm⟩
/-- Both lists' decisions, in order. -/
def uniD (D D' : List Dec) : List Dec := D'.foldl (fun o d => if d ∈ o then o else insF mkOf o d) D
/-- All decisions of both, in order: nothing else is. -/
def UniOf (D D' U : List Dec) : Prop := SrtD U ∧ ∀ x, x ∈ U ↔ x ∈ D ∨ x ∈ D'
theorem uni_step {D D' : List Dec} (hs : SrtD D) (hs' : SrtD D') (hc : confB D D' = false) : UniOf D D' (uniD D D') := by
  have key : ∀ (ds o : List Dec), SrtD o → (∀ x ∈ o, x ∈ D ∨ x ∈ D') → (∀ d ∈ ds, d ∈ D') → SrtD (ds.foldl (fun o d => if d ∈ o then o else insF mkOf o d) o) ∧ ∀ x, x ∈ ds.foldl (fun o d => if d ∈ o then o else insF mkOf o d) o ↔ x ∈ o ∨ x ∈ ds := by
    intro ds
    induction ds with
    | nil => intro o h _ _; exact ⟨h, by simp⟩
    | cons d ds ih =>
      intro o h hsub hds
      rw [List.foldl_cons]
      by_cases hm : d ∈ o
      · rw [if_pos hm]
        obtain ⟨i1, i2⟩ := ih o h hsub fun y hy => hds y (List.mem_cons_of_mem _ hy)
        refine ⟨i1, fun x => ?_⟩
        rw [i2, List.mem_cons]
        constructor
        · rintro (a | a)
          · exact .inl a
          · exact .inr (.inr a)
        · rintro (a | rfl | a)
          · exact .inl a
          · exact .inl hm
          · exact .inr a
      · rw [if_neg hm]
        have hd := hds d (by simp)
        have hn : ∀ x ∈ o, mkOf x ≠ mkOf d := by
          intro x hx e
          rcases hsub x hx with h1 | h1
          · exact hm (by rw [← conf_no hc hd h1 e]; exact hx)
          · exact hm (by rw [← srt_inj hs' h1 hd e]; exact hx)
        obtain ⟨i1, i2⟩ := ih (insF mkOf o d) (insF_srt mkOf h) (fun x hx => by
          rcases (insF_mem mkOf hn x).1 hx with a | rfl
          · exact hsub x a
          · exact .inr hd) fun y hy => hds y (List.mem_cons_of_mem _ hy)
        refine ⟨i1, fun x => ?_⟩
        rw [i2, insF_mem mkOf hn, List.mem_cons]
        grind
  obtain ⟨h1, h2⟩ := key D' D hs (fun x hx => .inl hx) (fun d hd => hd)
  exact ⟨h1, h2⟩
theorem UniOf.uniq {D D' U V : List Dec} (h : UniOf D D' U) (k : UniOf D D' V) : U = V := srt_uniq mkOf h.1 k.1 fun x => (h.2 x).trans (k.2 x).symm
/-- What the reference's fold says. -/
theorem decsF_uni {D D' : List Dec} (hs : SrtD D) (hs' : SrtD D') : decsF D D' = if confB D D' = true then none else some (uniD D D') := by
  have key : ∀ (ds o : List Dec), SrtD o → SrtD ds → decsF o ds = if confB o ds = true then none else some (uniD o ds) := by
    intro ds
    induction ds with
    | nil => intro o _ _; rfl
    | cons d ds ih =>
      intro o ho hds
      obtain ⟨hlt, hds'⟩ := List.pairwise_cons.1 hds
      rw [decsF]
      unfold stepD
      cases hf : findD o (mkOf d) with
      | some e =>
        obtain ⟨he, hm⟩ := find_some hf
        dsimp only
        by_cases hed : e = d
        · rw [if_pos hed]
          subst hed
          simp only
          rw [ih o ho hds']
          have h1 : confB o (e :: ds) = confB o ds := by
            rw [Bool.eq_iff_iff, conf_iff, conf_iff]
            constructor
            · rintro ⟨d', hd', e', he', k1, k2⟩
              rcases List.mem_cons.1 hd' with rfl | hd'
              · exact absurd (srt_inj ho he' he k1) k2
              · exact ⟨d', hd', e', he', k1, k2⟩
            · rintro ⟨d', hd', h⟩; exact ⟨d', List.mem_cons_of_mem _ hd', h⟩
          rw [h1]
          unfold uniD
          rw [List.foldl_cons, if_pos he]
        · rw [if_neg hed]
          simp only
          rw [if_pos (conf_iff.2 ⟨d, by simp, e, he, hm, hed⟩)]
      | none =>
        simp only
        have hn := find_none.1 hf
        rw [ih _ (insF_srt mkOf ho) hds']
        have h1 : confB o (d :: ds) = confB (insF mkOf o d) ds := by
          rw [Bool.eq_iff_iff, conf_iff, conf_iff]
          constructor
          · rintro ⟨d', hd', e', he', k1, k2⟩
            rcases List.mem_cons.1 hd' with rfl | hd'
            · exact absurd k1 (hn e' he')
            · exact ⟨d', hd', e', (insF_mem mkOf hn e').2 (.inl he'), k1, k2⟩
          · rintro ⟨d', hd', e', he', k1, k2⟩
            rcases (insF_mem mkOf hn e').1 he' with he' | rfl
            · exact ⟨d', List.mem_cons_of_mem _ hd', e', he', k1, k2⟩
            · have := hlt d' hd'
              rw [k1] at this
              exact absurd this (mkLt_irrefl _)
        rw [h1]
        unfold uniD
        rw [List.foldl_cons, if_neg (fun hm => hn d hm rfl)]
  exact key D' D hs hs'
/-! ### Marks -/
theorem mrksF_uni {W W' : List Mrk} (hs : SrtM W) : SrtM (mrksF W W') ∧ ∀ x, x ∈ mrksF W W' ↔ x ∈ W ∨ x ∈ W' := by
  have key : ∀ (ms o : List Mrk), SrtM o → SrtM (ms.foldl stepM o) ∧ ∀ x, x ∈ ms.foldl stepM o ↔ x ∈ o ∨ x ∈ ms := by
    intro ms
    induction ms with
    | nil => intro o h; exact ⟨h, by simp⟩
    | cons m ms ih =>
      intro o h
      rw [List.foldl_cons]
      obtain ⟨i1, i2⟩ := ih (stepM o m) (stepM_srt h m)
      refine ⟨i1, fun x => ?_⟩
      rw [i2, List.mem_cons]
      unfold stepM
      by_cases hm : m ∈ o
      · rw [if_pos hm]
        constructor
        · rintro (a | a)
          · exact .inl a
          · exact .inr (.inr a)
        · rintro (a | rfl | a)
          · exact .inl a
          · exact .inl hm
          · exact .inr a
      · rw [if_neg hm, insF_mem id (fun y hy e => hm (by rw [← show y = m from e]; exact hy))]
        grind
  exact key W' W hs
/-! ### The ledgers -/
def joinLE (D : List Dec) (W : List Mrk) (D' : List Dec) (W' : List Mrk) : Int := if confB D D' = true then 10 else if 200 < (uniD D D').length ∨ 200 < (mrksF W W').length then 6 else 0
def joinLD (D : List Dec) (W : List Mrk) (D' : List Dec) (W' : List Mrk) : List Dec := if joinLE D W D' W' = 0 then uniD D D' else D
def joinLW (D : List Dec) (W : List Mrk) (D' : List Dec) (W' : List Mrk) : List Mrk := if joinLE D W D' W' = 0 then mrksF W W' else W
/-! ### The specimens -/
def conS (l l' : List Spec) : Bool := l'.any fun s => l.any fun t => decide (t.id = s.id) && decide (t ≠ s)
def stepS (o : List Spec) (s : Spec) : List Spec := if s.id ∈ o.map Spec.id then o else insS o s
def uniS (l l' : List Spec) : List Spec := l'.foldl stepS l
def joinE (l : List Spec) (D : List Dec) (W : List Mrk) (l' : List Spec) (D' : List Dec) (W' : List Mrk) : Int := if conS l l' = true then 10 else if 64 < (uniS l l').length then 6 else joinLE D W D' W'
def joinC (x y : Co) : Co := if joinE x.1 x.2.1 x.2.2 y.1 y.2.1 y.2.2 = 0 then (uniS x.1 y.1, uniD x.2.1 y.2.1, mrksF x.2.2 y.2.2) else x
end Go.Proofs.YthnckicnnhkkaaaGreat
/- Joining lists of specimens, plain. No program in sight, no condition. -/
namespace Go.Proofs.YthnckicnnhkkaaaGreat
open Go.RowKit

theorem stepS_srt {o : List Spec} (h : SrtS o) (s : Spec) : SrtS (stepS o s) := by
  unfold stepS
  split
  · exact h
  · rename_i hn; exact insS_srt h hn
theorem stepS_mem {o : List Spec} {s x : Spec} (h : x ∈ stepS o s) : x ∈ o ∨ x = s := by
  unfold stepS at h
  split at h
  · exact .inl h
  · exact (insS_mem x).1 h
theorem stepS_sub {o : List Spec} {s x : Spec} (h : x ∈ o) : x ∈ stepS o s := by
  unfold stepS
  split
  · exact h
  · exact (insS_mem x).2 (.inl h)
theorem stepS_len (o : List Spec) (s : Spec) : (stepS o s).length ≤ o.length + 1 := by
  unfold stepS
  split
  · omega
  · rw [insS_len]; exact Nat.le_refl _
theorem cur_srt : ∀ {ms l : List Spec}, SrtS l → SrtS (ms.foldl stepS l)
  | [], _, h => h
  | m :: ms, _, h => cur_srt (ms := ms) (stepS_srt h m)
theorem cur_mem : ∀ {ms l : List Spec} {x : Spec}, x ∈ ms.foldl stepS l → x ∈ l ∨ x ∈ ms
  | [], _, _, h => .inl h
  | m :: ms, l, x, h => by
    rcases cur_mem (ms := ms) h with h | h
    · rcases stepS_mem h with h | h
      · exact .inl h
      · exact .inr (by rw [h]; simp)
    · exact .inr (List.mem_cons_of_mem _ h)
theorem cur_sub : ∀ {ms l : List Spec} {x : Spec}, x ∈ l → x ∈ ms.foldl stepS l
  | [], _, _, h => h
  | _ :: ms, _, _, h => cur_sub (ms := ms) (stepS_sub h)
theorem cur_len : ∀ (ms l : List Spec), (ms.foldl stepS l).length ≤ l.length + ms.length
  | [], l => by simp
  | m :: ms, l => by
    have h1 := cur_len ms (stepS l m)
    have h2 := stepS_len l m
    rw [List.foldl_cons, List.length_cons]
    omega
theorem cur_snoc {l l' : List Spec} {k : Nat} {s : Spec} (h : l'[k]? = some s) : (l'.take (k + 1)).foldl stepS l = stepS ((l'.take k).foldl stepS l) s := by
  rw [take_snoc' h, List.foldl_append]; rfl
/-- A specimen of the Id of the next one is of the first list. -/
theorem cur_old {l l' : List Spec} {k : Nat} {s t : Spec} (hs' : SrtS l') (h : l'[k]? = some s) (ht : t ∈ (l'.take k).foldl stepS l) (e : t.id = s.id) : t ∈ l := by
  rcases cur_mem ht with h1 | h1
  · exact h1
  · exfalso
    obtain ⟨j, hj⟩ := List.getElem?_of_mem h1
    rw [List.getElem?_take] at hj
    split at hj
    · rename_i hjk
      have h2 := List.pairwise_iff_getElem.1 hs' j k (lt_of_get hj) (lt_of_get h) hjk
      rw [(List.getElem?_eq_some_iff.1 hj).2, (List.getElem?_eq_some_iff.1 h).2] at h2
      omega
    · cases hj
theorem conS_iff {l l' : List Spec} : conS l l' = true ↔ ∃ s ∈ l', ∃ t ∈ l, t.id = s.id ∧ t ≠ s := by
  unfold conS
  simp [List.any_eq_true]
/-- No conflict so far. -/
def NoCon (l l' : List Spec) (k : Nat) : Prop := ∀ s ∈ l'.take k, ∀ t ∈ l, t.id = s.id → t = s
theorem noCon_all {l l' : List Spec} (h : NoCon l l' l'.length) : conS l l' = false := by
  rw [Bool.eq_false_iff]
  intro hc
  obtain ⟨s, hs, t, ht, e, hne⟩ := conS_iff.1 hc
  rw [NoCon, List.take_length] at h
  exact hne (h s hs t ht e)
theorem noCon_snoc {l l' : List Spec} {k : Nat} {s : Spec} (h : NoCon l l' k) (hx : l'[k]? = some s) (hs : ∀ t ∈ l, t.id = s.id → t = s) : NoCon l l' (k + 1) := by
  unfold NoCon
  rw [take_snoc' hx]
  intro y hy
  rcases List.mem_append.1 hy with hy | hy
  · exact h y hy
  · rw [List.mem_singleton.1 hy]; exact hs
theorem uniS_lis {l l' : List Spec} (h : LisW l) (h' : LisW l') (hn : ¬ 64 < (uniS l l').length) : LisW (uniS l l') :=
  ⟨cur_srt h.srt, fun s hs => (cur_mem hs).elim (h.ok s) (h'.ok s), by omega⟩
theorem uni_ok {l l' : List Spec} {D D' : List Dec} {W W' : List Mrk} (h : CorW l D W) (h' : CorW l' D' W') (hs : SrtD D) (hs' : SrtD D') (hn : ¬ 64 < (uniS l l').length) (he : joinLE D W D' W' = 0) : CorW (uniS l l') (uniD D D') (mrksF W W') := by
  unfold joinLE at he
  split at he
  · cases he
  · rename_i hc
    split at he
    · cases he
    · rename_i hl
      have hU := uni_step hs hs' (by simpa using hc)
      exact ⟨uniS_lis h.lis h'.lis hn, fun d hd => ((hU.2 d).1 hd).elim (h.dec d) (h'.dec d), by omega, by omega⟩
end Go.Proofs.YthnckicnnhkkaaaGreat
/- Joining three corpora, plain: however they are grouped. No program in sight, no condition. -/
namespace Go.Proofs.YthnckicnnhkkaaaGreat
open Go.RowKit

theorem conS_no {l l' : List Spec} (h : conS l l' = false) {s t : Spec} (hs : s ∈ l') (ht : t ∈ l) (e : t.id = s.id) : t = s := by
  refine Classical.byContradiction fun hne => ?_
  have := conS_iff.2 ⟨s, hs, t, ht, e, hne⟩
  rw [h] at this; cases this
theorem uniS_mem {l l' : List Spec} (hs' : SrtS l') (hc : conS l l' = false) {x : Spec} : x ∈ uniS l l' ↔ x ∈ l ∨ x ∈ l' := by
  constructor
  · exact cur_mem
  · rintro (h | h)
    · exact cur_sub h
    · have key : ∀ (ms o : List Spec), (∀ t ∈ o, t ∈ l ∨ t ∈ l') → (∀ m ∈ ms, m ∈ l') → x ∈ ms → x ∈ ms.foldl stepS o := by
        intro ms
        induction ms with
        | nil => intro o _ _ h; cases h
        | cons m ms ih =>
          intro o ho hm hx
          rw [List.foldl_cons]
          rcases List.mem_cons.1 hx with rfl | hx
          · refine cur_sub ?_
            unfold stepS
            split
            · rename_i hi
              obtain ⟨t, ht, e⟩ := List.mem_map.1 hi
              rcases ho t ht with h1 | h1
              · rw [← conS_no hc h h1 e]; exact ht
              · rw [← inj_id hs' h1 h e]; exact ht
            · exact (insS_mem x).2 (.inr rfl)
          · refine ih _ (fun t ht => ?_) (fun y hy => hm y (List.mem_cons_of_mem _ hy)) hx
            rcases stepS_mem ht with h1 | rfl
            · exact ho t h1
            · exact .inr (hm t (by simp))
      exact key l' l (fun t ht => .inl ht) (fun m hm => hm) h
section
variable {l1 l2 l3 : List Spec} {D1 D2 D3 : List Dec} {W1 W2 W3 : List Mrk}
theorem conS_left (h12 : conS l1 l2 = false) (h23 : conS l2 l3 = false) (_ : SrtS l2) : conS (uniS l1 l2) l3 = conS l1 l3 := by
  have _ := h12
  rw [Bool.eq_iff_iff, conS_iff, conS_iff]
  constructor
  · rintro ⟨s, hs, t, ht, e, hne⟩
    rcases cur_mem ht with h | h
    · exact ⟨s, hs, t, h, e, hne⟩
    · exact absurd (conS_no h23 hs h e) hne
  · rintro ⟨s, hs, t, ht, e, hne⟩
    exact ⟨s, hs, t, cur_sub ht, e, hne⟩
theorem conS_right (h12 : conS l1 l2 = false) (h23 : conS l2 l3 = false) (hs3 : SrtS l3) : conS l1 (uniS l2 l3) = conS l1 l3 := by
  rw [Bool.eq_iff_iff, conS_iff, conS_iff]
  constructor
  · rintro ⟨s, hs, t, ht, e, hne⟩
    rcases cur_mem hs with h | h
    · exact absurd (conS_no h12 h ht e) hne
    · exact ⟨s, h, t, ht, e, hne⟩
  · rintro ⟨s, hs, t, ht, e, hne⟩
    exact ⟨s, (uniS_mem hs3 h23).2 (.inr hs), t, ht, e, hne⟩
theorem uniS_assoc (hs1 : SrtS l1) (hs2 : SrtS l2) (hs3 : SrtS l3) (h12 : conS l1 l2 = false) (h23 : conS l2 l3 = false) (h13 : conS l1 l3 = false) : uniS (uniS l1 l2) l3 = uniS l1 (uniS l2 l3) := by
  have hl := conS_left h12 h23 hs2
  have hr := conS_right h12 h23 hs3
  rw [h13] at hl hr
  refine srtS_uniq (cur_srt (cur_srt hs1)) (cur_srt hs1) fun x => ?_
  rw [uniS_mem hs3 hl, uniS_mem hs2 h12, uniS_mem (show SrtS (uniS l2 l3) from cur_srt hs2) hr, uniS_mem hs3 h23]
  grind
theorem confB_left (hs1 : SrtD D1) (hs2 : SrtD D2) (h12 : confB D1 D2 = false) (h23 : confB D2 D3 = false) : confB (uniD D1 D2) D3 = confB D1 D3 := by
  have hU := uni_step hs1 hs2 h12
  rw [Bool.eq_iff_iff, conf_iff, conf_iff]
  constructor
  · rintro ⟨s, hs, t, ht, e, hne⟩
    rcases (hU.2 t).1 ht with h | h
    · exact ⟨s, hs, t, h, e, hne⟩
    · exact absurd (conf_no h23 hs h e) hne
  · rintro ⟨s, hs, t, ht, e, hne⟩
    exact ⟨s, hs, t, (hU.2 t).2 (.inl ht), e, hne⟩
theorem confB_right (hs2 : SrtD D2) (hs3 : SrtD D3) (h12 : confB D1 D2 = false) (h23 : confB D2 D3 = false) : confB D1 (uniD D2 D3) = confB D1 D3 := by
  have hU := uni_step hs2 hs3 h23
  rw [Bool.eq_iff_iff, conf_iff, conf_iff]
  constructor
  · rintro ⟨s, hs, t, ht, e, hne⟩
    rcases (hU.2 s).1 hs with h | h
    · exact absurd (conf_no h12 h ht e) hne
    · exact ⟨s, h, t, ht, e, hne⟩
  · rintro ⟨s, hs, t, ht, e, hne⟩
    exact ⟨s, (hU.2 s).2 (.inr hs), t, ht, e, hne⟩
theorem uniD_assoc (hs1 : SrtD D1) (hs2 : SrtD D2) (hs3 : SrtD D3) (h12 : confB D1 D2 = false) (h23 : confB D2 D3 = false) (h13 : confB D1 D3 = false) : uniD (uniD D1 D2) D3 = uniD D1 (uniD D2 D3) := by
  have hl := confB_left hs1 hs2 h12 h23
  have hr := confB_right hs2 hs3 h12 h23
  rw [h13] at hl hr
  have hU12 := uni_step hs1 hs2 h12
  have hU23 := uni_step hs2 hs3 h23
  have hL := uni_step hU12.1 hs3 hl
  have hR := uni_step hs1 hU23.1 hr
  refine srt_uniq mkOf hL.1 hR.1 fun x => ?_
  rw [hL.2, hU12.2, hR.2, hU23.2]
  grind
theorem mrksF_assoc (hs1 : SrtM W1) (hs2 : SrtM W2) : mrksF (mrksF W1 W2) W3 = mrksF W1 (mrksF W2 W3) := by
  have h12 := mrksF_uni (W' := W2) hs1
  have h23 := mrksF_uni (W' := W3) hs2
  have hL := mrksF_uni (W' := W3) h12.1
  have hR := mrksF_uni (W' := mrksF W2 W3) hs1
  refine srt_uniq id hL.1 hR.1 fun x => ?_
  rw [hL.2, h12.2, hR.2, h23.2]
  grind
theorem joinLE_assoc (hs1 : SrtD D1) (hs2 : SrtD D2) (hs3 : SrtD D3) (hm1 : SrtM W1) (hm2 : SrtM W2) (h12 : confB D1 D2 = false) (h23 : confB D2 D3 = false) :
    joinLE (uniD D1 D2) (mrksF W1 W2) D3 W3 = joinLE D1 W1 (uniD D2 D3) (mrksF W2 W3) ∧ (joinLE (uniD D1 D2) (mrksF W1 W2) D3 W3 = 0 → uniD (uniD D1 D2) D3 = uniD D1 (uniD D2 D3)) := by
  have hl := confB_left hs1 hs2 h12 h23
  have hr := confB_right hs2 hs3 h12 h23
  unfold joinLE
  rw [hl, hr, mrksF_assoc hm1 hm2]
  cases h13 : confB D1 D3
  · rw [uniD_assoc hs1 hs2 hs3 h12 h23 h13]
    exact ⟨rfl, fun _ => rfl⟩
  · exact ⟨rfl, fun h => by simp at h⟩
end
theorem joinE_zero {l l' : List Spec} {D D' : List Dec} {W W' : List Mrk} (h : joinE l D W l' D' W' = 0) : conS l l' = false ∧ joinLE D W D' W' = 0 ∧ confB D D' = false := by
  unfold joinE at h
  split at h
  · cases h
  · rename_i hc
    split at h
    · cases h
    · refine ⟨by simpa using hc, h, ?_⟩
      unfold joinLE at h
      split at h
      · cases h
      · rename_i hc2; simpa using hc2
theorem join_assoc {x y z : Co} (hx : GoodC x) (hy : GoodC y) (hz : GoodC z) (h1 : joinE x.1 x.2.1 x.2.2 y.1 y.2.1 y.2.2 = 0) (h2 : joinE y.1 y.2.1 y.2.2 z.1 z.2.1 z.2.2 = 0) :
    joinE (joinC x y).1 (joinC x y).2.1 (joinC x y).2.2 z.1 z.2.1 z.2.2 = joinE x.1 x.2.1 x.2.2 (joinC y z).1 (joinC y z).2.1 (joinC y z).2.2 ∧
    (joinE (joinC x y).1 (joinC x y).2.1 (joinC x y).2.2 z.1 z.2.1 z.2.2 = 0 → joinC (joinC x y) z = joinC x (joinC y z)) := by
  have e1 : joinC x y = (uniS x.1 y.1, uniD x.2.1 y.2.1, mrksF x.2.2 y.2.2) := if_pos h1
  have e2 : joinC y z = (uniS y.1 z.1, uniD y.2.1 z.2.1, mrksF y.2.2 z.2.2) := if_pos h2
  obtain ⟨c12, _, d12⟩ := joinE_zero h1
  obtain ⟨c23, _, d23⟩ := joinE_zero h2
  have hl := conS_left c12 c23 hy.ok.lis.srt
  have hr := conS_right c12 c23 hz.ok.lis.srt
  obtain ⟨hJ, hJU⟩ := joinLE_assoc (W3 := z.2.2) hx.srtD hy.srtD hz.srtD hx.srtM hy.srtM d12 d23
  rw [e1, e2]
  have hE : joinE (uniS x.1 y.1) (uniD x.2.1 y.2.1) (mrksF x.2.2 y.2.2) z.1 z.2.1 z.2.2 = joinE x.1 x.2.1 x.2.2 (uniS y.1 z.1) (uniD y.2.1 z.2.1) (mrksF y.2.2 z.2.2) := by
    unfold joinE
    rw [hl, hr, hJ]
    cases h13 : conS x.1 z.1
    · rw [uniS_assoc hx.ok.lis.srt hy.ok.lis.srt hz.ok.lis.srt c12 c23 h13]
    · rfl
  refine ⟨hE, fun h0 => ?_⟩
  have h0' : joinE (uniS x.1 y.1) (uniD x.2.1 y.2.1) (mrksF x.2.2 y.2.2) z.1 z.2.1 z.2.2 = 0 := h0
  obtain ⟨c13, g0, _⟩ := joinE_zero h0'
  rw [hl] at c13
  unfold joinC
  rw [if_pos h0', if_pos (by rw [← hE]; exact h0')]
  simp only
  rw [uniS_assoc hx.ok.lis.srt hy.ok.lis.srt hz.ok.lis.srt c12 c23 c13, hJU g0, mrksF_assoc hx.srtM hy.srtM]
end Go.Proofs.YthnckicnnhkkaaaGreat
/- maps.Copy at maps from marks to bools. Condition: both maps read as such; they are two. -/
namespace Go.Proofs.YthnckicnnhkkaaaGreat
open Go.RowKit Go.Maps Go.Shelf

def RangeMk (w : World) (b r : Nat) (m : List (Mrk × Bool)) (todo : List Mrk) : Prop := RangeAt (P := Tryz.prog) keyMrk (elBool Tryz.underlying4 zBool) w b r m todo
def RangeDc (w : World) (b r : Nat) (m : List (Mrk × Dec)) (todo : List Mrk) : Prop := RangeAt (P := Tryz.prog) keyMrk elDec w b r m todo
section
variable {κ β : Type} [DecidableEq κ] {P : Program} {k e t : TypeId} {KE : KeyEnc P k κ} {EE : ElEnc P e β} {w : World} {b r : Nat} {m : List (κ × β)} {todo : List κ} {o : Oper} {a : Act} {ops : Array Oper} {Q : Exit → Act → World → Prop} {rest : List Oper}
theorem wpList_nextW (hg : o.guard = none) (it : Operand) (hop : o.op = Op.next it false) (h : RangeAt KE EE w b r m todo) (hit : a.eval it = .pointer (some ⟨r, 0, none⟩))
    (hDone : todo = [] → wpList P ops Q rest (a.put o.dst (.tuple #[.bool false])) w)
    (hMore : ∀ (x : κ) (y : Wr β) (w' : World), x ∈ todo → lookM m x = some y.v → RangeAt KE EE w' b r m (todo.filter fun z => decide (z ≠ x)) → w'.rangeLeft b r < w.rangeLeft b r → w.grownBy w' (some r) → w'.heap.size = w.heap.size →
      (Instr.entry (.pointer (some ⟨r, 0, none⟩))).run P w' = .ok (.tuple #[KE.val x, EE.val y.v]) w' → wpList P ops Q rest (a.put o.dst (.tuple #[.bool true, KE.val x, EE.val y.v])) w') :
    wpList P ops Q (o :: rest) a w := wpList_nextAt hg it hop h hit hDone fun x y => hMore x ⟨y⟩
end
theorem look_has {β : Type} {m : List (Mrk × β)} {d : Mrk} : (lookM m d).isSome = true ↔ d ∈ m.map Prod.fst := by
  cases h : lookM m d with
  | none => simp only [Option.isSome_none, Bool.false_eq_true, false_iff]; exact lookM_none.1 h
  | some n => simp only [Option.isSome_some, true_iff]; exact List.mem_map.2 ⟨_, lookM_some h, rfl⟩
theorem nodup_le {α : Type} [DecidableEq α] {c d : List α} (h : c.Nodup) (hs : ∀ x ∈ c, x ∈ d) : c.length ≤ d.length := by
  induction c generalizing d with
  | nil => simp
  | cons x xs ih =>
    obtain ⟨h1, h2⟩ := List.nodup_cons.1 h
    have h3 := ih (d := d.erase x) h2 fun y hy => by
      rw [List.mem_erase_of_ne (fun e => h1 (by rw [← e]; exact hy))]
      exact hs y (List.mem_cons_of_mem _ hy)
    have hx := hs x (by simp)
    rw [List.length_erase_of_mem hx] at h3
    have := List.length_pos_of_mem hx
    simp only [List.length_cons]; omega
set_option maxHeartbeats 8000000 in
set_option maxRecDepth 100000 in
theorem mcopyMk_ok (b b' : Nat) (s s' : List (Mrk × Bool)) (w : World) (h : MapMk w b s) (h' : MapMk w b' s') (hne : b ≠ b') (hl : s.length ≤ 300) (hl' : s'.length ≤ 300) :
    Calls Tryz.prog 144 #[.map (some b), .map (some b')] w fun e w' => e = .returned (.tuple #[]) ∧
      ∃ s2, MapMk w' b s2 ∧ (∀ x, lookM s2 x = if x ∈ s'.map Prod.fst then lookM s' x else lookM s x) ∧ Touch w w' [b] := by
  have HM := Lib.hid h; have HM' := Lib.hid h'; have Hl := Lib.hid hl; have Hl' := Lib.hid hl'
  have hbl := MapAt.lt h; have hbl' := MapAt.lt h'
  clear h h' hl hl'
  go_enter Tryz.func144, Tryz.ntmps144
  go_wp2_with (first | (at_range; refine wpList_rangeAt rfl _ rfl Tryz.underlying97 HM'.out rfl ?_; intro w6 hr6 hb6 hz6))
  go_frame
  have hm6 := MapAt.below HM.out hb6
  have HR6 := Lib.hid (show RangeMk w6 b' w.heap.size s' (s'.map Prod.fst) from hr6)
  have HM6 := Lib.hid (show MapMk w6 b s from hm6)
  have HT6 := Lib.hid (touch_below hb6 [b])
  clear hr6 hm6 hb6
  go_loopw [] (fun wr => ∃ (todo : List Mrk) (s2 : List (Mrk × Bool)), Hid (RangeMk wr b' w.heap.size s' todo) ∧ Hid (MapMk wr b s2) ∧ Hid (∀ x, lookM s2 x = if x ∈ s'.map Prod.fst ∧ x ∉ todo then lookM s' x else lookM s x) ∧ Hid (Touch w wr [b]) ∧ w6.heap.size ≤ wr.heap.size) (fun wr => wr.rangeLeft b' w.heap.size)
  case atStart => exact ⟨s'.map Prod.fst, s, HR6, HM6, Lib.hid (fun x => by rw [if_neg (fun hh => hh.2 hh.1)]), HT6, Nat.le_refl _⟩
  case round =>
    obtain ⟨todo, s2, Hr, Hm, Hlk, HT, hz⟩ := hrel
    go_wp2_with (at_next; refine wpList_nextW rfl _ rfl Hr.out rfl ?_ ?_)
    · rintro rfl
      go_wp2_with fail
      go_end0
      exact ⟨rfl, s2, Hm.out, fun x => by rw [Hlk.out x]; simp, HT.out⟩
    · rintro x ⟨y⟩ w7 hx hlk hr7 hlt7 hg7 hz7 hen
      have ek : keyMrk.val x = .agg #[.int .i64 x.au, .int .i64 x.nu] := rfl
      have ee : (elBool Tryz.underlying4 zBool).val y = .bool y := rfl
      rw [ek, ee] at hen
      rw [ek, ee]
      clear ek ee
      have hxK : x ∈ s'.map Prod.fst := Hr.out.sub x hx
      have hwx := mem_ok (RangeAt.map Hr.out) hxK
      have hm7 := MapAt.kept Hm.out hg7 (by simp; omega)
      have hnd' := MapAt.nodup hm7
      obtain ⟨X1, X2, hX1, hX2, HzX2, hkX1, hkX2, hbX2, hltX2⟩ := fresh w7 [.int .i64 0, .int .i64 0] [.int .i64 (x).au, .int .i64 (x).nu] 35 rfl
      have hsX2 : (X1.setCell ⟨w7.heap.size, 0, none⟩ (.int .i64 (x).au)).setCell ⟨w7.heap.size, 1, none⟩ (.int .i64 (x).nu) = X2 := hX2
      clear hX2
      obtain ⟨⟨z0, z1⟩, f0, f1⟩ := cells2 hkX1
      obtain ⟨⟨s0, s1⟩, _⟩ := cells2 hkX2
      clear hkX1
      have hgX1 : w7.grownBy X1 none := by rw [← hX1]; exact World.grownBy_alloc _ _ none
      have hgX2 : X1.grownBy X2 (some w7.heap.size) := by rw [← hsX2]; exact setCells_grown w7.heap.size [.int .i64 x.au, .int .i64 x.nu] X1 0
      have hmX := MapAt.below hm7 hbX2
      have hmlen : s2.length ≤ 600 := by
        have h1 := nodup_le (d := s'.map Prod.fst ++ s.map Prod.fst) hnd' (fun z hz => by
          have h2 := look_has.2 hz
          rw [Hlk.out z] at h2
          rw [List.mem_append]
          split at h2
          · rename_i h3; exact .inl h3.1
          · exact .inr (look_has.1 h2))
        have h4 := Hl.out; have h5 := Hl'.out
        rw [List.length_append, List.length_map, List.length_map, List.length_map] at h1
        omega
      obtain ⟨w8, hu8, hm8, hg8⟩ := MapAt.put hmX Tryz.underlying97 (x := x) (y := y) hwx trivial (by simp only [maxLen]; omega)
      have hu8' : (Instr.mapUpdate 97 (.map (some b)) (.agg #[.int .i64 x.au, .int .i64 x.nu]) (.bool y)).run Tryz.prog X2 = .ok () w8 := hu8
      have n1 : some b' ≠ some w7.heap.size := fun e => by have := Option.some.inj e; omega
      have n2 : some w.heap.size ≠ some w7.heap.size := fun e => by have := Option.some.inj e; omega
      have n3 : some b' ≠ some b := fun e => hne (Option.some.inj e).symm
      have n4 : some w.heap.size ≠ some b := fun e => by have := Option.some.inj e; omega
      have hr8 := RangeAt.kept (RangeAt.kept (RangeAt.kept hr7 hgX1 (by simp) (by simp)) hgX2 n1 n2) hg8 n3 n4
      have hl8 := (RangeAt.left_kept (RangeAt.kept (RangeAt.kept hr7 hgX1 (by simp) (by simp)) hgX2 n1 n2) hg8 n3 n4).trans ((RangeAt.left_kept (RangeAt.kept hr7 hgX1 (by simp) (by simp)) hgX2 n1 n2).trans (RangeAt.left_kept hr7 hgX1 (by simp) (by simp)))
      have HL8 := Lib.hid (show w8.rangeLeft b' w.heap.size < wr.rangeLeft b' w.heap.size by rw [hl8]; exact hlt7)
      have hT8 : Touch w w8 [b] := (((HT.out.trans_own hg7 (fun j e => by cases e; exact Nat.le_refl _)).trans_own hgX1 (fun j e => by cases e)).trans_own hgX2 (fun j e => by cases e; have := HT.out.size; omega)).trans (grown_touch hg8 (by simp))
      have hz8 : w6.heap.size ≤ w8.heap.size := by have := hg8.size; have := hgX2.size; have := hgX1.size; omega
      have Hlk8 : Hid (∀ z, lookM (putM s2 x y) z = if z ∈ s'.map Prod.fst ∧ z ∉ todo.filter (fun z => !decide (z = x)) then lookM s' z else lookM s z) := Lib.hid (fun z => by
        rw [lookM_putM]
        by_cases e : x = z
        · subst e
          rw [if_pos rfl, if_pos ⟨hxK, by simp⟩, hlk]
        · rw [if_neg e, Hlk.out z]
          have e2 : z ∈ todo.filter (fun z => !decide (z = x)) ↔ z ∈ todo := by
            simp only [List.mem_filter, Bool.not_eq_true', decide_eq_false_iff_not]
            exact ⟨fun h => h.1, fun h => ⟨h, fun e3 => e e3.symm⟩⟩
          simp only [e2])
      have HR8 := Lib.hid (show RangeMk w8 b' w.heap.size s' (todo.filter (fun z => !decide (z = x))) from hr8); have HM8 := Lib.hid (show MapMk w8 b _ from hm8); have HT8 := Lib.hid hT8
      clear hr7 hr8 hl8 hm7 hmX hg7 hgX1 hgX2 hg8 hT8 hm8 hlk Hlk hnd' hz7 hu8 hx hwx hxK
      go_wp2_with fail
      exact ⟨⟨_, _, HR8, HM8, Hlk8, HT8, hz8⟩, HL8.out⟩
end Go.Proofs.YthnckicnnhkkaaaGreat
/- Joining ledgers, plain: what the maps say when the loop is through. No program in sight, no condition. -/
namespace Go.Proofs.YthnckicnnhkkaaaGreat
open Go.RowKit Go.Maps

theorem joined_made {m m' mc : List (Mrk × Dec)} {D D' : List Dec} (hs : SrtD D) (hs' : SrtD D') (hp : (m.map Prod.snd).Perm D) (hk : ∀ p ∈ m, p.1 = mkOf p.2) (hp' : (m'.map Prod.snd).Perm D') (hk' : ∀ p ∈ m', p.1 = mkOf p.2)
    (hn : (m.map Prod.fst).Nodup) (hn' : (m'.map Prod.fst).Nodup) (hnc : (mc.map Prod.fst).Nodup) (hl : ∀ x, lookM mc x = if x ∈ m'.map Prod.fst then lookM m' x else lookM m x) (hc : confB D D' = false) :
    (mc.map Prod.snd).Perm (uniD D D') ∧ ∀ p ∈ mc, p.1 = mkOf p.2 := by
  have hin : ∀ p ∈ mc, p ∈ m' ∨ p ∈ m := by
    intro p hpm
    have h1 := (lookM_mem hnc (x := p.1) (y := p.2)).2 hpm
    rw [hl] at h1
    split at h1
    · exact .inl (lookM_some h1)
    · exact .inr (lookM_some h1)
  have h2 : ∀ p ∈ mc, p.1 = mkOf p.2 := fun p h => (hin p h).elim (hk' p) (hk p)
  refine ⟨?_, h2⟩
  obtain ⟨hU1, hU2⟩ := uni_step hs hs' hc
  have e1 : mc.map Prod.fst = (mc.map Prod.snd).map mkOf := by
    rw [List.map_map]
    exact List.map_congr_left fun p h => h2 p h
  have n1 : (mc.map Prod.snd).Nodup := by
    rw [e1] at hnc
    rw [List.nodup_iff_pairwise_ne, List.pairwise_map] at hnc
    rw [List.nodup_iff_pairwise_ne]
    exact hnc.imp fun {a b} h e => h (by rw [e])
  have n2 : (uniD D D').Nodup := by
    rw [List.nodup_iff_pairwise_ne]
    exact hU1.imp fun {a b} h e => by rw [e] at h; exact mkLt_irrefl _ h
  have key : ∀ {n : List (Mrk × Dec)} {E : List Dec}, (n.map Prod.snd).Perm E → (∀ p ∈ n, p.1 = mkOf p.2) → (n.map Prod.fst).Nodup → ∀ d ∈ E, lookM n (mkOf d) = some d := by
    intro n E hpE hkE hnE d hd
    obtain ⟨p, h3, rfl⟩ := List.mem_map.1 (hpE.mem_iff.2 hd)
    rw [← hkE p h3]
    exact (lookM_mem hnE).2 h3
  refine (List.perm_ext_iff_of_nodup n1 n2).2 fun d => ?_
  rw [hU2]
  constructor
  · intro hd
    obtain ⟨p, h3, rfl⟩ := List.mem_map.1 hd
    rcases hin p h3 with h | h
    · exact .inr (hp'.mem_iff.1 (List.mem_map.2 ⟨p, h, rfl⟩))
    · exact .inl (hp.mem_iff.1 (List.mem_map.2 ⟨p, h, rfl⟩))
  · intro hd
    have hlook : lookM mc (mkOf d) = some d := by
      rw [hl]
      rcases hd with hd | hd
      · split
        · rename_i hx
          obtain ⟨p, h3, h4⟩ := List.mem_map.1 hx
          have h5 : p.2 ∈ D' := hp'.mem_iff.1 (List.mem_map.2 ⟨p, h3, rfl⟩)
          have h6 : d = p.2 := conf_no hc h5 hd (by rw [← h4, hk' p h3])
          rw [h6]
          exact key hp' hk' hn' p.2 h5
        · exact key hp hk hn d hd
      · have h3 := key hp' hk' hn' d hd
        rw [if_pos (look_has.1 (by rw [h3]; rfl))]
        exact h3
    exact List.mem_map.2 ⟨_, lookM_some hlook, rfl⟩
theorem joined_gone {s s' s2 : List (Mrk × Bool)} {W W' : List Mrk} (hs : SrtM W) (hp : (s.map Prod.fst).Perm W) (hk : ∀ p ∈ s, p.2 = true) (hp' : (s'.map Prod.fst).Perm W') (hk' : ∀ p ∈ s', p.2 = true)
    (hn2 : (s2.map Prod.fst).Nodup) (hl : ∀ x, lookM s2 x = if x ∈ s'.map Prod.fst then lookM s' x else lookM s x) :
    (s2.map Prod.fst).Perm (mrksF W W') ∧ ∀ p ∈ s2, p.2 = true := by
  obtain ⟨hU1, hU2⟩ := mrksF_uni (W' := W') hs
  have n2 : (mrksF W W').Nodup := by
    rw [List.nodup_iff_pairwise_ne]
    exact hU1.imp fun {a b} h e => by rw [e] at h; exact mkLt_irrefl _ h
  constructor
  · refine (List.perm_ext_iff_of_nodup hn2 n2).2 fun x => ?_
    rw [hU2, ← look_has, hl, ← hp.mem_iff, ← hp'.mem_iff]
    split
    · rename_i h; simp [h, look_has]
    · rename_i h; simp only [h, or_false]; exact look_has
  · intro p h
    have h1 := (lookM_mem hn2 (x := p.1) (y := p.2)).2 h
    rw [hl] at h1
    split at h1
    · exact hk' _ (lookM_some h1)
    · exact hk _ (lookM_some h1)
/-- At a key that is still to come a conflict shows; where all keys are through there is none. -/
theorem conf_at {m m' : List (Mrk × Dec)} {D D' : List Dec} (hp : (m.map Prod.snd).Perm D) (hk : ∀ p ∈ m, p.1 = mkOf p.2) (hp' : (m'.map Prod.snd).Perm D') (hk' : ∀ p ∈ m', p.1 = mkOf p.2) {x : Mrk} {d e : Dec} (h1 : lookM m' x = some d) (h2 : lookM m x = some e) (hne : e ≠ d) : confB D D' = true := by
  have a := lookM_some h1; have b := lookM_some h2
  exact conf_iff.2 ⟨d, hp'.mem_iff.1 (List.mem_map.2 ⟨_, a, rfl⟩), e, hp.mem_iff.1 (List.mem_map.2 ⟨_, b, rfl⟩), by rw [← hk _ b, ← hk' _ a], hne⟩
theorem conf_none {m m' : List (Mrk × Dec)} {D D' : List Dec} (hp : (m.map Prod.snd).Perm D) (hk : ∀ p ∈ m, p.1 = mkOf p.2) (hp' : (m'.map Prod.snd).Perm D') (hk' : ∀ p ∈ m', p.1 = mkOf p.2) (hn : (m.map Prod.fst).Nodup) (hn' : (m'.map Prod.fst).Nodup)
    (h : ∀ x ∈ m'.map Prod.fst, ∀ e, lookM m x = some e → lookM m' x = some e) : confB D D' = false := by
  rw [Bool.eq_false_iff]
  intro hc
  obtain ⟨d, hd, e, he, h1, h2⟩ := conf_iff.1 hc
  obtain ⟨p, a, rfl⟩ := List.mem_map.1 (hp'.mem_iff.2 hd)
  obtain ⟨q, b, rfl⟩ := List.mem_map.1 (hp.mem_iff.2 he)
  have k1 := (lookM_mem hn' (x := p.1) (y := p.2)).2 a
  have k2 := (lookM_mem hn (x := q.1) (y := q.2)).2 b
  have e1 : q.1 = p.1 := by rw [hk q b, hk' p a, h1]
  rw [e1] at k2
  have := h p.1 (List.mem_map.2 ⟨p, a, rfl⟩) q.2 k2
  rw [k1] at this
  exact h2 (Option.some.inj this).symm
end Go.Proofs.YthnckicnnhkkaaaGreat
/- decision.Ledger: Join. Condition: both ledgers read as such. -/
namespace Go.Proofs.YthnckicnnhkkaaaGreat
open Go.RowKit Go.Maps Go.Shelf

theorem two_boxMD (w : World) (a : Mrk) (b : Dec) (t u : TypeId) : ∃ A1 A2 A3 A4 : World, w.alloc (.cells #[.int .i64 0, .int .i64 0] t) = A1 ∧ A1.alloc (.cells #[.int .i64 0, .int .i64 0, .int .i64 0, .int .i64 0, .int .i64 0] u) = A2 ∧ ((A2.setCell ⟨w.heap.size, 0, none⟩ (.int .i64 a.au)).setCell ⟨w.heap.size, 1, none⟩ (.int .i64 a.nu)) = A3 ∧ (((((A3.setCell ⟨A1.heap.size, 0, none⟩ (.int .i64 b.au)).setCell ⟨A1.heap.size, 1, none⟩ (.int .i64 b.nu)).setCell ⟨A1.heap.size, 2, none⟩ (.int .i64 b.ki)).setCell ⟨A1.heap.size, 3, none⟩ (.int .i64 b.a)).setCell ⟨A1.heap.size, 4, none⟩ (.int .i64 b.b)) = A4 ∧
    A2.heap[w.heap.size]? = some (.cells #[.int .i64 0, .int .i64 0] t (0, 0)) ∧ A3.heap[A1.heap.size]? = some (.cells #[.int .i64 0, .int .i64 0, .int .i64 0, .int .i64 0, .int .i64 0] u (0, 0)) ∧ A4.heap[w.heap.size]? = some (.cells #[.int .i64 a.au, .int .i64 a.nu] t (0, 0)) ∧ A4.heap[A1.heap.size]? = some (.cells #[.int .i64 b.au, .int .i64 b.nu, .int .i64 b.ki, .int .i64 b.a, .int .i64 b.b] u (0, 0)) ∧ Below w.heap.size w A4 := by
  obtain ⟨A1, hA1, Hz1, hb1, hlt1, _⟩ := boxed w #[.int .i64 0, .int .i64 0] t
  obtain ⟨A2, hA2, Hz2, hb2, hlt2, _⟩ := boxed A1 #[.int .i64 0, .int .i64 0, .int .i64 0, .int .i64 0, .int .i64 0] u
  have k0 : A1.heap[w.heap.size]? = some (.cells #[.int .i64 0, .int .i64 0] t (0, 0)) := by rw [← hA1]; exact heap_alloc_new _ _
  have k0' := heap_below k0 hb2 (heap_lt k0)
  have k1 : A2.heap[A1.heap.size]? = some (.cells #[.int .i64 0, .int .i64 0, .int .i64 0, .int .i64 0, .int .i64 0] u (0, 0)) := by rw [← hA2]; exact heap_alloc_new _ _
  obtain ⟨A3, hA3⟩ : ∃ z, ((A2.setCell ⟨w.heap.size, 0, none⟩ (.int .i64 a.au)).setCell ⟨w.heap.size, 1, none⟩ (.int .i64 a.nu)) = z := ⟨_, rfl⟩
  have g3 : A2.grownBy A3 (some w.heap.size) := by rw [← hA3]; exact setCells_grown w.heap.size [.int .i64 a.au, .int .i64 a.nu] A2 0
  have k2 : A3.heap[w.heap.size]? = some (.cells #[.int .i64 a.au, .int .i64 a.nu] t (0, 0)) := by rw [← hA3]; exact heap_setCells [.int .i64 a.au, .int .i64 a.nu] [] [.int .i64 0, .int .i64 0] A2 k0' rfl
  have k3 : A3.heap[A1.heap.size]? = some (.cells #[.int .i64 0, .int .i64 0, .int .i64 0, .int .i64 0, .int .i64 0] u (0, 0)) := (g3.block _ (heap_lt k1) (fun e => by have := Option.some.inj e; omega)).trans k1
  obtain ⟨A4, hA4⟩ : ∃ z, (((((A3.setCell ⟨A1.heap.size, 0, none⟩ (.int .i64 b.au)).setCell ⟨A1.heap.size, 1, none⟩ (.int .i64 b.nu)).setCell ⟨A1.heap.size, 2, none⟩ (.int .i64 b.ki)).setCell ⟨A1.heap.size, 3, none⟩ (.int .i64 b.a)).setCell ⟨A1.heap.size, 4, none⟩ (.int .i64 b.b)) = z := ⟨_, rfl⟩
  have g4 : A3.grownBy A4 (some A1.heap.size) := by rw [← hA4]; exact setCells_grown A1.heap.size [.int .i64 b.au, .int .i64 b.nu, .int .i64 b.ki, .int .i64 b.a, .int .i64 b.b] A3 0
  have k4 : A4.heap[A1.heap.size]? = some (.cells #[.int .i64 b.au, .int .i64 b.nu, .int .i64 b.ki, .int .i64 b.a, .int .i64 b.b] u (0, 0)) := by rw [← hA4]; exact heap_setCells [.int .i64 b.au, .int .i64 b.nu, .int .i64 b.ki, .int .i64 b.a, .int .i64 b.b] [] [.int .i64 0, .int .i64 0, .int .i64 0, .int .i64 0, .int .i64 0] A3 k3 rfl
  have k5 : A4.heap[w.heap.size]? = some (.cells #[.int .i64 a.au, .int .i64 a.nu] t (0, 0)) := (g4.block _ (heap_lt k2) (fun e => by have := Option.some.inj e; omega)).trans k2
  have h2 := below_trans hb1 hb2
  have h3 := h2.grown g3 h2.size (fun j e => by cases e; exact Nat.le_refl _)
  have h4 := h3.grown g4 h3.size (fun j e => by cases e; omega)
  exact ⟨A1, A2, A3, A4, hA1, hA2, hA3, hA4, k0', k3, k5, k4, h4⟩
theorem below_trans' {B : Nat} {w w' w'' : World} (h : Below B w w') (k : Below w'.heap.size w' w'') (hB : B ≤ w'.heap.size) : Below B w w'' := Below.grown h (show w'.grownBy w'' none from ⟨k.os, k.tape, k.output, k.size, fun i hi _ => k.block i hi⟩) hB (fun j e => by cases e)
set_option maxHeartbeats 16000000 in
set_option maxRecDepth 100000 in
theorem LJoin_ok (q mb wb : Nat) (D : List Dec) (W : List Mrk) (q' mb' wb' : Nat) (D' : List Dec) (W' : List Mrk) (w : World) (h : LedAt w q mb wb D W) (h' : LedAt w q' mb' wb' D' W') (hD : D.length ≤ 200) (hD' : D'.length ≤ 200) (hW : W.length ≤ 200) (hW' : W'.length ≤ 200) :
    Calls Tryz.prog 95 #[.pointer (some ⟨q, 0, none⟩), .pointer (some ⟨q', 0, none⟩)] w fun e w' => e = .returned (.int .i64 (joinLE D W D' W')) ∧
      ∃ mb2 wb2, LedAt w' q mb2 wb2 (joinLD D W D' W') (joinLW D W D' W') ∧ Touch w w' [q] ∧ (mb2 = mb ∨ w.heap.size ≤ mb2) ∧ (wb2 = wb ∨ w.heap.size ≤ wb2) := by
  have HN : Hid (joinLE D W D' W' ≠ 0 → ∀ w1, Below w.heap.size w w1 → ∃ mb2 wb2, LedAt w1 q mb2 wb2 (joinLD D W D' W') (joinLW D W D' W') ∧ Touch w w1 [q] ∧ (mb2 = mb ∨ w.heap.size ≤ mb2) ∧ (wb2 = wb ∨ w.heap.size ≤ wb2)) := Lib.hid fun hn w1 hb => ⟨mb, wb, by unfold joinLD joinLW; rw [if_neg hn, if_neg hn]; exact h.below hb, touch_below hb _, .inl rfl, .inl rfl⟩
  obtain ⟨hrow, ⟨m, hm, hmp, hmk⟩, ⟨s, hs, hsp, hst⟩, hsD, hsW, hne1, hne2, hne3⟩ := id h
  obtain ⟨hrow', ⟨m', hm', hmp', hmk'⟩, ⟨s', hs', hsp', hst'⟩, hsD', hsW', _, _, _⟩ := id h'
  obtain ⟨⟨r0, r1⟩, _⟩ := cellsM hrow
  obtain ⟨⟨p0, p1⟩, _⟩ := cellsM hrow'
  have Hm := Lib.hid hm; have Hm' := Lib.hid hm'; have Hs := Lib.hid hs; have Hs' := Lib.hid hs'
  have HmF := Lib.hid (⟨hmp, hmk, MapAt.nodup hm⟩ : (m.map Prod.snd).Perm D ∧ (∀ p ∈ m, p.1 = mkOf p.2) ∧ (m.map Prod.fst).Nodup)
  have HmF' := Lib.hid (⟨hmp', hmk', MapAt.nodup hm'⟩ : (m'.map Prod.snd).Perm D' ∧ (∀ p ∈ m', p.1 = mkOf p.2) ∧ (m'.map Prod.fst).Nodup)
  have HsF := Lib.hid (⟨hsp, hst⟩ : (s.map Prod.fst).Perm W ∧ ∀ p ∈ s, p.2 = true); have HsF' := Lib.hid (⟨hsp', hst'⟩ : (s'.map Prod.fst).Perm W' ∧ ∀ p ∈ s', p.2 = true)
  have HSD := Lib.hid (⟨hsD, hsD', hsW⟩ : SrtD D ∧ SrtD D' ∧ SrtM W)
  have Hml : Hid (m.length ≤ 200 ∧ m'.length ≤ 200 ∧ s.length ≤ 200 ∧ s'.length ≤ 200) := Lib.hid (by
    have h1 := hmp.length_eq; have h2 := hmp'.length_eq; have h3 := hsp.length_eq; have h4 := hsp'.length_eq
    rw [List.length_map] at h1 h2 h3 h4
    omega)
  have Hrow := Lib.hid hrow
  have hmb := MapAt.lt hm; have hmb' := MapAt.lt hm'; have hwb := MapAt.lt hs; have hwb' := MapAt.lt hs'; have hql := heap_lt hrow
  have Hne := Lib.hid (⟨hne1, hne2, hne3⟩ : q ≠ mb ∧ q ≠ wb ∧ mb ≠ wb)
  have HE : Hid (joinLE D W D' W' = if confB D D' = true then 10 else if 200 < (uniD D D').length ∨ 200 < (mrksF W W').length then 6 else 0) := Lib.hid rfl
  clear h h' hm hm' hs hs' hmp hmk hmp' hmk' hsp hst hsp' hst' hsD hsW hsD' hsW' hrow hrow' hne1 hne2 hne3 hD hD' hW hW'
  go_enter Tryz.func95, Tryz.ntmps95
  go_wp2_with fail
  have hba : Below (w).heap.size (w) (w).drew := (Below.refl _ _).drew
  obtain ⟨wa, hwa⟩ : ∃ W, (w).drew = W := ⟨_, rfl⟩
  rw [hwa] at hba
  have HSt := Lib.hid fun (w9 : World) (hb : Below wa.heap.size wa w9) => (show (fun w' : World => Below wa.heap.size wa w' ∧ w'.cell? ⟨q, 0, none⟩ = some (.map (some mb)) ∧ w'.cell? ⟨q, 1, none⟩ = some (.map (some wb))) w9 from ⟨hb, cell_later hb (cell_later hba r0), cell_later hb (cell_later hba r1)⟩)
  have hHeld := HSt.out wa (Below.refl _ _)
  refine wp_region_S 10 (fun w' : World => Below wa.heap.size wa w' ∧ w'.cell? ⟨q, 0, none⟩ = some (.map (some mb)) ∧ w'.cell? ⟨q, 1, none⟩ = some (.map (some wb))) (by kernel_rfl) (by decide) ?_
  rw [hwa]
  clear hwa
  refine wpAnyS_takeD 0 (some 17) (.pointer (some ⟨q, 0, none⟩)) (by rfl) (by rfl) (by kernel_rfl) (by exact fun _ _ _ h => h) (by rfl) (fun w' hS => by go_simp) hHeld ?_
  simp only [Act.put, List.setIfInBounds_toArray, List.set_cons_succ, List.set_cons_zero]
  refine wpAnyS_takeD 1 (some 18) (.pointer (some ⟨q, 0, none⟩)) (by rfl) (by rfl) (by kernel_rfl) (by exact fun _ _ _ h => h) (by rfl) (fun w' hS => by go_simp) hHeld ?_
  simp only [Act.put, List.setIfInBounds_toArray, List.set_cons_succ, List.set_cons_zero]
  refine wpAnyS_takeD 2 (some 19) (.pointer (some ⟨q, 0, none⟩)) (by rfl) (by rfl) (by kernel_rfl) (by exact fun _ _ _ h => h) (by rfl) (fun w' hS => by go_simp) hHeld ?_
  simp only [Act.put, List.setIfInBounds_toArray, List.set_cons_succ, List.set_cons_zero]
  refine wpAnyS_takeD 3 (some 20) (.map (some mb)) (by rfl) (by rfl) (by kernel_rfl) (by exact fun _ _ _ h => h) (by rfl) (fun w' hS => by (obtain ⟨_, x0, x1⟩ := hS; go_simp)) hHeld ?_
  simp only [Act.put, List.setIfInBounds_toArray, List.set_cons_succ, List.set_cons_zero]
  refine wpAnyS_takeD 5 (some 22) (.pointer (some ⟨q, 0, none⟩)) (by rfl) (by rfl) (by kernel_rfl) (by exact fun _ _ _ h => h) (by rfl) (fun w' hS => by go_simp) hHeld ?_
  simp only [Act.put, List.setIfInBounds_toArray, List.set_cons_succ, List.set_cons_zero]
  refine wpAnyS_takeD 6 (some 23) (.pointer (some ⟨q, 0, none⟩)) (by rfl) (by rfl) (by kernel_rfl) (by exact fun _ _ _ h => h) (by rfl) (fun w' hS => by go_simp) hHeld ?_
  simp only [Act.put, List.setIfInBounds_toArray, List.set_cons_succ, List.set_cons_zero]
  refine wpAnyS_takeD 7 (some 24) (.pointer (some ⟨q, 1, none⟩)) (by rfl) (by rfl) (by kernel_rfl) (by exact fun _ _ _ h => h) (by rfl) (fun w' hS => by go_simp) hHeld ?_
  simp only [Act.put, List.setIfInBounds_toArray, List.set_cons_succ, List.set_cons_zero]
  refine wpAnyS_takeD 8 (some 25) (.map (some wb)) (by rfl) (by rfl) (by kernel_rfl) (by exact fun _ _ _ h => h) (by rfl) (fun w' hS => by (obtain ⟨_, x0, x1⟩ := hS; go_simp)) hHeld ?_
  simp only [Act.put, List.setIfInBounds_toArray, List.set_cons_succ, List.set_cons_zero]
  refine wpAnyS_one 4 (by kernel_rfl) (by rfl) (by decide) (fun K hK => ?_)
  have HK := Lib.hid hK; clear hK
  rw [if_pos (by rfl)]
  go_simp
  refine (mcloneDc_ok mb m wa (MapAt.below Hm.out hba)).mono ?_
  rintro e w1 ⟨rfl, hm1, hb1⟩
  have HM1 := Lib.hid hm1
  clear hHeld hm1
  have hHeld := HSt.out _ hb1
  refine HK.out _ _ hHeld ?_
  clear HK
  refine wpAnyS_one 9 (by kernel_rfl) (by rfl) (by decide) (fun K hK => ?_)
  have HK := Lib.hid hK; clear hK
  rw [if_pos (by rfl)]
  go_simp
  refine (mcloneMk_ok wb s w1 (MapAt.below Hs.out (below_trans hba hb1))).mono ?_
  rintro e w2 ⟨rfl, hs2, hb2⟩
  have hb12 := below_trans hb1 hb2
  clear hHeld
  refine HK.out _ _ (HSt.out _ hb12) ?_
  clear HK
  have HM2 := Lib.hid (MapAt.below HM1.out hb2); have HS2 := Lib.hid hs2
  have hbw2 := below_trans hba hb12
  have hg1 : w.heap.size ≤ wa.heap.size := hba.size
  have hg2 : wa.heap.size < w1.heap.size := MapAt.lt HM1.out
  have hg3 : w1.heap.size < w2.heap.size := MapAt.lt hs2
  have r0' := cell_later hbw2 p0; have r1' := cell_later hbw2 p1
  clear hs2 HM1 r0 r1
  refine (show tailOf _ _ _ _ _ _ _ _ from ⟨by kernel_rfl, ?_⟩)
  simp only [List.drop_succ_cons, List.drop_zero]
  have HM'2 := Lib.hid (MapAt.below Hm'.out hbw2)
  generalize hga : wa.heap.size = g1 at hg1 hg2 HM2 ⊢
  generalize hgb : w1.heap.size = g2 at hg2 hg3 HS2 ⊢
  clear hga hgb hb12 hb1 hb2 hba HSt
  go_wp2_with (first | (at_range; refine wpList_rangeAt rfl _ rfl Tryz.underlying98 HM'2.out rfl ?_; intro w6 hr6 hb6 hz6))
  go_frame
  have HR6 := Lib.hid (show RangeDc w6 mb' w2.heap.size m' (m'.map Prod.fst) from hr6)
  have HM6 := Lib.hid (show MapDc w6 g1 m from MapAt.below HM2.out hb6)
  have HT6 := Lib.hid (touch_below hb6 [g1])
  clear hr6 hb6 r0' r1'
  go_loopw [] (fun wr => ∃ (todo : List Mrk) (mc : List (Mrk × Dec)), Hid (RangeDc wr mb' w2.heap.size m' todo) ∧ Hid (MapDc wr g1 mc) ∧ Hid (∀ x, lookM mc x = if x ∈ m'.map Prod.fst ∧ x ∉ todo then lookM m' x else lookM m x) ∧ Hid (∀ x ∈ m'.map Prod.fst, x ∉ todo → ∀ e, lookM m x = some e → lookM m' x = some e) ∧ Hid (Touch w2 wr [g1]) ∧ w6.heap.size ≤ wr.heap.size) (fun wr => wr.rangeLeft mb' w2.heap.size)
  case atStart => exact ⟨m'.map Prod.fst, m, HR6, HM6, Lib.hid (fun x => by rw [if_neg (fun hh => hh.2 hh.1)]), Lib.hid (fun x hx hn => absurd hx hn), HT6, Nat.le_refl _⟩
  case round =>
    obtain ⟨todo, mc, Hr, Hmc, Hlk, Hno, HT, hz⟩ := hrel
    go_wp2_with (at_next; refine wpList_nextW rfl _ rfl Hr.out rfl ?_ ?_)
    · rintro rfl
      have hcf : confB D D' = false := conf_none HmF.out.1 HmF.out.2.1 HmF'.out.1 HmF'.out.2.1 HmF.out.2.2 HmF'.out.2.2 (fun x hx e he => Hno.out x hx (List.not_mem_nil) e he)
      have hjm := joined_made HSD.out.1 HSD.out.2.1 HmF.out.1 HmF.out.2.1 HmF'.out.1 HmF'.out.2.1 HmF.out.2.2 HmF'.out.2.2 (MapAt.nodup Hmc.out) (fun x => by
        have hx := Hlk.out x
        by_cases hk : x ∈ m'.map Prod.fst
        · rw [if_pos ⟨hk, List.not_mem_nil⟩] at hx; rw [if_pos hk]; exact hx
        · rw [if_neg (fun h => hk h.1)] at hx; rw [if_neg hk]; exact hx) hcf
      have hbw : Below w.heap.size w wr := ((touch_below hbw2 [g1]).trans HT.out).below (by simpa using hg1) (Nat.le_refl _)
      have r1' := cell_later hbw p1
      have hsr : MapMk wr g2 s := MapAt.same HS2.out (HT.out.block g2 hg3 (by simp; omega))
      have hs'r : MapMk wr wb' s' := MapAt.below Hs'.out hbw
      have HCp := Lib.hid (mcopyMk_ok g2 wb' s s' wr hsr hs'r (by omega) (by have := Hml.out; omega) (by have := Hml.out; omega))
      have HJm := Lib.hid hjm; have Hcf := Lib.hid hcf
      clear hjm hcf hsr hs'r Hlk Hno
      go_wp2_with fail
      refine HCp.out.mono ?_
      rintro e w9 ⟨rfl, s2, hs9, hl9, ht9⟩
      have hjg := joined_gone HSD.out.2.2 HsF.out.1 HsF.out.2 HsF'.out.1 HsF'.out.2 (MapAt.nodup hs9) hl9
      have hm9 : MapDc w9 g1 mc := MapAt.same Hmc.out (ht9.block g1 (MapAt.lt Hmc.out) (by simp; omega))
      have hbw9 : Below w.heap.size w w9 := ((touch_below hbw [g2]).trans ht9).below (by simp; omega) (Nat.le_refl _)
      have hlen1 := fun ty => MapAt.len hm9 Tryz.underlying98 ty
      have hlen2 := fun ty => MapAt.len hs9 Tryz.underlying97 ty
      have hn1 : mc.length = (uniD D D').length := by have := HJm.out.1.length_eq; rwa [List.length_map] at this
      have hn2 : s2.length = (mrksF W W').length := by have := hjg.1.length_eq; rwa [List.length_map] at this
      have hrow9 := heap_below Hrow.out hbw9 hql
      obtain ⟨⟨r0, r1⟩, k0, k1⟩ := cellsM hrow9
      have HE2 : Hid (joinLE D W D' W' = if 200 < mc.length ∨ 200 < s2.length then 6 else 0) := Lib.hid (by rw [HE.out, Hcf.out, hn1, hn2]; rfl)
      have HF : Hid (¬ (200 < mc.length ∨ 200 < s2.length) → LedAt ((w9.setCell ⟨q, 0, none⟩ (.map (some g1))).setCell ⟨q, 1, none⟩ (.map (some g2))) q g1 g2 (joinLD D W D' W') (joinLW D W D' W') ∧ Touch w ((w9.setCell ⟨q, 0, none⟩ (.map (some g1))).setCell ⟨q, 1, none⟩ (.map (some g2))) [q]) := Lib.hid (fun hno => by
        have h0 : joinLE D W D' W' = 0 := by rw [HE2.out, if_neg hno]
        have hgq : w9.grownBy ((w9.setCell ⟨q, 0, none⟩ (.map (some g1))).setCell ⟨q, 1, none⟩ (.map (some g2))) (some q) := setCells_grown q [.map (some g1), .map (some g2)] w9 0
        unfold joinLD joinLW
        rw [if_pos h0, if_pos h0]
        refine ⟨⟨heap_set2 hrow9, ⟨mc, MapAt.kept hm9 hgq (by simp; omega), HJm.out⟩, ⟨s2, MapAt.kept hs9 hgq (by simp; omega), hjg⟩, (uni_step HSD.out.1 HSD.out.2.1 Hcf.out).1, (mrksF_uni HSD.out.2.2).1, by omega, by omega, by omega⟩, (touch_below hbw9 [q]).trans (grown_touch hgq (by simp))⟩)
      have Hjg := Lib.hid hjg; have Hrow9 := Lib.hid hrow9
      clear hjg hl9 hn1 hn2 hrow9 HCp ht9 r1'
      by_cases c1 : (200 : Int) < (mc.length : Int)
      · have h6 : joinLE D W D' W' = 6 := by rw [HE2.out, if_pos (.inl (by omega))]
        have H6 := Lib.hid h6
        clear h6
        go_wp2_with fail
        go_ret
        exact ⟨ret_i64 H6.out.symm, HN.out (by rw [H6.out]; decide) _ hbw9⟩
      by_cases c2 : (200 : Int) < (s2.length : Int)
      · have h6 : joinLE D W D' W' = 6 := by rw [HE2.out, if_pos (.inr (by omega))]
        have H6 := Lib.hid h6
        clear h6
        go_wp2_with fail
        go_ret
        exact ⟨ret_i64 H6.out.symm, HN.out (by rw [H6.out]; decide) _ hbw9⟩
      have Hc : Hid (¬ (200 < mc.length ∨ 200 < s2.length)) := Lib.hid (by omega)
      have k1' : (w9.setCell ⟨q, 0, none⟩ (.map (some g1))).cell? ⟨q, 1, none⟩ = some (.map (some wb)) := by
        have := heap_setCell_same w9 q 0 _ _ (.map (some g1)) Hrow9.out
        rw [heap_cell this]; rfl
      have k1'' : (w9.setCell ⟨q, 0, none⟩ (.map (some g1))).frozen? ⟨q, 1, none⟩ = false := heap_free (heap_setCell_same w9 q 0 _ _ (.map (some g1)) Hrow9.out)
      go_wp2_with fail
      go_ret
      exact ⟨ret_i64 (by rw [HE2.out, if_neg Hc.out]), g1, g2, (HF.out Hc.out).1, (HF.out Hc.out).2, .inr hg1, .inr (by omega)⟩
    · rintro x ⟨d⟩ w7 hx hlk hr7 hlt7 hg7 hz7 hen
      have ek : keyMrk.val x = .agg #[.int .i64 x.au, .int .i64 x.nu] := rfl
      have ee : elDec.val d = .agg #[.int .i64 d.au, .int .i64 d.nu, .int .i64 d.ki, .int .i64 d.a, .int .i64 d.b] := rfl
      rw [ek, ee] at hen
      rw [ek, ee]
      clear ek ee
      have hxK : x ∈ m'.map Prod.fst := Hr.out.sub x hx
      have hwx := mem_ok (RangeAt.map Hr.out) hxK
      have hwd : wfDc d := (MapAt.good Hm'.out _ (lookM_some hlk)).2
      have hm7 := MapAt.kept Hmc.out hg7 (by simp; omega)
      have hnd' := MapAt.nodup hm7
      obtain ⟨A1, A2, A3, A4, hA1, hA2, hA3, hA4, k1, k2, k3, k4, hbA⟩ := two_boxMD w7 x d 35 33
      obtain ⟨⟨z0, z1⟩, f0, f1⟩ := cells2 k1
      obtain ⟨⟨y0, y1, y2, y3, y4⟩, e0, e1, e2, e3, e4⟩ := cellsD5 k2
      obtain ⟨⟨a0, a1⟩, _⟩ := cells2 k3
      obtain ⟨⟨b0, b1, b2, b3, b4⟩, _⟩ := cellsD5 k4
      have hmA := MapAt.below hm7 hbA
      have hlkc : lookM mc x = lookM m x := by rw [Hlk.out x, if_neg (fun hh => hh.2 hx)]
      have hlook := MapAt.look_ok hmA Tryz.underlying98 hwx
      rw [hlkc, show elDec.zero = (⟨0, 0, 0, 0, 0⟩ : Dec) from rfl] at hlook
      obtain ⟨old, hold⟩ : ∃ z, (lookM m x).getD ⟨0, 0, 0, 0, 0⟩ = z := ⟨_, rfl⟩
      rw [hold] at hlook
      have hlook' : (Instr.lookup 98 (.map (some g1)) (.agg #[.int .i64 x.au, .int .i64 x.nu]) true).run Tryz.prog A4 = .ok (.tuple #[.agg #[.int .i64 old.au, .int .i64 old.nu, .int .i64 old.ki, .int .i64 old.a, .int .i64 old.b], .bool (lookM m x).isSome]) A4 := hlook
      obtain ⟨V1, V2, hV1, hV2, HzV2, hkV1, hkV2, hbV2, hltV2⟩ := fresh A4 [.int .i64 0, .int .i64 0, .int .i64 0, .int .i64 0, .int .i64 0] [.int .i64 old.au, .int .i64 old.nu, .int .i64 old.ki, .int .i64 old.a, .int .i64 old.b] 33 rfl
      have hsV2 : ((((V1.setCell ⟨A4.heap.size, 0, none⟩ (.int .i64 old.au)).setCell ⟨A4.heap.size, 1, none⟩ (.int .i64 old.nu)).setCell ⟨A4.heap.size, 2, none⟩ (.int .i64 old.ki)).setCell ⟨A4.heap.size, 3, none⟩ (.int .i64 old.a)).setCell ⟨A4.heap.size, 4, none⟩ (.int .i64 old.b) = V2 := hV2
      clear hV2
      obtain ⟨⟨t0, t1, t2, t3, t4⟩, u0, u1, u2, u3, u4⟩ := cellsD5 hkV1
      obtain ⟨⟨c0, c1, c2, c3, c4⟩, _⟩ := cellsD5 hkV2
      have a0' := cell_later hbV2 a0; have a1' := cell_later hbV2 a1
      have b0' := cell_later hbV2 b0; have b1' := cell_later hbV2 b1; have b2' := cell_later hbV2 b2; have b3' := cell_later hbV2 b3; have b4' := cell_later hbV2 b4
      have hmV := MapAt.below hmA hbV2
      have hbAV := below_trans hbA hbV2
      have hgn : w7.grownBy V2 none := ⟨hbAV.os, hbAV.tape, hbAV.output, hbAV.size, fun i hi _ => hbAV.block i hi⟩
      have hneq := fun W9 => neqDec_ old d W9
      have n3 : some mb' ≠ some g1 := fun e => by have := Option.some.inj e; omega
      have n4 : some w2.heap.size ≠ some g1 := fun e => by have := Option.some.inj e; omega
      have hmlen : mc.length ≤ 600 := by
        have h1 := nodup_le (d := m'.map Prod.fst ++ m.map Prod.fst) hnd' (fun z hz => by
          have h2 := look_has.2 hz
          rw [Hlk.out z] at h2
          rw [List.mem_append]
          split at h2
          · rename_i h3; exact .inl h3.1
          · exact .inr (look_has.1 h2))
        have h4 := Hml.out
        rw [List.length_append, List.length_map, List.length_map, List.length_map] at h1
        omega
      have Hlk8 : Hid (∀ z, lookM (putM mc x d) z = if z ∈ m'.map Prod.fst ∧ z ∉ todo.filter (fun z => !decide (z = x)) then lookM m' z else lookM m z) := Lib.hid (fun z => by
        rw [lookM_putM]
        by_cases e : x = z
        · subst e
          rw [if_pos rfl, if_pos ⟨hxK, by simp⟩, hlk]
        · rw [if_neg e, Hlk.out z]
          have e2 : z ∈ todo.filter (fun z => !decide (z = x)) ↔ z ∈ todo := by
            simp only [List.mem_filter, Bool.not_eq_true', decide_eq_false_iff_not]
            exact ⟨fun h => h.1, fun h => ⟨h, fun e3 => e e3.symm⟩⟩
          simp only [e2])
      have HnoX : Hid ((∀ e, lookM m x = some e → e = d) → ∀ z ∈ m'.map Prod.fst, z ∉ todo.filter (fun z => !decide (z = x)) → ∀ e, lookM m z = some e → lookM m' z = some e) := Lib.hid (fun hxe z hz hn e he => by
        by_cases ez : z = x
        · subst ez; rw [hxe e he]; exact hlk
        · refine Hno.out z hz (fun hzt => hn ?_) e he
          simp only [List.mem_filter, Bool.not_eq_true', decide_eq_false_iff_not]
          exact ⟨hzt, ez⟩)
      have Hcf : Hid (∀ e, lookM m x = some e → e ≠ d → confB D D' = true) := Lib.hid (fun e he hne => conf_at HmF.out.1 HmF.out.2.1 HmF'.out.1 HmF'.out.2.1 hlk he hne)
      have hbw : Below w.heap.size w V2 := (((touch_below hbw2 [g1]).trans HT.out).below (by simpa using hg1) (Nat.le_refl _)).grown hg7 (by have := HT.out.size; have := hbw2.size; omega) (fun j e => by cases e; have := hbw2.size; omega) |> fun hq => below_trans' hq hbAV (by have := HT.out.size; have := hbw2.size; omega)
      have Hbw := Lib.hid hbw
      clear hbw hm7 hmA hlkc hxK hnd' hlk Hlk Hno hlook hkV1 hkV2 k1 k2 k3 k4 hbA hbAV hbV2
      have Hz7 := Lib.hid hz7
      clear hz7
      cases hml : lookM m x with
      | none =>
        have hsome : (lookM m x).isSome = false := by rw [hml]; rfl
        have Hno8 := Lib.hid (HnoX.out (fun e he => by rw [hml] at he; cases he))
        rw [hsome] at hlook'
        clear hml hsome hold
        obtain ⟨w8, hu8, hm8, hg8⟩ := MapAt.put hmV Tryz.underlying98 (x := x) (y := d) hwx hwd (by simp only [maxLen]; omega)
        have hu8' : (Instr.mapUpdate 98 (.map (some g1)) (.agg #[.int .i64 x.au, .int .i64 x.nu]) (.agg #[.int .i64 d.au, .int .i64 d.nu, .int .i64 d.ki, .int .i64 d.a, .int .i64 d.b])).run Tryz.prog V2 = .ok () w8 := hu8
        have hr8 := RangeAt.kept (RangeAt.kept hr7 hgn (by simp) (by simp)) hg8 n3 n4
        have hl8 := (RangeAt.left_kept (RangeAt.kept hr7 hgn (by simp) (by simp)) hg8 n3 n4).trans (RangeAt.left_kept hr7 hgn (by simp) (by simp))
        have HL8 := Lib.hid (show w8.rangeLeft mb' w2.heap.size < wr.rangeLeft mb' w2.heap.size by rw [hl8]; exact hlt7)
        have hT8 : Touch w2 w8 [g1] := ((HT.out.trans_own hg7 (fun j e => by cases e; exact Nat.le_refl _)).trans_own hgn (fun j e => by cases e)).trans (grown_touch hg8 (by simp))
        have hz8 : w6.heap.size ≤ w8.heap.size := by have := hg8.size; have := hgn.size; have := Hz7.out; omega
        have HR8 := Lib.hid (show RangeDc w8 mb' w2.heap.size m' (todo.filter (fun z => !decide (z = x))) from hr8); have HM8 := Lib.hid (show MapDc w8 g1 _ from hm8); have HT8 := Lib.hid hT8
        clear hr7 hr8 hl8 hg8 hT8 hm8 hu8 hmV hgn
        go_wp2_with fail
        exact ⟨⟨_, _, HR8, HM8, Hlk8, Hno8, HT8, hz8⟩, HL8.out⟩
      | some e =>
        have hsome : (lookM m x).isSome = true := by rw [hml]; rfl
        rw [hsome] at hlook'
        have heo : e = old := by rw [← hold, hml]; rfl
        subst heo
        cases hnb : neB e d
        case false =>
          have hed : e = d := by
            refine Classical.byContradiction fun hne => ?_
            have : neB e d = true := by unfold neB; simpa using hne
            rw [hnb] at this; cases this
          have Hno8 := Lib.hid (HnoX.out (fun e' he' => by rw [hml] at he'; cases he'; exact hed))
          rw [hnb] at hneq
          clear hml hsome hold hed hnb
          obtain ⟨w8, hu8, hm8, hg8⟩ := MapAt.put hmV Tryz.underlying98 (x := x) (y := d) hwx hwd (by simp only [maxLen]; omega)
          have hu8' : (Instr.mapUpdate 98 (.map (some g1)) (.agg #[.int .i64 x.au, .int .i64 x.nu]) (.agg #[.int .i64 d.au, .int .i64 d.nu, .int .i64 d.ki, .int .i64 d.a, .int .i64 d.b])).run Tryz.prog V2 = .ok () w8 := hu8
          have hr8 := RangeAt.kept (RangeAt.kept hr7 hgn (by simp) (by simp)) hg8 n3 n4
          have hl8 := (RangeAt.left_kept (RangeAt.kept hr7 hgn (by simp) (by simp)) hg8 n3 n4).trans (RangeAt.left_kept hr7 hgn (by simp) (by simp))
          have HL8 := Lib.hid (show w8.rangeLeft mb' w2.heap.size < wr.rangeLeft mb' w2.heap.size by rw [hl8]; exact hlt7)
          have hT8 : Touch w2 w8 [g1] := ((HT.out.trans_own hg7 (fun j e => by cases e; exact Nat.le_refl _)).trans_own hgn (fun j e => by cases e)).trans (grown_touch hg8 (by simp))
          have hz8 : w6.heap.size ≤ w8.heap.size := by have := hg8.size; have := hgn.size; have := Hz7.out; omega
          have HR8 := Lib.hid (show RangeDc w8 mb' w2.heap.size m' (todo.filter (fun z => !decide (z = x))) from hr8); have HM8 := Lib.hid (show MapDc w8 g1 _ from hm8); have HT8 := Lib.hid hT8
          clear hr7 hr8 hl8 hg8 hT8 hm8 hu8 hmV hgn
          go_wp2_with fail
          exact ⟨⟨_, _, HR8, HM8, Hlk8, Hno8, HT8, hz8⟩, HL8.out⟩

        case true =>
          have hed : e ≠ d := fun he => by
            subst he
            unfold neB at hnb
            simp at hnb
          have hc := Hcf.out e hml hed
          have H10 : Hid (joinLE D W D' W' = 10) := Lib.hid (by rw [HE.out, if_pos hc])
          rw [hnb] at hneq
          clear hml hsome hold hed hnb hc hr7 hmV hgn
          go_wp2_with fail
          go_ret
          exact ⟨ret_i64 H10.out.symm, HN.out (by rw [H10.out]; decide) _ Hbw.out⟩
end Go.Proofs.YthnckicnnhkkaaaGreat
/- corpus.Corpus: Join. Condition: both corpora read as such. -/
namespace Go.Proofs.YthnckicnnhkkaaaGreat
open Go.RowKit Go.Maps Go.Shelf

section
variable {w w1 : World} {S : List Nat} {p q mb wb mb2 wb2 : Nat} {vl : Value} {l : List Spec} {D D2 : List Dec} {W W2 : List Mrk}
theorem CorR.joined (h : CorR w S p q mb wb vl l D W) (ht : Touch w w1 [q]) (hL : LedAt w1 q mb2 wb2 D2 W2) (hm : mb2 = mb ∨ w.heap.size ≤ mb2) (hw : wb2 = wb ∨ w.heap.size ≤ wb2) (hok : CorW l D2 W2) :
    CorR w1 (mb2 :: wb2 :: S) p q mb2 wb2 vl l D2 W2 ∧ Touch w w1 S ∧ ∀ b ∈ mb2 :: wb2 :: S, b ∈ S ∨ w.heap.size ≤ b := by
  obtain ⟨m1, m2, m3, m4, m5⟩ := h.mem
  obtain ⟨n1, n2, n3, n4⟩ := h.ne
  have lp := h.lt p m1; have lq := h.lt q m2
  have l1 : mb2 < w1.heap.size := by obtain ⟨m, k, _⟩ := hL.made; exact MapAt.lt k
  have l2 : wb2 < w1.heap.size := by obtain ⟨m, k, _⟩ := hL.gone; exact MapAt.lt k
  refine ⟨⟨(ht.block p lp (by simpa using n1)).trans h.row, h.own.off ht fun j hj => by simpa using (n4 j hj).2.1, hL, ⟨by simp [m1], by simp [m2], by simp, by simp, fun j hj => by simp [m5 j hj]⟩, ⟨n1, by omega, by omega, fun j hj => ?_⟩, fun b hb => ?_, hok⟩, ⟨ht.os, ht.tape, ht.output, ht.size, fun k hk hn => ht.block k hk (by simp; intro e; exact hn (by rw [e]; exact m2))⟩, fun b hb => ?_⟩
  · obtain ⟨a, b, c, d⟩ := n4 j hj
    have := h.lt j (m5 j hj)
    exact ⟨a, b, by omega, by omega⟩
  · rcases List.mem_cons.1 hb with rfl | hb
    · exact l1
    · rcases List.mem_cons.1 hb with rfl | hb
      · exact l2
      · exact Nat.lt_of_lt_of_le (h.lt b hb) ht.size
  · rcases List.mem_cons.1 hb with rfl | hb
    · rcases hm with e | e
      · exact .inl (by rw [e]; exact m3)
      · exact .inr e
    · rcases List.mem_cons.1 hb with rfl | hb
      · rcases hw with e | e
        · exact .inl (by rw [e]; exact m4)
        · exact .inr e
      · exact .inl hb
theorem CorR.both (h : CorR w S p q mb wb vl l D W) (ht : Touch w w1 [q]) (hL : LedAt w1 q mb2 wb2 D2 W2) (hm : mb2 = mb ∨ w.heap.size ≤ mb2) (hw : wb2 = wb ∨ w.heap.size ≤ wb2) {v : Value} {l2 : List Spec} (ho : OwnS 0 w1 v l2) (hv : ∀ j, v.ownBlock = some j → w.heap.size ≤ j ∧ j ≠ mb2 ∧ j ≠ wb2) (hok : CorW l2 D2 W2) :
    CorAt (w1.setCell ⟨p, 0, none⟩ v) (blk v ++ mb2 :: wb2 :: S) p l2 D2 W2 ∧ Touch w (w1.setCell ⟨p, 0, none⟩ v) S ∧ ∀ b ∈ blk v ++ mb2 :: wb2 :: S, b ∈ S ∨ w.heap.size ≤ b := by
  obtain ⟨m1, m2, m3, m4, m5⟩ := h.mem
  obtain ⟨n1, n2, n3, n4⟩ := h.ne
  have lp := h.lt p m1; have lq := h.lt q m2
  have l1 : mb2 < w1.heap.size := by obtain ⟨m, k, _⟩ := hL.made; exact MapAt.lt k
  have l2' : wb2 < w1.heap.size := by obtain ⟨m, k, _⟩ := hL.gone; exact MapAt.lt k
  have hrow : w1.heap[p]? = some (.cells [vl, .pointer (some ⟨q, 0, none⟩)].toArray 89 (0, 0)) := (ht.block p lp (by simpa using n1)).trans h.row
  have ht2 : Touch w1 (w1.setCell ⟨p, 0, none⟩ v) [p] := touch_set rfl (by simp)
  have hsz := ht.size
  have e1 : mb2 ≠ p := by omega
  have e2 : wb2 ≠ p := by omega
  have hTS : Touch w w1 S := ⟨ht.os, ht.tape, ht.output, ht.size, fun k hk hn => ht.block k hk (by simp; intro e; exact hn (by rw [e]; exact m2))⟩
  refine ⟨⟨q, mb2, wb2, v, ⟨heap_setCell_same w1 p 0 _ 89 v hrow, ho.off ht2 fun j hj => by have := (hv j hj).1; simp; omega, hL.same (ht2.block q (by omega) (by simpa using Ne.symm n1)) (ht2.block mb2 l1 (by simpa using e1)) (ht2.block wb2 l2' (by simpa using e2)), ⟨by simp [m1], by simp [m2], by simp, by simp, fun j hj => List.mem_append_left _ (mem_blk.2 hj)⟩, ⟨n1, by omega, by omega, fun j hj => ?_⟩, fun b hb => ?_, hok⟩⟩, ?_, fun b hb => ?_⟩
  · obtain ⟨a, b, c⟩ := hv j hj
    exact ⟨by omega, by omega, b, c⟩
  · refine Nat.lt_of_lt_of_le ?_ ht2.size
    rcases List.mem_append.1 hb with hb | hb
    · exact (ho.lt b (mem_blk.1 hb)).2
    · rcases List.mem_cons.1 hb with rfl | hb
      · exact l1
      · rcases List.mem_cons.1 hb with rfl | hb
        · exact l2'
        · exact Nat.lt_of_lt_of_le (h.lt b hb) ht.size
  · exact hTS.trans ⟨ht2.os, ht2.tape, ht2.output, ht2.size, fun k hk hn => ht2.block k hk (by simp; intro e; exact hn (by rw [e]; exact m1))⟩
  · rcases List.mem_append.1 hb with hb | hb
    · exact .inr (hv b (mem_blk.1 hb)).1
    · rcases List.mem_cons.1 hb with rfl | hb
      · rcases hm with e | e
        · exact .inl (by rw [e]; exact m3)
        · exact .inr e
      · rcases List.mem_cons.1 hb with rfl | hb
        · rcases hw with e | e
          · exact .inl (by rw [e]; exact m4)
          · exact .inr e
        · exact .inl hb
end
end Go.Proofs.YthnckicnnhkkaaaGreat
/- corpus.Corpus: Join, the walk. Condition: both corpora read as such. -/
namespace Go.Proofs.YthnckicnnhkkaaaGreat
open Go.RowKit Go.Maps Go.Shelf

set_option maxHeartbeats 16000000 in
set_option maxRecDepth 100000 in
theorem CJoin_ok (S : List Nat) (p : Nat) (l : List Spec) (D : List Dec) (W : List Mrk) (S' : List Nat) (p' : Nat) (l' : List Spec) (D' : List Dec) (W' : List Mrk) (w : World) (h : CorAt w S p l D W) (h' : CorAt w S' p' l' D' W') :
    Calls Tryz.prog 42 #[.pointer (some ⟨p, 0, none⟩), .pointer (some ⟨p', 0, none⟩)] w fun e w' => e = .returned (.int .i64 (joinE l D W l' D' W')) ∧
      ∃ S2, CorAt w' S2 p (joinC (l, D, W) (l', D', W')).1 (joinC (l, D, W) (l', D', W')).2.1 (joinC (l, D, W) (l', D', W')).2.2 ∧ Touch w w' S ∧ ∀ b ∈ S2, b ∈ S ∨ w.heap.size ≤ b := by
  have HN : Hid (joinE l D W l' D' W' ≠ 0 → ∀ w1, Below w.heap.size w w1 → ∃ S2, CorAt w1 S2 p (joinC (l, D, W) (l', D', W')).1 (joinC (l, D, W) (l', D', W')).2.1 (joinC (l, D, W) (l', D', W')).2.2 ∧ Touch w w1 S ∧ ∀ b ∈ S2, b ∈ S ∨ w.heap.size ≤ b) := Lib.hid fun hn w1 hb => ⟨S, by unfold joinC; rw [if_neg hn]; exact h.below hb, touch_below hb _, fun b hb => .inl hb⟩
  have HE : Hid (joinE l D W l' D' W' = if conS l l' = true then 10 else if 64 < (uniS l l').length then 6 else joinLE D W D' W') := Lib.hid rfl
  have Hlt' := Lib.hid h'.lt; have Hok := Lib.hid h.ok; have Hok' := Lib.hid h'.ok
  obtain ⟨q, mb, wb, vl, hR⟩ := h
  obtain ⟨q', mb', wb', vl', hR'⟩ := h'
  obtain ⟨⟨r0, r1⟩, _⟩ := cellsM hR.row
  obtain ⟨⟨p0, p1⟩, _⟩ := cellsM hR'.row
  have HC := Lib.hid (cloneS_ok vl l w hR.own.slOf (by have := hR.ok.lis.len; omega))
  have HR := Lib.hid hR; have HR' := Lib.hid hR'
  obtain ⟨A, c, rfl, _⟩ := (show Specs w vl l from hR.own.slOf).cells
  obtain ⟨A', c', rfl, hlc', hcm', hcl'⟩ := (show Specs w vl' l' from hR'.own.slOf).cells
  have HCl := Lib.hid hcl'
  have hl64 : l.length ≤ 64 := Hok.out.lis.len
  have hl64' : l'.length ≤ 64 := Hok'.out.lis.len
  clear hR hR' hcl'
  go_enter Tryz.func42, Tryz.ntmps42
  go_wp2_with fail
  refine HC.out.mono ?_
  rintro e w1 ⟨u, rfl, ho, hb1⟩
  have HO1 : Hid (OwnS 0 w1 u l) := Lib.hid (ho.base (Nat.zero_le _))
  have HF1 : Hid (∀ j, u.ownBlock = some j → w.heap.size ≤ j) := Lib.hid fun j hj => (ho.lt j hj).1
  replace p0 := cell_later hb1 p0
  clear HC ho r0
  go_wp2_with fail
  clear p0
  go_loopw [5, 27] (fun v t wr => ∃ k : Nat, k ≤ l'.length ∧ t = .int .i64 k ∧ Hid (OwnS 0 wr v ((l'.take k).foldl stepS l)) ∧ Hid (∀ j, v.ownBlock = some j → w.heap.size ≤ j) ∧ Hid (NoCon l l' k) ∧ Below w.heap.size w wr) (fun _ t _ => l'.length - (intOf t).toNat)
  case atStart => exact ⟨0, Nat.zero_le _, rfl, HO1, HF1, Lib.hid (by simp [NoCon]), hb1⟩
  case round =>
    obtain ⟨k, hk, rfl, HO, HF, HNo, hb⟩ := hrel
    obtain ⟨C, hC⟩ : ∃ z, (l'.take k).foldl stepS l = z := ⟨_, rfl⟩
    rw [hC] at HO
    have HCC := Lib.hid hC
    have hCs : SrtS C := by rw [← hC]; exact cur_srt Hok.out.lis.srt
    have hCl : C.length ≤ 128 := by
      have h1 := cur_len (l'.take k) l
      rw [hC, List.length_take] at h1
      omega
    have HCs := Lib.hid hCs
    obtain ⟨A8, c8, e8, h81, h82, _⟩ := (show Specs wr _ C from HO.out.slOf).cells
    subst e8
    clear hC hCs
    by_cases hlt : k < l'.length
    case neg =>
      have ek : k = l'.length := by omega
      have hCu : C = uniS l l' := by rw [← HCC.out, ek, List.take_length]; rfl
      have hcf : conS l l' = false := noCon_all (by rw [← ek]; exact HNo.out)
      have HCu := Lib.hid hCu
      have HE2 : Hid (joinE l D W l' D' W' = if 64 < C.length then 6 else joinLE D W D' W') := Lib.hid (by rw [HE.out, hcf, hCu]; rfl)
      clear hCu hcf ek
      by_cases c1 : (64 : Int) < (C.length : Int)
      · have H6 : Hid (joinE l D W l' D' W' = 6) := Lib.hid (by rw [HE2.out, if_pos (by omega)])
        go_wp2_with fail
        go_ret
        exact ⟨ret_i64 H6.out.symm, HN.out (by rw [H6.out]; decide) _ hb⟩
      have HE3 : Hid (joinE l D W l' D' W' = joinLE D W D' W') := Lib.hid (by rw [HE2.out, if_neg (by omega)])
      have Hc1 : Hid (¬ 64 < (uniS l l').length) := Lib.hid (by rw [← HCu.out]; omega)
      replace r1 := cell_later hb r1
      replace p1 := cell_later hb p1
      go_wp2_with fail
      have hba : Below (wr).heap.size (wr) (wr).drew := (Below.refl _ _).drew
      obtain ⟨wa, hwa⟩ : ∃ W, (wr).drew = W := ⟨_, rfl⟩
      rw [hwa] at hba
      have HSt := Lib.hid fun (w9 : World) (hb : Below wa.heap.size wa w9) => (show (fun w' : World => Below wa.heap.size wa w' ∧ w'.cell? ⟨p, 1, none⟩ = some (.pointer (some ⟨q, 0, none⟩)) ∧ w'.cell? ⟨p', 1, none⟩ = some (.pointer (some ⟨q', 0, none⟩))) w9 from ⟨hb, cell_later hb (cell_later hba r1), cell_later hb (cell_later hba p1)⟩)
      have hHeld := HSt.out wa (Below.refl _ _)
      refine wp_region_S 8 (fun w' : World => Below wa.heap.size wa w' ∧ w'.cell? ⟨p, 1, none⟩ = some (.pointer (some ⟨q, 0, none⟩)) ∧ w'.cell? ⟨p', 1, none⟩ = some (.pointer (some ⟨q', 0, none⟩))) (by kernel_rfl) (by decide) ?_
      rw [hwa]
      clear hwa
      refine wpAnyS_takeD 0 (some 55) (.pointer (some ⟨p, 0, none⟩)) (by rfl) (by rfl) (by kernel_rfl) (by exact fun _ _ _ h => h) (by rfl) (fun w' hS => by go_simp) hHeld ?_
      simp only [Act.put, List.setIfInBounds_toArray, List.set_cons_succ, List.set_cons_zero]
      refine wpAnyS_takeD 1 (some 56) (.pointer (some ⟨p, 0, none⟩)) (by rfl) (by rfl) (by kernel_rfl) (by exact fun _ _ _ h => h) (by rfl) (fun w' hS => by go_simp) hHeld ?_
      simp only [Act.put, List.setIfInBounds_toArray, List.set_cons_succ, List.set_cons_zero]
      refine wpAnyS_takeD 2 (some 57) (.pointer (some ⟨p, 1, none⟩)) (by rfl) (by rfl) (by kernel_rfl) (by exact fun _ _ _ h => h) (by rfl) (fun w' hS => by go_simp) hHeld ?_
      simp only [Act.put, List.setIfInBounds_toArray, List.set_cons_succ, List.set_cons_zero]
      refine wpAnyS_takeD 3 (some 58) (.pointer (some ⟨q, 0, none⟩)) (by rfl) (by rfl) (by kernel_rfl) (by exact fun _ _ _ h => h) (by rfl) (fun w' hS => by (obtain ⟨_, x0, x1⟩ := hS; go_simp)) hHeld ?_
      simp only [Act.put, List.setIfInBounds_toArray, List.set_cons_succ, List.set_cons_zero]
      refine wpAnyS_takeD 4 (some 59) (.pointer (some ⟨p', 0, none⟩)) (by rfl) (by rfl) (by kernel_rfl) (by exact fun _ _ _ h => h) (by rfl) (fun w' hS => by go_simp) hHeld ?_
      simp only [Act.put, List.setIfInBounds_toArray, List.set_cons_succ, List.set_cons_zero]
      refine wpAnyS_takeD 5 (some 60) (.pointer (some ⟨p', 0, none⟩)) (by rfl) (by rfl) (by kernel_rfl) (by exact fun _ _ _ h => h) (by rfl) (fun w' hS => by go_simp) hHeld ?_
      simp only [Act.put, List.setIfInBounds_toArray, List.set_cons_succ, List.set_cons_zero]
      refine wpAnyS_takeD 6 (some 61) (.pointer (some ⟨p', 1, none⟩)) (by rfl) (by rfl) (by kernel_rfl) (by exact fun _ _ _ h => h) (by rfl) (fun w' hS => by go_simp) hHeld ?_
      simp only [Act.put, List.setIfInBounds_toArray, List.set_cons_succ, List.set_cons_zero]
      refine wpAnyS_takeD 7 (some 62) (.pointer (some ⟨q', 0, none⟩)) (by rfl) (by rfl) (by kernel_rfl) (by exact fun _ _ _ h => h) (by rfl) (fun w' hS => by (obtain ⟨_, x0, x1⟩ := hS; go_simp)) hHeld ?_
      simp only [Act.put, List.setIfInBounds_toArray, List.set_cons_succ, List.set_cons_zero]
      clear hHeld
      refine (show tailOf _ _ _ _ _ _ _ _ from ⟨by kernel_rfl, ?_⟩)
      simp only [List.drop_succ_cons, List.drop_zero]
      have hbwa := below_trans hb hba
      have hLJ := LJoin_ok q mb wb D W q' mb' wb' D' W' wa (HR.out.below hbwa).led (HR'.out.below hbwa).led Hok.out.lenD Hok'.out.lenD Hok.out.lenW Hok'.out.lenW
      obtain ⟨EL, hEL⟩ : ∃ z, joinLE D W D' W' = z := ⟨_, rfl⟩
      rw [hEL] at hLJ
      have HLJ := Lib.hid hLJ; have HEL := Lib.hid hEL
      have HOa := Lib.hid (Own.below HO.out hba)
      clear hLJ hEL r1 p1
      go_wp2_with fail
      refine HLJ.out.mono ?_
      rintro e w7 ⟨rfl, mb2, wb2, hL, ht7, hmb2, hwb2⟩
      have hsz := hbwa.size
      have ht : Touch w w7 [q] := (touch_below hbwa [q]).trans ht7
      have hm2 : mb2 = mb ∨ w.heap.size ≤ mb2 := hmb2.imp id fun h => by omega
      have hw2 : wb2 = wb ∨ w.heap.size ≤ wb2 := hwb2.imp id fun h => by omega
      have hqlt : q < w.heap.size := HR.out.lt q HR.out.mem.2.1
      have hmlt : mb < w.heap.size := HR.out.lt mb HR.out.mem.2.2.1
      have hwlt : wb < w.heap.size := HR.out.lt wb HR.out.mem.2.2.2.1
      cases z1 : (EL != 0)
      case true =>
        have hne : joinE l D W l' D' W' ≠ 0 := by rw [HE3.out, HEL.out]; simpa using z1
        have hJ : joinC (l, D, W) (l', D', W') = (l, D, W) := by unfold joinC; rw [if_neg hne]
        have hld : joinLD D W D' W' = D ∧ joinLW D W D' W' = W := by
          unfold joinLD joinLW
          rw [if_neg (by rw [← HE3.out]; exact hne), if_neg (by rw [← HE3.out]; exact hne)]
          exact ⟨rfl, rfl⟩
        rw [hld.1, hld.2] at hL
        have hJd := HR.out.joined ht hL hm2 hw2 Hok.out
        have HJd := Lib.hid hJd; have HJ := Lib.hid hJ; have Hne := Lib.hid (show joinE l D W l' D' W' = EL by rw [HE3.out, HEL.out])
        clear hJd hJ hne hld hL ht7 ht hmb2 hwb2 hm2 hw2
        go_wp2_with fail
        go_ret
        exact ⟨ret_i64 Hne.out.symm, _, by rw [HJ.out]; exact ⟨q, mb2, wb2, _, HJd.out.1⟩, HJd.out.2.1, HJd.out.2.2⟩
      have hE0 : EL = 0 := by simpa using z1
      have hLE0 : joinLE D W D' W' = 0 := by rw [HEL.out]; exact hE0
      have hjz : joinE l D W l' D' W' = 0 := by rw [HE3.out]; exact hLE0
      have hJ : joinC (l, D, W) (l', D', W') = (uniS l l', uniD D D', mrksF W W') := by unfold joinC; rw [if_pos hjz]
      have hld : joinLD D W D' W' = uniD D D' ∧ joinLW D W D' W' = mrksF W W' := by
        unfold joinLD joinLW
        rw [if_pos hLE0, if_pos hLE0]
        exact ⟨rfl, rfl⟩
      rw [hld.1, hld.2] at hL
      have hv : ∀ j, (Value.slice A8 C.length c8).ownBlock = some j → w.heap.size ≤ j ∧ j ≠ mb2 ∧ j ≠ wb2 := fun j hj => by
        have h1 := HF.out j hj
        have h2 := (HOa.out.lt j hj).2
        refine ⟨h1, ?_, ?_⟩
        · rcases hmb2 with e | e <;> omega
        · rcases hwb2 with e | e <;> omega
      have hoF : OwnS 0 w7 (.slice A8 C.length c8) (uniS l l') := by
        rw [← HCu.out]
        exact Own.off HOa.out ht7 (fun j hj => by have := HF.out j hj; simp; omega)
      have hbo := HR.out.both ht hL hm2 hw2 hoF hv (uni_ok Hok.out Hok'.out HR.out.led.srtD HR'.out.led.srtD Hc1.out hLE0)
      have hrow7 : w7.heap[p]? = some (.cells [.slice A l.length c, .pointer (some ⟨q, 0, none⟩)].toArray 89 (0, 0)) := (ht.block p (HR.out.lt p HR.out.mem.1) (by simpa using HR.out.ne.1)).trans HR.out.row
      obtain ⟨⟨g0, _⟩, k0, _⟩ := cellsM hrow7
      have HBo := Lib.hid hbo; have HJ := Lib.hid hJ; have Hjz := Lib.hid hjz
      clear hbo hJ hjz hld hL ht7 ht hmb2 hwb2 hm2 hw2 hv hoF hrow7 hLE0 hE0
      go_wp2_with fail
      go_ret
      exact ⟨ret_i64 Hjz.out.symm, _, by rw [HJ.out]; exact HBo.out.1, HBo.out.2.1, HBo.out.2.2⟩
    obtain ⟨s, hs⟩ := get_of_lt hlt
    obtain ⟨b, o, rfl, _, hcc⟩ := HCl.out _ hlt
    obtain ⟨d0, d1, d2, d3, d4, d5, d6⟩ := hcc wr hb k s hs
    have hl1 : (k : Int) < (l'.length : Int) := by omega
    have Hs := Lib.hid hs; have Hsn := Lib.hid (cur_snoc (l := l) hs)
    obtain ⟨V1, V2, hV1, hV2, HzV2, hkV1, hkV2, hbV2, hltV2⟩ := fresh wr [.int .i64 0, .int .i64 0, .int .i64 0, .int .i64 0, .int .i64 0, .int .i64 0, .int .i64 0] [.int .i64 (s).id, .int .i64 (s).obv, .int .i64 (s).rev, .int .i64 (s).os, .int .i64 (s).rs, .int .i64 (s).ax, .int .i64 (s).wt] 31 rfl
    have hsV2 : ((((((V1.setCell ⟨wr.heap.size, 0, none⟩ (.int .i64 (s).id)).setCell ⟨wr.heap.size, 1, none⟩ (.int .i64 (s).obv)).setCell ⟨wr.heap.size, 2, none⟩ (.int .i64 (s).rev)).setCell ⟨wr.heap.size, 3, none⟩ (.int .i64 (s).os)).setCell ⟨wr.heap.size, 4, none⟩ (.int .i64 (s).rs)).setCell ⟨wr.heap.size, 5, none⟩ (.int .i64 (s).ax)).setCell ⟨wr.heap.size, 6, none⟩ (.int .i64 (s).wt) = V2 := hV2
    clear hV2
    obtain ⟨⟨z0, z1, z2, z3, z4, z5, z6⟩, f0, f1, f2, f3, f4, f5, f6⟩ := cellsS hkV1
    clear hkV1
    obtain ⟨⟨s0, s1, s2, s3, s4, s5, s6⟩, _⟩ := cellsS hkV2
    have HOV := Lib.hid (Own.below HO.out hbV2)
    obtain ⟨T, hT⟩ : ∃ T, decide (s.id ∈ C.map Spec.id) = T := ⟨_, rfl⟩
    obtain ⟨n, hN⟩ : ∃ n, posI C s.id = n := ⟨_, rfl⟩
    have hSr := search_ok (.slice A8 C.length c8) C s.id V2 HOV.out.slOf HCs.out (by omega)
    rw [hT, hN] at hSr
    have HSr := Lib.hid hSr; have HT := Lib.hid hT; have HNn := Lib.hid hN
    have hbV := below_trans hb hbV2
    clear hcc hs hSr hT hN hkV2
    go_wp2_with fail
    refine HSr.out.mono ?_
    rintro e w3 ⟨rfl, hb3⟩
    have hb03 := below_trans hbV hb3
    have t0 := cell_later hb3 s0; have t1 := cell_later hb3 s1; have t2 := cell_later hb3 s2; have t3 := cell_later hb3 s3; have t4 := cell_later hb3 s4; have t5 := cell_later hb3 s5; have t6 := cell_later hb3 s6
    have HO3 := Lib.hid (Own.below HOV.out hb3)
    clear z0 z1 z2 z3 z4 z5 z6 f0 f1 f2 f3 f4 f5 f6 s0 s1 s2 s3 s4 s5 s6 hsV2 d0 d1 d2 d3 d4 d5 d6 HSr
    cases T
    case false =>
      have hout : s.id ∉ C.map Spec.id := by simpa using HT.out
      obtain ⟨W4, hW4, Hz4, hb4, hlt4, _⟩ := boxed w3 #[.int .i64 s.id, .int .i64 s.obv, .int .i64 s.rev, .int .i64 s.os, .int .i64 s.rs, .int .i64 s.ax, .int .i64 s.wt] 31
      have hk4 : W4.heap[w3.heap.size]? = some (.cells (encS s).toArray 31 (0, 0)) := by rw [← hW4]; exact heap_alloc_new _ _
      have hI := insertAny_ok (.slice A8 C.length c8) C n s w3.heap.size W4 (Own.below HO3.out hb4) (by rw [← HNn.out]; exact pos_le _ _) (by omega) (fun e => by have := (HO3.out.lt _ e).2; omega) hk4
      have HI := Lib.hid hI
      have HC1 : Hid (C.take n ++ s :: C.drop n = (l'.take (k + 1)).foldl stepS l) := Lib.hid (by rw [Hsn.out, HCC.out]; unfold stepS; rw [if_neg hout]; unfold insS; rw [HNn.out])
      have HNo1 : Hid (NoCon l l' (k + 1)) := Lib.hid (noCon_snoc HNo.out Hs.out (fun t ht e => absurd (List.mem_map.2 ⟨t, by rw [← HCC.out]; exact cur_sub ht, e⟩) hout))
      clear hI hk4 hout
      go_wp2_with fail
      refine HI.out.mono ?_
      rintro e w5 ⟨u5, rfl, ho5, ht5, hu5⟩
      have hb35 : Below w.heap.size w w5 := ((touch_below (below_trans hb03 hb4) (blk (.slice A8 C.length c8))).trans ht5).below (fun j hj => HF.out j (mem_blk.1 hj)) (Nat.le_refl _)
      rw [HC1.out] at ho5
      have HO5 := Lib.hid ho5
      have HF5 : Hid (∀ j, u5.ownBlock = some j → w.heap.size ≤ j) := Lib.hid (fun j hj => by
        rcases hu5 with e | e
        · exact HF.out j (e ▸ hj)
        · rw [e] at hj; cases hj; have := (below_trans hb03 hb4).size; omega)
      clear ho5 ht5 hu5 HI hW4 t0 t1 t2 t3 t4 t5 t6
      go_wp2_with fail
      refine ⟨?rel, ?measure⟩
      case rel => exact ⟨k + 1, by omega, by go_num, HO5, HF5, HNo1, hb35⟩
      case measure => simp [intOf]; omega
    case true =>
      obtain ⟨t, ht, hid⟩ := pos_there HCs.out (i := s.id) (by simpa using HT.out)
      rw [HNn.out] at ht
      have htC : t ∈ C := List.mem_of_getElem? ht
      have htl : t ∈ l := cur_old Hok'.out.lis.srt Hs.out (by rw [HCC.out]; exact htC) hid
      obtain ⟨_, _, ex, _, _, hcc⟩ := Specs.cells HO3.out.slOf
      cases ex
      obtain ⟨b8, o8, rfl, _, hcc⟩ := hcc n (lt_of_get ht)
      obtain ⟨y0, y1, y2, y3, y4, y5, y6⟩ := hcc w3 (Below.refl _ _) n t ht
      have hn1 : (n : Int) < (C.length : Int) := by have := lt_of_get ht; omega
      have hn0 : (0 : Int) ≤ (n : Int) := by omega
      have hneq := fun W9 => neqSpec_ t s W9
      have Y0 := Later.cell_all y0; have Y1 := Later.cell_all y1; have Y2 := Later.cell_all y2; have Y3 := Later.cell_all y3; have Y4 := Later.cell_all y4; have Y5 := Later.cell_all y5; have Y6 := Later.cell_all y6
      have T0 := Later.cell_all t0; have T1 := Later.cell_all t1; have T2 := Later.cell_all t2; have T3 := Later.cell_all t3; have T4 := Later.cell_all t4; have T5 := Later.cell_all t5; have T6 := Later.cell_all t6
      have Htc : Hid (t ∈ C ∧ t ∈ l ∧ t.id = s.id) := Lib.hid ⟨htC, htl, hid⟩
      clear hcc ht htC htl hid
      cases hnb : neB t s
      case true =>
        have hc : conS l l' = true := conS_iff.2 ⟨s, List.mem_of_getElem? Hs.out, t, Htc.out.2.1, Htc.out.2.2, fun e => by subst e; unfold neB at hnb; simp at hnb⟩
        have H10 : Hid (joinE l D W l' D' W' = 10) := Lib.hid (by rw [HE.out, if_pos hc])
        rw [hnb] at hneq
        clear hc hnb
        go_wp2_with fail
        refine wp_region_later (by kernel_rfl) (by kernel_rfl) ?_
        repeat (go_big_quiet_step (first | fail))
        refine wpQuiet_nil ?_
        intro _ hw'
        obtain ⟨xq, hw''⟩ := hw'
        subst hw''
        have hbq := xq.h
        generalize xq.to = wq at hbq ⊢
        clear Y0 Y1 Y2 Y3 Y4 Y5 Y6 T0 T1 T2 T3 T4 T5 T6 y0 y1 y2 y3 y4 y5 y6 t0 t1 t2 t3 t4 t5 t6 hneq
        go_wp2_with fail
        go_ret
        exact ⟨ret_i64 H10.out.symm, HN.out (by rw [H10.out]; decide) _ (below_trans hb03 hbq)⟩
      case false =>
        have hts : t = s := by
          refine Classical.byContradiction fun hne => ?_
          have : neB t s = true := by unfold neB; simpa using hne
          rw [hnb] at this; cases this
        have HC1 : Hid (C = (l'.take (k + 1)).foldl stepS l) := Lib.hid (by rw [Hsn.out, HCC.out]; unfold stepS; rw [if_pos (List.mem_map.2 ⟨t, Htc.out.1, Htc.out.2.2⟩)])
        have HNo1 : Hid (NoCon l l' (k + 1)) := Lib.hid (noCon_snoc HNo.out Hs.out (fun x hx e => by
          rw [← hts]
          refine inj_id HCs.out (by rw [← HCC.out]; exact cur_sub hx) Htc.out.1 (by rw [e, Htc.out.2.2])))
        rw [hnb] at hneq
        clear hts hnb
        go_wp2_with fail
        refine wp_region_later (by kernel_rfl) (by kernel_rfl) ?_
        repeat (go_big_quiet_step (first | fail))
        refine wpQuiet_nil ?_
        intro _ hw'
        obtain ⟨xq, hw''⟩ := hw'
        subst hw''
        have hbq := xq.h
        generalize xq.to = wq at hbq ⊢
        clear Y0 Y1 Y2 Y3 Y4 Y5 Y6 T0 T1 T2 T3 T4 T5 T6 y0 y1 y2 y3 y4 y5 y6 t0 t1 t2 t3 t4 t5 t6 hneq
        have HOq := Lib.hid (Own.below HO3.out hbq)
        go_wp2_with fail
        refine ⟨?rel, ?measure⟩
        case rel => exact ⟨k + 1, by omega, by go_num, Lib.hid (by rw [← HC1.out]; exact HOq.out), HF, HNo1, below_trans hb03 hbq⟩
        case measure => simp [intOf]; omega
end Go.Proofs.YthnckicnnhkkaaaGreat
