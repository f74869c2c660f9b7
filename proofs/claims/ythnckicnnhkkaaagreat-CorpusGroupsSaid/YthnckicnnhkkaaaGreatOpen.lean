/- The arguments of a law, read as lists and graphs. No condition. -/
import Derived.Test.YthnckicnnhkkaaaGreatLib
import Derived.Deep.Slices
import Derived.Deep.Fields
import Derived.ChangeSame
import Derived.Lib.SmallJoins
import Derived.ProofKit
import Derived.Carry
import Derived.Test.YthnckicnnhkkaaaGreatMapK
namespace Go.Proofs.YthnckicnnhkkaaaGreat
open Go.RowKit Go.ChangeShapes Go.WideShapes Go.Deep

theorem Try.own : ownKnob Tryz.prog.godebug = none := by kernel_rfl
theorem Try.laidOut : laidOutB Tryz.prog = true := by kernel_rfl

section
variable {H : Type} {enc : TypeId × Value → H} {P : Program} {w : World} {base : Nat} {spare : Nat → Bool} {held : Bool}
theorem slOf_cells {α : Type} {enc : α → List Value} {k : Nat} (hk : ∀ x, (enc x).length = k) (k0 : 0 < k) {a : Addr} {len cap : Nat} (f : Nat → α) (hcap : len ≤ cap) (hm : cap ≤ maxLen)
    (hcell : ∀ i, i < len → ∀ j, j < k → w.cell? (a.add (i * k + j)) = (enc (f i))[j]?) : SlOf enc k w (.slice (some a) len cap) ((List.range len).map f) := by
  have hl : ((List.range len).map f).length = len := by simp
  refine ⟨some a, cap, by rw [hl], by rw [hl]; exact hcap, hm, by rw [hl, flat_len enc k hk, hl], fun hn => ?_⟩
  rw [hl] at hn
  have h0 := hcell 0 hn 0 k0
  have e0 : (enc (f 0))[0]? = some ((enc (f 0))[0]'(by rw [hk]; exact k0)) := List.getElem?_eq_getElem _
  rw [e0] at h0
  have hs := World.cell?_spot h0
  obtain ⟨b, off, spot⟩ := a
  have hsp : spot = none := by simpa [Addr.add] using hs
  subst hsp
  refine ⟨b, off, rfl, by simpa [Addr.add_lit] using World.block_lt_of_cell? w _ h0, fun t u hu => ?_⟩
  have ht : t < len * k := by
    have := (List.getElem?_eq_some_iff.1 hu).1
    rwa [flat_len enc k hk, hl] at this
  have hq : t / k < len := by rwa [Nat.div_lt_iff_lt_mul k0]
  have hr : t % k < k := Nat.mod_lt _ k0
  have h1 := flat_get enc k hk ((List.range len).map f) (t / k) (t % k) hr
  rw [Nat.div_add_mod'] at h1
  rw [hu, List.getElem?_map, List.getElem?_range hq] at h1
  have h2 := hcell (t / k) hq (t % k) hr
  rw [Nat.div_add_mod'] at h2
  rw [Addr.add_lit] at h2
  rw [h2]
  simpa using h1.symm

end

section
variable {H : Type} {enc : TypeId × Value → H} {w : World} {base : Nat} {spare : Nat → Bool} {held : Bool} {fuel : Nat} {v : Value} {x : DataW H × List MemPlace}
end
section
variable {H : Type} {enc : TypeId × Value → H} {w : World} {base : Nat} {spare : Nat → Bool} {held : Bool} {r : Reach} {b0 : Nat} {v : Value} {d : DataW H} {p : List MemPlace}
end
end Go.Proofs.YthnckicnnhkkaaaGreat
/- The arguments of a law, read with the bounds of their numbers. No condition. -/
namespace Go.Proofs.YthnckicnnhkkaaaGreat
open Go.RowKit Go.ChangeShapes Go.WideShapes Go.Deep

section
variable {H : Type} {enc : TypeId × Value → H} {P : Program} {w : World} {base : Nat} {spare : Nat → Bool} {held : Bool}
end
section
variable {H : Type} {enc : TypeId × Value → H} {w : World} {base : Nat} {spare : Nat → Bool} {held : Bool} {fuel : Nat} {v : Value} {x : DataW H × List MemPlace}
end
section
variable {H : Type} {enc : TypeId × Value → H} {w : World} {base : Nat} {spare : Nat → Bool} {held : Bool} {r : Reach} {b0 : Nat} {v : Value} {d : DataW H} {p : List MemPlace}
end
end Go.Proofs.YthnckicnnhkkaaaGreat
/- Slices of structs of numbers as a law's arguments, with the bounds of their numbers. No condition. -/
namespace Go.Proofs.YthnckicnnhkkaaaGreat
open Go.RowKit Go.ChangeShapes Go.WideShapes Go.Deep

section
variable {H : Type} {enc : TypeId × Value → H} {P : Program} {w : World} {base : Nat} {spare : Nat → Bool} {held : Bool}
end
section
variable {H : Type} {enc : TypeId × Value → H} {w : World} {base : Nat} {spare : Nat → Bool} {held : Bool} {fuel : Nat} {v : Value} {x : DataW H × List MemPlace}
end
section
variable {H : Type} {enc : TypeId × Value → H} {w : World} {base : Nat} {spare : Nat → Bool} {held : Bool} {r : Reach} {b0 : Nat} {v : Value} {d : DataW H} {p : List MemPlace}
end
end Go.Proofs.YthnckicnnhkkaaaGreat
