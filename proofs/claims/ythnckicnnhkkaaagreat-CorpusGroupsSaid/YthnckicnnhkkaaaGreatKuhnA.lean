/- Alternating paths, plain: the search as a function of lists; what it leaves when it fails and when it succeeds. No program, no condition. -/
import Derived.Test.YthnckicnnhkkaaaGreatMapK
import Derived.Test.YthnckicnnhkkaaaGreatLinkE
import Derived.Test.YthnckicnnhkkaaaGreatPairA
namespace Go.Proofs.YthnckicnnhkkaaaGreat
open Go.RowKit

/-- A matching (both ways), and the reverses that were looked at. -/
structure St where
  obv : List (Int × Int)
  rev : List (Int × Int)
  seen : List Int
def unseen (R : List Int) (s : St) : Nat := (R.filter fun r => decide (r ∉ s.seen)).length
/-- What a failed search leaves. -/
structure Failed (N : Int → List Int) (R : List Int) (n : Nat) (L : List Int) (s s' : St) : Prop where
  obv : s'.obv = s.obv
  rev : s'.rev = s.rev
  sub : ∀ r ∈ s.seen, r ∈ s'.seen
  all : unseen R s < n → (∀ r ∈ L, r ∈ s'.seen) ∧ ∀ r ∈ s'.seen, r ∈ s.seen ∨ ∃ o, lookM s.rev r = some o ∧ ∀ x ∈ N o, x ∈ s'.seen
end Go.Proofs.YthnckicnnhkkaaaGreat
/- Alternating paths, plain: what a search leaves that succeeds; closed sets of reverses. No program, no condition. -/
namespace Go.Proofs.YthnckicnnhkkaaaGreat
open Go.RowKit

section
variable {N : Int → List Int}
end
end Go.Proofs.YthnckicnnhkkaaaGreat
/- Matchings and covers, plain: no cover has fewer dies than a matching has pairs; a closed set of reverses gives a cover of the matching's size; the searches of the program and of the reference. No program in sight, no condition. -/
namespace Go.Proofs.YthnckicnnhkkaaaGreat
open Go.RowKit

/-! ### Matchings and covers -/
/-! ### The partners of an obverse -/
/-! ### A closed set gives a cover of the matching's size -/
end Go.Proofs.YthnckicnnhkkaaaGreat
/- The searches one after the other, plain: the program's and the reference's both end in a matching with the most pairs. No program in sight, no condition. -/
namespace Go.Proofs.YthnckicnnhkkaaaGreat
open Go.RowKit

/-! ### The program: one more pair, as often as there is one -/
end Go.Proofs.YthnckicnnhkkaaaGreat
/- The matching as a list, the reference's single pass, plain. No program in sight, no condition. -/
namespace Go.Proofs.YthnckicnnhkkaaaGreat
open Go.RowKit

/-! ### The reference: each obverse once -/
end Go.Proofs.YthnckicnnhkkaaaGreat
