/- component.ends, across. No condition. -/
import Derived.Test.YtcpobcfncmcakaaGreatCompP
import Derived.Test.YtcpobcfncmcakaaGreatGroA
import Derived.Test.YtcpobcfncmcakaaGreatQueD
import Derived.Test.YtcpobcfncmcakaaGreatDelL
import Derived.Test.YtcpobcfncmcakaaGreatFresh
namespace Go.Proofs.YtcpobcfncmcakaaGreat
open Go.RowKit Go.Maps

theorem dieNe {d p : Die} (h : d ≠ p) : ((d.side = p.side) = False) ∨ (((d.side = p.side) = True) ∧ ((d.num = p.num) = False)) := by
  by_cases h1 : d.side = p.side
  · exact .inr ⟨eq_true h1, eq_false fun h2 => h (by cases d; cases p; simp_all)⟩
  · exact .inl (eq_false h1)
end Go.Proofs.YtcpobcfncmcakaaGreat
