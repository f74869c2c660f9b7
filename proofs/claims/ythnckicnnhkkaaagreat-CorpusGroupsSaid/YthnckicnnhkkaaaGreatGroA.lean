/- The growth of package joining: begin, dies, know, enter, joined. Condition: the growth in its memory. -/
import Derived.Test.YthnckicnnhkkaaaGreatMapK
import Derived.Test.YthnckicnnhkkaaaGreatJoinP
import Derived.Test.YthnckicnnhkkaaaGreatTail
import Derived.Test.YthnckicnnhkkaaaGreatCovT
import Derived.Test.YthnckicnnhkkaaaGreatRefA
import Derived.Test.YthnckicnnhkkaaaGreatIter
namespace Go.Proofs.YthnckicnnhkkaaaGreat
open Go.RowKit Go.Maps

abbrev vlD (x : Die) : Value := .agg #[.int .i64 x.side, .int .i64 x.num]
section
variable {w w' : World} {p b : Nat} {g : Gr}
end
end Go.Proofs.YthnckicnnhkkaaaGreat
/- The growth of package joining: know, joined. Condition: the growth in its memory. -/
namespace Go.Proofs.YthnckicnnhkkaaaGreat
open Go.RowKit Go.Maps

theorem wfN {n : Nat} (h : n ≤ 1000000) : wfI (n : Int) := by
  show (Lit.int .i64 (n : Int)).wf = true
  have e1 : IntKind.i64.min = -9223372036854775808 := by decide
  have e2 : IntKind.i64.max = 9223372036854775807 := by decide
  simp only [Lit.wf, Bool.and_eq_true, decide_eq_true_eq, e1, e2]
  omega
end Go.Proofs.YthnckicnnhkkaaaGreat
/- The growth of package joining: enter. Condition: the growth in its memory. -/
namespace Go.Proofs.YthnckicnnhkkaaaGreat
open Go.RowKit Go.Maps

end Go.Proofs.YthnckicnnhkkaaaGreat
