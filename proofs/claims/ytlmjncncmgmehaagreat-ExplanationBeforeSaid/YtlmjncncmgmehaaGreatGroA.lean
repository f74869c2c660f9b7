/- The growth of package joining: begin, dies, know, enter, joined. Condition: the growth in its memory. -/
import Derived.Test.YtlmjncncmgmehaaGreatMapK
import Derived.Test.YtlmjncncmgmehaaGreatJoinP
import Derived.Test.YtlmjncncmgmehaaGreatTail
import Derived.Test.YtlmjncncmgmehaaGreatCovT
import Derived.Test.YtlmjncncmgmehaaGreatRefA
import Derived.Test.YtlmjncncmgmehaaGreatIter
namespace Go.Proofs.YtlmjncncmgmehaaGreat
open Go.RowKit Go.Maps

abbrev vlD (x : Die) : Value := .agg #[.int .i64 x.side, .int .i64 x.num]
section
variable {w w' : World} {p b : Nat} {g : Gr}
end
end Go.Proofs.YtlmjncncmgmehaaGreat
