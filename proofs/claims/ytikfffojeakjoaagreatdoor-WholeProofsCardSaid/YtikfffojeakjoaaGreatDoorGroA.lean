/- The growth of package joining: begin, dies, know, enter, joined. Condition: the growth in its memory. -/
import Derived.Test.YtikfffojeakjoaaGreatDoorMapK
import Derived.Test.YtikfffojeakjoaaGreatDoorJoinP
import Derived.Test.YtikfffojeakjoaaGreatDoorTail
import Derived.Test.YtikfffojeakjoaaGreatDoorCovT
import Derived.Test.YtikfffojeakjoaaGreatDoorRefA
import Derived.Test.YtikfffojeakjoaaGreatDoorIter
namespace Go.Proofs.YtikfffojeakjoaaGreatDoor
open Go.RowKit Go.Maps

abbrev vlD (x : Die) : Value := .agg #[.int .i64 x.side, .int .i64 x.num]
section
variable {w w' : World} {p b : Nat} {g : Gr}
end
end Go.Proofs.YtikfffojeakjoaaGreatDoor
