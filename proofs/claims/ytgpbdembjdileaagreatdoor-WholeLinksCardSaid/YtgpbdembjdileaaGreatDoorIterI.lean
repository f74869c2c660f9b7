/- slices.Values and slices.AppendSeq, Collect, Sorted at numbers. Condition: the slice reads as a list of numbers. -/
import Derived.Test.YtgpbdembjdileaaGreatDoorLinkA
import Derived.Test.YtgpbdembjdileaaGreatDoorIter
namespace Go.Proofs.YtgpbdembjdileaaGreatDoor
open Go.RowKit Go.Shelf
attribute [local go_sem] Oper.semAt_some

end Go.Proofs.YtgpbdembjdileaaGreatDoor
