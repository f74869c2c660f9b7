/- coinagebase.Graphs and Lists compare graphs and lists of lists. Condition: the arguments read as such. -/
import Derived.Test.YtgpbdembjdileaaGreatDoorLib2
namespace Go.Proofs.YtgpbdembjdileaaGreatDoor
open Go.RowKit

end Go.Proofs.YtgpbdembjdileaaGreatDoor
