/- coinagebase.Graphs and Lists compare graphs and lists of lists. Condition: the arguments read as such. -/
import Derived.Test.YtikfffojeakjoaaGreatDoorLib2
namespace Go.Proofs.YtikfffojeakjoaaGreatDoor
open Go.RowKit

end Go.Proofs.YtikfffojeakjoaaGreatDoor
