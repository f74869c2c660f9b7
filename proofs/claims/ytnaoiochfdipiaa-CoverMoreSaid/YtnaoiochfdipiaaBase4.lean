/- coinagebase.Graphs and Lists compare graphs and lists of lists. Condition: the arguments read as such. -/
import Derived.Test.YtnaoiochfdipiaaLib2
namespace Go.Proofs.Ytnaoiochfdipiaa
open Go.RowKit

end Go.Proofs.Ytnaoiochfdipiaa
