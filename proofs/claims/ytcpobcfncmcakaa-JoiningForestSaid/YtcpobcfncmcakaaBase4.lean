/- coinagebase.Graphs and Lists compare graphs and lists of lists. Condition: the arguments read as such. -/
import Derived.Test.YtcpobcfncmcakaaLib2
namespace Go.Proofs.Ytcpobcfncmcakaa
open Go.RowKit

end Go.Proofs.Ytcpobcfncmcakaa
