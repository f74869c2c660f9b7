/- coinagebase.Graphs and Lists compare graphs and lists of lists. Condition: the arguments read as such. -/
import Derived.Test.YtcpobcfncmcakaaGreatLib2
namespace Go.Proofs.YtcpobcfncmcakaaGreat
open Go.RowKit

end Go.Proofs.YtcpobcfncmcakaaGreat
