/- coinagebase.Graphs and Lists compare graphs and lists of lists. Condition: the arguments read as such. -/
import Derived.Test.YtlmjncncmgmehaaGreatLib2
namespace Go.Proofs.YtlmjncncmgmehaaGreat
open Go.RowKit

end Go.Proofs.YtlmjncncmgmehaaGreat
