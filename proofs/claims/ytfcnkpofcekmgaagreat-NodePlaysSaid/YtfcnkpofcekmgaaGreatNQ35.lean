/- Texts joined. -/
import Derived.Test.YtfcnkpofcekmgaaGreatNQ34
set_option maxRecDepth 100000
set_option maxHeartbeats 64000000
namespace Go.Proofs.YtfcnkpofcekmgaaGreat
open Go.RowKit
end Go.Proofs.YtfcnkpofcekmgaaGreat
