/- The walk through num.Parse. -/
import Derived.Test.YtlojlgcnhacleaaDoorNpp
namespace Go.Proofs.YtlojlgcnhacleaaDoor
open Go.RowKit

end Go.Proofs.YtlojlgcnhacleaaDoor
