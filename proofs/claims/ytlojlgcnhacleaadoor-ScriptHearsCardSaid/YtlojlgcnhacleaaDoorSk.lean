/- May limits be: both Checks; the places of limits. -/
import Derived.Test.YtlojlgcnhacleaaDoorSl
namespace Go.Proofs.YtlojlgcnhacleaaDoor
open Go.RowKit

end Go.Proofs.YtlojlgcnhacleaaDoor
