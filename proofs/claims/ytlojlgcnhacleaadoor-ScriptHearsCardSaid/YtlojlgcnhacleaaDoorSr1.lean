/- Scripts, plain: what is printed is read back; lines in another order say the same. -/
import Derived.Test.YtlojlgcnhacleaaDoorSr0
namespace Go.Proofs.YtlojlgcnhacleaaDoor
open Go.RowKit

end Go.Proofs.YtlojlgcnhacleaaDoor
