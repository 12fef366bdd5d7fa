/- The walk through num.Print. -/
import Derived.Test.YtlojlgcnhacleaaDoorGb
import Derived.Test.YtlojlgcnhacleaaDoorRd4
import Derived.Test.YtlojlgcnhacleaaDoorShelf
import Derived.Lib.Hide
import Derived.Lib.AppendIntMem
import Derived.WalkSmall
namespace Go.Proofs.YtlojlgcnhacleaaDoor
open Go.RowKit

end Go.Proofs.YtlojlgcnhacleaaDoor
