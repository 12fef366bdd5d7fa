/- The reference's Print and Parse of integers: that they return. -/
import Derived.Lib.Hide
import Derived.StillTailTactics
import Derived.Test.YtlojlgcnhacleaaDoorProg
import Derived.Test.YtlojlgcnhacleaaDoorGb
import Derived.Lib.Bytes
import Derived.BigQuiet
import Derived.Deep.QuietTactic
import Derived.Deep.DeepMust
import Derived.WalkSpells
namespace Go.Proofs.YtlojlgcnhacleaaDoor
open Go.RowKit

end Go.Proofs.YtlojlgcnhacleaaDoor
