/- Texts joined and shortened by program. -/
import Derived.Test.YtooepbnecjepnaaGreatBB
import Derived.Test.YtooepbnecjepnaaGreatBA
set_option maxHeartbeats 4000000
set_option linter.all false
set_option maxRecDepth 100000
namespace Go.Pg
open Go.Proofs Go.RowKit
end Go.Pg
