/- Texts joined and shortened by program. -/
import Derived.Test.YtcgifildhmkdfaaGreatLB
set_option linter.all false
set_option maxRecDepth 100000
namespace Go.Pg
open Go.Proofs Go.RowKit
end Go.Pg
