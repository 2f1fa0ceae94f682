/- Texts joined and shortened by program. -/
import Derived.Test.YtooepbnecjepnaaGreatTB
import Derived.Test.YtooepbnecjepnaaGreatTA
set_option maxHeartbeats 4000000
set_option linter.all false
set_option maxRecDepth 100000
namespace Go.Pg
open Go.Proofs Go.RowKit
theorem zqb {m : Mp} {y x : Nat} (hx : x < m.w) : plc m (y * m.w + x) = ⟨(x : Int), (y : Int)⟩ := by
 unfold plc
 have e1 : (y * m.w + x) % m.w = x := by rw [Nat.add_comm, Nat.add_mul_mod_self_right, Nat.mod_eq_of_lt hx]
 have e2 : (y * m.w + x) / m.w = y := by rw [Nat.add_comm, Nat.add_mul_div_right _ _ (by omega), Nat.div_eq_of_lt hx, Nat.zero_add]
 rw [e1, e2]
end Go.Pg
