/-
  What the row of JoinRests says of the program's calls (which functions they reach) is so.
-/
import Derived.Test.YtcgbaefojdoicaaGreatRows
import Derived.JoinedOf
import Derived.KernelRfl
set_option linter.all false
set_option maxRecDepth 100000
namespace Go.Proofs.YtcgbaefojdoicaaGreat.joinRestsF

theorem inPlace : (Rows.joinRestsRow.inPlace == Program.inPlace Tryz.pinned.checked.prog 3) = true := by kernel_rfl
theorem unfollowed : (Rows.joinRestsRow.unfollowed == Program.unfollowed Tryz.pinned.checked.prog 3) = true := by kernel_rfl
theorem recurses : (Rows.joinRestsRow.recurses == Program.recurses Tryz.pinned.checked.prog 3) = true := by kernel_rfl
theorem named : (Rows.joinRestsRow.named == Program.varsNamed Tryz.pinned.checked.prog 3) = true := by kernel_rfl
theorem laid : laidOutB Tryz.pinned.checked.prog = true := by kernel_rfl
theorem closed : joinedFacts Tryz.pinned.checked.prog 3 Tryz.f3 Rows.joinRestsSpec Rows.joinRestsRow = true := by
  unfold joinedFacts
  rw [inPlace, unfollowed, recurses, named, laid]
  kernel_rfl
end Go.Proofs.YtcgbaefojdoicaaGreat.joinRestsF
