/-
  What the row of JoinTruth says of the program's calls (which functions they reach) is so.
-/
import Derived.Test.YtcmghlfakcppkaaGreatRows
import Derived.JoinedOf
import Derived.KernelRfl
set_option linter.all false
set_option maxRecDepth 100000
namespace Go.Proofs.YtcmghlfakcppkaaGreat.joinTruthF

theorem inPlace : (Rows.joinTruthRow.inPlace == Program.inPlace Tryz.pinned.checked.prog 4) = true := by kernel_rfl
theorem unfollowed : (Rows.joinTruthRow.unfollowed == Program.unfollowed Tryz.pinned.checked.prog 4) = true := by kernel_rfl
theorem recurses : (Rows.joinTruthRow.recurses == Program.recurses Tryz.pinned.checked.prog 4) = true := by kernel_rfl
theorem named : (Rows.joinTruthRow.named == Program.varsNamed Tryz.pinned.checked.prog 4) = true := by kernel_rfl
theorem laid : laidOutB Tryz.pinned.checked.prog = true := by kernel_rfl
theorem closed : joinedFacts Tryz.pinned.checked.prog 4 Tryz.f4 Rows.joinTruthSpec Rows.joinTruthRow = true := by
  unfold joinedFacts
  rw [inPlace, unfollowed, recurses, named, laid]
  kernel_rfl
end Go.Proofs.YtcmghlfakcppkaaGreat.joinTruthF
