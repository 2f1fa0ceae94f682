/-
  What the row of TopDriftingCirclesAreTrue says of the program's calls (which functions they reach) is so.
-/
import Derived.Test.YtpkmlacgjfhdkaaGreatRows
import Derived.JoinedOf
import Derived.KernelRfl
set_option linter.all false
set_option maxRecDepth 100000
namespace Go.Proofs.YtpkmlacgjfhdkaaGreat.topDriftingCirclesAreTrueF

theorem inPlace : (Rows.topDriftingCirclesAreTrueRow.inPlace == Program.inPlace Tryz.pinned.checked.prog 3) = true := by kernel_rfl
theorem unfollowed : (Rows.topDriftingCirclesAreTrueRow.unfollowed == Program.unfollowed Tryz.pinned.checked.prog 3) = true := by kernel_rfl
theorem recurses : (Rows.topDriftingCirclesAreTrueRow.recurses == Program.recurses Tryz.pinned.checked.prog 3) = true := by kernel_rfl
theorem named : (Rows.topDriftingCirclesAreTrueRow.named == Program.varsNamed Tryz.pinned.checked.prog 3) = true := by kernel_rfl
theorem laid : laidOutB Tryz.pinned.checked.prog = true := by kernel_rfl
theorem closed : joinedFacts Tryz.pinned.checked.prog 3 Tryz.f3 Rows.topDriftingCirclesAreTrueSpec Rows.topDriftingCirclesAreTrueRow = true := by
  unfold joinedFacts
  rw [inPlace, unfollowed, recurses, named, laid]
  kernel_rfl
end Go.Proofs.YtpkmlacgjfhdkaaGreat.topDriftingCirclesAreTrueF
