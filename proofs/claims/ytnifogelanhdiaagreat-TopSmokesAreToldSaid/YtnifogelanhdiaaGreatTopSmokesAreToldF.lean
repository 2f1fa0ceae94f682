/-
  What the row of TopSmokesAreTold says of the program's calls (which functions they reach) is so.
-/
import Derived.Test.YtnifogelanhdiaaGreatRows
import Derived.JoinedOf
import Derived.KernelRfl
set_option linter.all false
set_option maxRecDepth 100000
namespace Go.Proofs.YtnifogelanhdiaaGreat.topSmokesAreToldF

theorem inPlace : (Rows.topSmokesAreToldRow.inPlace == Program.inPlace Tryz.pinned.checked.prog 3) = true := by kernel_rfl
theorem unfollowed : (Rows.topSmokesAreToldRow.unfollowed == Program.unfollowed Tryz.pinned.checked.prog 3) = true := by kernel_rfl
theorem recurses : (Rows.topSmokesAreToldRow.recurses == Program.recurses Tryz.pinned.checked.prog 3) = true := by kernel_rfl
theorem named : (Rows.topSmokesAreToldRow.named == Program.varsNamed Tryz.pinned.checked.prog 3) = true := by kernel_rfl
theorem laid : laidOutB Tryz.pinned.checked.prog = true := by kernel_rfl
theorem closed : joinedFacts Tryz.pinned.checked.prog 3 Tryz.f3 Rows.topSmokesAreToldSpec Rows.topSmokesAreToldRow = true := by
  unfold joinedFacts
  rw [inPlace, unfollowed, recurses, named, laid]
  kernel_rfl
end Go.Proofs.YtnifogelanhdiaaGreat.topSmokesAreToldF
