/-
  What the row of JoinGroupsHold says of the program's calls (which functions they reach) is so.
-/
import Derived.Test.YtcmghlfakcppkaaGreatRows
import Derived.JoinedOf
import Derived.KernelRfl
set_option linter.all false
set_option maxRecDepth 100000
namespace Go.Proofs.YtcmghlfakcppkaaGreat.joinGroupsHoldF

theorem inPlace : (Rows.joinGroupsHoldRow.inPlace == Program.inPlace Tryz.pinned.checked.prog 3) = true := by kernel_rfl
theorem unfollowed : (Rows.joinGroupsHoldRow.unfollowed == Program.unfollowed Tryz.pinned.checked.prog 3) = true := by kernel_rfl
theorem recurses : (Rows.joinGroupsHoldRow.recurses == Program.recurses Tryz.pinned.checked.prog 3) = true := by kernel_rfl
theorem named : (Rows.joinGroupsHoldRow.named == Program.varsNamed Tryz.pinned.checked.prog 3) = true := by kernel_rfl
theorem laid : laidOutB Tryz.pinned.checked.prog = true := by kernel_rfl
theorem closed : joinedFacts Tryz.pinned.checked.prog 3 Tryz.f3 Rows.joinGroupsHoldSpec Rows.joinGroupsHoldRow = true := by
  unfold joinedFacts
  rw [inPlace, unfollowed, recurses, named, laid]
  kernel_rfl
end Go.Proofs.YtcmghlfakcppkaaGreat.joinGroupsHoldF
