/-
  What the row of JoinGroups says of the program's calls (which functions they reach) is so.
-/
import Derived.Test.YtcmghlfakcppkaaGreatRows
import Derived.JoinedOf
import Derived.KernelRfl
set_option linter.all false
set_option maxRecDepth 100000
namespace Go.Proofs.YtcmghlfakcppkaaGreat.joinGroupsF

theorem inPlace : (Rows.joinGroupsRow.inPlace == Program.inPlace Tryz.pinned.checked.prog 5) = true := by kernel_rfl
theorem unfollowed : (Rows.joinGroupsRow.unfollowed == Program.unfollowed Tryz.pinned.checked.prog 5) = true := by kernel_rfl
theorem recurses : (Rows.joinGroupsRow.recurses == Program.recurses Tryz.pinned.checked.prog 5) = true := by kernel_rfl
theorem named : (Rows.joinGroupsRow.named == Program.varsNamed Tryz.pinned.checked.prog 5) = true := by kernel_rfl
theorem laid : laidOutB Tryz.pinned.checked.prog = true := by kernel_rfl
theorem closed : joinedFacts Tryz.pinned.checked.prog 5 Tryz.f5 Rows.joinGroupsSpec Rows.joinGroupsRow = true := by
  unfold joinedFacts
  rw [inPlace, unfollowed, recurses, named, laid]
  kernel_rfl
end Go.Proofs.YtcmghlfakcppkaaGreat.joinGroupsF
