/-
  The library functions of the seat that are taken by the shelf: layings, written by program (lay.py).
-/
import Derived.KernelRfl
import Derived.Shelf.Bits.Mul64
import Derived.Shelf.SlicesG.Delete
import Derived.Shelf.SlicesQ.Reverse
import Derived.Test.YtlmljmgappiehaaChecked
set_option linter.all false
namespace Go.Proofs
open Go.Shelf Go.RowKit Go.Lib Go.Sort
def Try.revC_ren : Go.Shelf.Ren := ⟨fun | 35 => 96 | n => n, fun | 22 => 44 | 23 => 24 | 3 => 3 | 4 => 4 | 0 => 0 | n => n, fun | n => n⟩
theorem Try.revC : Go.Proofs.SlLaysE0.n35 Try.prog Try.revC_ren := {
  mixed := by kernel_rfl,
  f35 := ⟨Try.f96.name, by decide, Try.func96.trans (congrArg some (by kernel_rfl))⟩,
  t0 := Try.underlying0,
  a0 := Try.isAgg0,
  z0 := Try.sizeOf0,
  v0 := Try.zeroValue0,
  t3 := Try.underlying3,
  a3 := Try.isAgg3,
  z3 := Try.sizeOf3,
  v3 := Try.zeroValue3,
  t4 := Try.underlying4,
  a4 := Try.isAgg4,
  z4 := Try.sizeOf4,
  v4 := Try.zeroValue4,
  t22 := Try.underlying44,
  a22 := Try.isAgg44,
  z22 := Try.sizeOf44,
  v22 := Try.zeroValue44 }
def Try.delI_ren : Go.Shelf.Ren := ⟨fun | 45 => 106 | n => n, fun | 22 => 76 | 23 => 3 | 3 => 3 | 4 => 4 | 0 => 0 | n => n, fun | n => n⟩
theorem Try.delI : Go.Proofs.SlLaysN.n45 Try.prog Try.delI_ren := {
  mixed := by kernel_rfl,
  f45 := ⟨Try.f106.name, by decide, Try.func106.trans (congrArg some (by kernel_rfl))⟩,
  t0 := Try.underlying0,
  a0 := Try.isAgg0,
  z0 := Try.sizeOf0,
  v0 := Try.zeroValue0,
  t3 := Try.underlying3,
  a3 := Try.isAgg3,
  z3 := Try.sizeOf3,
  v3 := Try.zeroValue3,
  t4 := Try.underlying4,
  a4 := Try.isAgg4,
  z4 := Try.sizeOf4,
  v4 := Try.zeroValue4,
  t22 := Try.underlying76,
  a22 := Try.isAgg76,
  z22 := Try.sizeOf76,
  v22 := Try.zeroValue76,
  t23 := Try.underlying3,
  a23 := Try.isAgg3,
  z23 := Try.sizeOf3,
  v23 := Try.zeroValue3,
  i23 := by kernel_rfl }
def Try.mul64_ren : Go.Shelf.Ren := ⟨fun | 264 => 108 | n => n, fun | 53 => 126 | 46 => 134 | n => n, fun | n => n⟩
theorem Try.mul64 : Go.Proofs.Lays.n264 Try.prog Try.mul64_ren := {
  mixed := by kernel_rfl,
  f264 := Try.func108.trans (congrArg some (by kernel_rfl)),
  t46 := Try.underlying134,
  a46 := Try.isAgg134,
  z46 := Try.sizeOf134,
  v46 := Try.zeroValue134,
  t53 := Try.underlying126,
  a53 := Try.isAgg126,
  z53 := Try.sizeOf126,
  v53 := Try.zeroValue126 }
end Go.Proofs
