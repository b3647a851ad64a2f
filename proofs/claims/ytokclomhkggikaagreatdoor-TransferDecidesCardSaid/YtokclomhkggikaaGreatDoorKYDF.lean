/-
 Facts of the program that the card of TransferDecides asks for.
-/
import Derived.Test.YtokclomhkggikaaGreatDoorCards
import Derived.Test.YtokclomhkggikaaGreatDoorTie
import Derived.KernelRfl
set_option maxRecDepth 100000
namespace Go.Proofs.YtokclomhkggikaaGreatDoor
open Go
theorem decides_f0 : laidOutB Tryz.prog = true := by kernel_rfl
theorem decides_f1 : mapsRowed Tryz.prog = true := by kernel_rfl
theorem decides_f2 : (Rows.transferDecidesRow.inPlace == Tryz.prog.inPlace 3) = true := by kernel_rfl
theorem decides_f3 : (Rows.transferDecidesRow.unfollowed == Tryz.prog.unfollowed 3) = true := by kernel_rfl
theorem decides_f4 : (Rows.transferDecidesRow.recurses == Tryz.prog.recurses 3) = true := by kernel_rfl
theorem decides_f5 : (Rows.transferDecidesRow.named == Tryz.prog.varsNamed 3) = true := by kernel_rfl
theorem decides_f6 : (Rows.transferDecidesRow.loops == (Tryz.f3.params.toList ++ Rows.transferDecidesSpec.plain.varTypes Tryz.prog).any (Tryz.prog.loopsFrom ·)) = true := by kernel_rfl
theorem decides_closed : joinedFacts Tryz.prog 3 Tryz.f3 Rows.transferDecidesSpec Rows.transferDecidesRow = true := by
 unfold joinedFacts
 rw [decides_f0, decides_f1, decides_f2, decides_f3, decides_f4, decides_f5, decides_f6]
 kernel_rfl
theorem decides_c0 : Rows.transferDecidesRow.wfByText (OpenSpec.ofChange Rows.transferDecidesSpec) = true := by kernel_rfl
theorem decides_c1 : Tryz.pinned.checked.prog.mainIs = some (true, "648bb6d93ba1e342625e493b3d233f21e580267c94249624b49660616ad33637".toList) := by kernel_rfl
theorem decides_c2 : false = Rows.transferDecidesRow.goesBy Tryz.pinned.checked.prog := by kernel_rfl
theorem decides_c3 : false = Tryz.pinned.checked.prog.looks [] := by kernel_rfl
theorem decides_c4 : Tryz.pinned.checked.prog.funcNamed Rows.transferDecidesRow.func = some 3 := by kernel_rfl
theorem decides_c5 : ([22, 29, 29, 33].all fun u => !Tryz.pinned.checked.prog.wantsStandIn u) = true := by kernel_rfl
end Go.Proofs.YtokclomhkggikaaGreatDoor
