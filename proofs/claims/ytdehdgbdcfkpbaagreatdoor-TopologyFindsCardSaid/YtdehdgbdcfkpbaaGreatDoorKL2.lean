/-
  The two texts of the sanity check, reckoned by the kernel.
-/
import Derived.Test.YtdehdgbdcfkpbaaGreatDoorKC2
import Derived.Test.YtdehdgbdcfkpbaaGreatDoorKD2
import Derived.KernelRfl
namespace Go.Proofs.YtdehdgbdcfkpbaaGreatDoor
open Go Go.Pw
def sane1 : Str := [100, 101, 118, 105, 99, 101, 32, 114, 32, 99, 97, 112, 97, 99, 105, 116, 121, 32, 49, 48, 48, 10, 100, 101, 118, 105, 99, 101, 32, 115, 32, 99, 97, 112, 97, 99, 105, 116, 121, 32, 53, 48, 32, 114, 97, 110, 103, 101, 115, 32, 99, 108, 97, 115, 115, 32, 105, 112, 115, 10, 108, 105, 110, 107, 32, 115, 32, 114, 32, 99, 111, 115, 116, 32, 51, 10, 101, 100, 103, 101, 32, 97, 32, 97, 116, 32, 115, 32, 122, 111, 110, 101, 32, 122, 32, 115, 117, 98, 110, 101, 116, 32, 49, 48, 46, 48, 46, 48, 46, 48, 47, 56]
def sane2 : Str := [100, 101, 118, 105, 99, 101, 32, 114, 32, 99, 97, 112, 97, 99, 105, 116, 121, 32, 49, 10, 116, 111, 108, 101, 114, 97, 116, 101, 32, 51]
def saneT : Topo := ⟨[⟨[114], 100, false, false, []⟩, ⟨[115], 50, true, false, [105, 112, 115]⟩], [⟨0, 1, 3⟩], [⟨[97], 1, [122], ⟨167772160, 8⟩, false⟩], [], 0⟩
theorem sane1_is : tParse sane1 = (saneT, 0, 0) := by kernel_rfl
theorem sane2_is : tParse sane2 = (topo0, 2, 2) := by kernel_rfl
theorem saneT_complete : tComplete saneT = true := by kernel_rfl
theorem saneT_at : tAt saneT 167772165 = 0 := by kernel_rfl
end Go.Proofs.YtdehdgbdcfkpbaaGreatDoor
