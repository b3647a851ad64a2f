/-
 sane() answers true, reckoned by the kernel.
-/
import Derived.Test.YtokclomhkggikaaGreatDoorVKE1
import Derived.Test.YtokclomhkggikaaGreatDoorVKE2
import Derived.Test.YtokclomhkggikaaGreatDoorVKE3
import Derived.Test.YtokclomhkggikaaGreatDoorVKE4
import Derived.Test.YtokclomhkggikaaGreatDoorVKE5
import Derived.Test.YtokclomhkggikaaGreatDoorVKE6
namespace Go.Ev
open Go
noncomputable section
def tab28 : List Ent := [en0, en1, en2, en3, en4, en5, en6, en7, en8, en9, en10, en11, en12, en13, en14, en15, en16, en17, en18, en19, en20, en21]
theorem tab28_ok : TabOk Go.Proofs.Tryz.prog gl28 tab28 := .cons en0_ok <| .cons en1_ok <| .cons en2_ok <| .cons en3_ok <| .cons en4_ok <| .cons en5_ok <| .cons en6_ok <| .cons en7_ok <| .cons en8_ok <| .cons en9_ok <| .cons en10_ok <| .cons en11_ok <| .cons en12_ok <| .cons en13_ok <| .cons en14_ok <| .cons en15_ok <| .cons en16_ok <| .cons en17_ok <| .cons en18_ok <| .cons en19_ok <| .cons en20_ok <| .cons en21_ok <| .nil
theorem sane28 : FunOk Go.Proofs.Tryz.prog gl28 12 [] [] [⟨[.bool true], [], []⟩] := sane_ok tab28 tab28_ok (by kernel_rfl)
end
end Go.Ev
