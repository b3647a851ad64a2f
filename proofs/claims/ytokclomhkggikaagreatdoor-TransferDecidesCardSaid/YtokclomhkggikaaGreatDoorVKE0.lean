/-
 The reckoner at this seat.
-/
import Derived.KernelRfl
import Derived.Test.YtokclomhkggikaaGreatDoorVEvKeys
namespace Go.Ev
open Go
noncomputable section
def gl28 : List (Nat × List V) := [(0, [.int .u32 4294967295, .int .u32 4294967295, .int .u32 255, .int .u32 65535, .int .u32 65535])]
def rkl : List Nat := [0,0,0,0,0,0,0,0,0,0,9,0,19,0,0,0,0,0,0,0,0,0,2,0,0,0,8,6,3,3,3,3,0,4,0,15,18,3,17,16,0,0,0,0,0,4,15,16,17,0,2,2,3,0,1,1,0,0,0,0,0,0,7,1,2,1,5,3,2,2,1,1,2,1,9,3,14,11,4,15,15,16,15,10,8,0,6,9,15,8,5,2,1,0,0,0,0,0,0,3,14,15,16,1,1,1,2,1,0,6,3,1,4,1,8,1,10,9,13,12,3,14,1,1,9,0,15,0,2,14,9,4,5,7,12,1,8,6,4,7,4,2,0,0,0,0,0,0,0,13,1,0,0,0,0,0,2,3,3,3,5,0,0,2,2,3,1,7,4,1,12,2,11,2,1,0,0,1,1,8,7,5,3,4,1,2,2,1,11,2,5,1,6,3,2,3,0,0,0,0,0,0,0,0,1,0,0,0,0,0,0,9,0,0,1,2,1,1,4,0,1,1,6,1,1,0,0,0,0,11,10,1,10,0,0,0,1,1,1,1,5,1,3,1,2,4,0,1,1,8,1,1,4,5,1,0,3,1,0,0,0,0,0,0,0,0,0,0,0,0,0,0,0,0,0,0,5,0,0,0,1,0,2,0,4,2,2,1,1,3,0,0,7,1,3,0,0,0,0,0,2,0,0,4,0,0,0,0,0,0,0,0,0,0,0,0,0,0,0,0,0,3,1,2,6,0,0,0,0,0,0,0,0,0,1,3,0,4,5,0,3,2,3,3,0,0,0,0,0,4,1,3]
def rk (f : Nat) : Nat := (rkl[f]?).getD 0
def u (n : Nat) : V := .int .u32 (.ofNat n)
def q (n : Nat) : V := .int .i64 (.ofNat n)
theorem mixed28 : Go.Proofs.Tryz.prog.follows .mixedOrders = true := by kernel_rfl
def noGo (P : Program) : Bool := P.funcs.toList.all fun fn => fn.body.isNone || !(fn.name == "runtime.NumGoroutine")
theorem noGo28 : noGo Go.Proofs.Tryz.prog = true := by kernel_rfl
theorem hent28 (f : FuncId) (fn : Func) (h : Go.Proofs.Tryz.prog.funcs[f]? = some fn) (hb : fn.body.isNone = false) : (fn.name == "runtime.NumGoroutine") = false := by
 have := noGo28
 unfold noGo at this
 rw [List.all_eq_true] at this
 have h2 := this fn (by
  obtain ⟨hlt, rfl⟩ := Array.getElem?_eq_some_iff.1 h
  simp)
 rw [hb] at h2
 simpa using h2
theorem sane_ok (tab : List Ent) (ht : TabOk Go.Proofs.Tryz.prog gl28 tab) {f : FuncId} {args : List V} {os : List O} {outs : List Dl} (h : callC Go.Proofs.Tryz.prog gl28 100000 rk (extK 103 153 149 tab) 40 f args os = some outs) : FunOk Go.Proofs.Tryz.prog gl28 f args os outs :=
 reckon_ok mixed28 hent28 (extK_ok (Go.Proofs.Tryz.sortedK gl28) ht) h
end
end Go.Ev
