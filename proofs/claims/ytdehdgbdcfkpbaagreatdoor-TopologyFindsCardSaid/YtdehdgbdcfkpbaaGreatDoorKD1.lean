/-
  Contracts of functions, walked over pure values.
-/
import Derived.Test.YtdehdgbdcfkpbaaGreatDoorKB2
import Derived.Test.YtdehdgbdcfkpbaaGreatDoorKA5
namespace Go.Proofs.YtdehdgbdcfkpbaaGreatDoor
open Go Go.Pw
variable {Gl : Glob}
attribute [local irreducible] PW PWL OpP PCalls PWO
set_option maxHeartbeats 20000000
set_option maxRecDepth 100000

/-! ### topology.Valid, topology.Complete -/
def vDevice (d : TDev) : Bool := ((vname d.name && decide (d.cap ≥ 0)) && decide (d.cap ≤ 4096)) && ((d.cls == []) || vname d.cls)
theorem c40 (d : TDev) : PFun Tryz.prog Gl 40 [eDev d] fun r => r = .bool (vDevice d) := by
  refine PFun.of hT Tryz.func40 rfl fun B hD => ?_
  refine pw_norm rfl ?_
  (refine zGo ?_)
  (refine pl_op rfl (op_fun (c85 d.name) rfl rfl e85 zLe rfl (fun r hr => ?_)); subst hr; refine ⟨rfl, ?_⟩; (refine zNp ?_))
  (refine zGo ?_)
  (refine pl_and 4 6 10 (decide (d.cap ≥ 0)) rfl rfl rfl (fun hb => ?_) (fun hb => ?_) ?_; (focus ((refine zNp ?_); (refine zGo ?_); exact ⟨by (exact zLe), StLe.refl _⟩)); (focus ((refine zNp ?_); (refine zGo ?_); exact ⟨by (exact zLe), StLe.refl _⟩)); (refine zNp ?_); (refine zGo ?_))
  (refine pl_and 4 11 15 (decide (d.cap ≤ 4096)) rfl rfl rfl (fun hb => ?_) (fun hb => ?_) ?_; (focus ((refine zNp ?_); (refine zGo ?_); exact ⟨by (exact zLe), StLe.refl _⟩)); (focus ((refine zNp ?_); (refine zGo ?_); exact ⟨by (exact zLe), StLe.refl _⟩)); (refine zNp ?_); (refine zGo ?_))
  refine pl_and 9 16 25 ((d.cls == []) || vname d.cls) rfl rfl rfl (fun hb => ?_) (fun hb => ?_) ?_
  · refine pl_norm rfl ?_
    (refine zGo ?_)
    (refine pl_or 4 20 24 (vname d.cls) rfl rfl rfl (fun hb => ?_) (fun hb => ?_) ?_; (focus ((refine zNp ?_); (refine zGo ?_); exact ⟨by (exact zLe), StLe.refl _⟩)); (focus ((refine zNp ?_); (refine zGo ?_); (refine pl_on rfl rfl (op_fun (c85 d.cls) rfl rfl e85 zLe rfl (fun r hr => ?_)); subst hr; refine ⟨rfl, ?_⟩; (refine zNp ?_)); (refine zGo ?_); exact ⟨by (exact zLe), StLe.refl _⟩)); (refine zNp ?_); (refine zGo ?_))
    exact ⟨by (exact zLe), StLe.refl _⟩
  · refine pl_norm rfl ?_
    (refine zGo ?_)
    exact ⟨by (exact zLe), StLe.refl _⟩
  refine pl_norm rfl ?_
  (refine zGo ?_)
  refine ret1 _ rfl rfl rfl
def vEdge (t : Topo) (e : TEdge) : Bool :=
  ((((decide (e.dev ≥ 0) && decide (e.dev < t.devs.length)) && (vname e.name && vname e.zone)) && pvalid e.pfx) && decide (e.pfx.bits > 0)) && (!e.planned || (e.pfx.addr == 0))
theorem c42 (t : Topo) (e : TEdge) : PFun Tryz.prog Gl 42 [eTopo t, eEdge e] fun r => r = .bool (vEdge t e) := by
  refine PFun.of hT Tryz.func42 rfl fun B hD => ?_
  refine pw_norm rfl ?_
  (refine zGo ?_)
  (refine pl_and 7 10 17 (decide (e.dev < (t.devs.map eDev).length)) rfl rfl rfl (fun hb => ?_) (fun hb => ?_) ?_; (focus ((refine zNp ?_); (refine zGo ?_); exact ⟨by (exact zLe), StLe.refl _⟩)); (focus ((refine zNp ?_); (refine zGo ?_); exact ⟨by (exact zLe), StLe.refl _⟩)); (refine zNp ?_); (refine zGo ?_))
  (refine pl_op rfl (op_fun (c85 e.name) rfl rfl e85 zLe rfl (fun r hr => ?_)); subst hr; refine ⟨rfl, ?_⟩; (refine zNp ?_))
  (refine zGo ?_)
  (refine pl_and 4 21 25 (vname e.zone) rfl rfl rfl (fun hb => ?_) (fun hb => ?_) ?_; (focus ((refine zNp ?_); (refine zGo ?_); (refine pl_on rfl rfl (op_fun (c85 e.zone) rfl rfl e85 zLe rfl (fun r hr => ?_)); subst hr; refine ⟨rfl, ?_⟩; (refine zNp ?_)); (refine zGo ?_); exact ⟨by (exact zLe), StLe.refl _⟩)); (focus ((refine zNp ?_); (refine zGo ?_); exact ⟨by (exact zLe), StLe.refl _⟩)); (refine zNp ?_); (refine zGo ?_))
  (refine pl_and 2 27 29 (vname e.name && vname e.zone) rfl rfl rfl (fun hb => ?_) (fun hb => ?_) ?_; (focus ((refine zNp ?_); (refine zGo ?_); exact ⟨by (exact zLe), StLe.refl _⟩)); (focus ((refine zNp ?_); (refine zGo ?_); exact ⟨by (exact zLe), StLe.refl _⟩)); (refine zNp ?_); (refine zGo ?_))
  (refine pl_and 4 30 34 (pvalid e.pfx) rfl rfl rfl (fun hb => ?_) (fun hb => ?_) ?_; (focus ((refine zNp ?_); (refine zGo ?_); (refine pl_on rfl rfl (op_fun (c45 e.pfx) rfl rfl e45 zLe rfl (fun r hr => ?_)); subst hr; refine ⟨rfl, ?_⟩; (refine zNp ?_)); (refine zGo ?_); exact ⟨by (exact zLe), StLe.refl _⟩)); (focus ((refine zNp ?_); (refine zGo ?_); exact ⟨by (exact zLe), StLe.refl _⟩)); (refine zNp ?_); (refine zGo ?_))
  (refine pl_and 5 35 40 (decide (e.pfx.bits > 0)) rfl rfl rfl (fun hb => ?_) (fun hb => ?_) ?_; (focus ((refine zNp ?_); (refine zGo ?_); exact ⟨by (exact zLe), StLe.refl _⟩)); (focus ((refine zNp ?_); (refine zGo ?_); exact ⟨by (exact zLe), StLe.refl _⟩)); (refine zNp ?_); (refine zGo ?_))
  refine pl_and 10 41 51 (!e.planned || (e.pfx.addr == 0)) rfl rfl rfl (fun hb => ?_) (fun hb => ?_) ?_
  · refine pl_norm rfl ?_
    (refine zGo ?_)
    (refine pl_or 5 45 50 (e.pfx.addr == 0) rfl rfl rfl (fun hb => ?_) (fun hb => ?_) ?_; (focus ((refine zNp ?_); (refine zGo ?_); exact ⟨by (exact zLe), StLe.refl _⟩)); (focus ((refine zNp ?_); (refine zGo ?_); exact ⟨by (exact zLe), StLe.refl _⟩)); (refine zNp ?_); (refine zGo ?_))
    exact ⟨by (exact zLe), StLe.refl _⟩
  · refine pl_norm rfl ?_
    (refine zGo ?_)
    exact ⟨by (exact zLe), StLe.refl _⟩
  refine pl_norm rfl ?_
  (refine zGo ?_)
  refine ret1 _ rfl ?_ rfl
  simp only [vEdge, List.length_map]
end Go.Proofs.YtdehdgbdcfkpbaaGreatDoor
