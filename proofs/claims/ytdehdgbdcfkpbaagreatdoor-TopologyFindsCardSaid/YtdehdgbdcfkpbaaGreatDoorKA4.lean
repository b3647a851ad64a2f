/-
  Contracts of functions, walked over pure values.
-/
import Derived.Test.YtdehdgbdcfkpbaaGreatDoorKA2
import Derived.Test.YtdehdgbdcfkpbaaGreatDoorKA3
namespace Go.Proofs.YtdehdgbdcfkpbaaGreatDoor
open Go Go.Pw
variable {Gl : Glob}
attribute [local irreducible] PW PWL OpP PCalls PWO

theorem c87 (name : Str) (d : TDev) : PCalls Tryz.prog Gl 87 [eDev d, .ptr 0 0] [.box [.str name]] fun r st => r = .bool (d.name == name) ∧ st = [.box [.str name]] := by
  refine PCalls.of hT Tryz.func87 rfl 1 (Nat.le_refl _) fun B hD => ?_
  refine pw_norm rfl ?_
  (refine zGo ?_)
  exact ⟨_, _, _, rfl, ⟨rfl, rfl⟩, .inr (.inl rfl), ⟨.inr (.inl rfl), trivial⟩, rfl, rfl⟩
theorem c88 (name : Str) (d : TEdge) : PCalls Tryz.prog Gl 88 [eEdge d, .ptr 0 0] [.box [.str name]] fun r st => r = .bool (d.name == name) ∧ st = [.box [.str name]] := by
  refine PCalls.of hT Tryz.func88 rfl 1 (Nat.le_refl _) fun B hD => ?_
  refine pw_norm rfl ?_
  (refine zGo ?_)
  exact ⟨_, _, _, rfl, ⟨rfl, rfl⟩, .inr (.inl rfl), ⟨.inr (.inl rfl), trivial⟩, rfl, rfl⟩
theorem c109 (n : Int) (d : TEdge) : PCalls Tryz.prog Gl 109 [eEdge d, .ptr 0 0] [.box [.int .i64 n]] fun r st => r = .bool (d.dev == n) ∧ st = [.box [.int .i64 n]] := by
  refine PCalls.of hT Tryz.func109 rfl 1 (Nat.le_refl _) fun B hD => ?_
  refine pw_norm rfl ?_
  (refine zGo ?_)
  exact ⟨_, _, _, rfl, ⟨rfl, rfl⟩, .inr (.inl rfl), ⟨.inr (.inl rfl), trivial⟩, rfl, rfl⟩
theorem c110 (name : Str) (d : TEdge) : PCalls Tryz.prog Gl 110 [eEdge d, .ptr 0 0] [.box [.str name]] fun r st => r = .bool (d.zone == name) ∧ st = [.box [.str name]] := by
  refine PCalls.of hT Tryz.func110 rfl 1 (Nat.le_refl _) fun B hD => ?_
  refine pw_norm rfl ?_
  (refine zGo ?_)
  exact ⟨_, _, _, rfl, ⟨rfl, rfl⟩, .inr (.inl rfl), ⟨.inr (.inl rfl), trivial⟩, rfl, rfl⟩
theorem c84 (d : TEdge) : PFun Tryz.prog Gl 84 [eEdge d] fun r => r = .bool d.planned := by
  refine PFun.of hT Tryz.func84 rfl fun B hD => ?_
  refine pw_norm rfl ?_
  (refine zGo ?_)
  refine ret1 _ rfl rfl rfl
theorem c56 (a : Int) (d : TEdge) : PCalls Tryz.prog Gl 56 [eEdge d, .ptr 0 0] [.box [.int .u32 a]] fun r st => r = .bool (!d.planned && pcont d.pfx a) ∧ st = [.box [.int .u32 a]] := by
  refine PCalls.of hT Tryz.func56 rfl 1 (Nat.le_refl _) fun B hD => ?_
  refine pw_norm rfl ?_
  (refine zGo ?_)
  refine pl_split 7 rfl (fun h => ?_) (fun h => ?_)
  · (refine zGo ?_)
    (refine pl_on rfl rfl (op_fun (c57 d.pfx a) rfl rfl e57 zLe rfl (fun r hr => ?_)); subst hr; refine ⟨rfl, ?_⟩; (refine zNp ?_))
    (refine zGo ?_)
    exact ⟨_, _, _, rfl, ⟨by rw [h, Bool.true_and]; rfl, rfl⟩, .inr (.inl rfl), ⟨.inr (.inl rfl), trivial⟩, rfl, rfl⟩
  · (refine zGo ?_)
    exact ⟨_, _, _, rfl, ⟨by rw [h, Bool.false_and]; rfl, rfl⟩, .inr (.inl rfl), ⟨.inr (.inl rfl), trivial⟩, rfl, rfl⟩
theorem c47 (p q : TPfx) : PCalls Tryz.prog Gl 47 [ePfx q, .ptr 0 0] [.box [.int .u32 p.addr, .int .i64 p.bits]] fun r st => r = .bool (pover p q) ∧ st = [.box [.int .u32 p.addr, .int .i64 p.bits]] := by
  refine PCalls.of hT Tryz.func47 rfl 1 (Nat.le_refl _) fun B hD => ?_
  refine pw_norm rfl ?_
  (refine zGo ?_)
  (refine pl_op rfl (op_fun (c44 p q) rfl rfl e44 zLe rfl (fun r hr => ?_)); subst hr; refine ⟨rfl, ?_⟩; (refine zNp ?_))
  (refine zGo ?_)
  exact ⟨_, _, _, rfl, ⟨rfl, rfl⟩, .inr (.inl rfl), ⟨.inr (.inl rfl), trivial⟩, rfl, rfl⟩
theorem c106 (p q : TPfx) : PCalls Tryz.prog Gl 106 [ePfx q, .ptr 0 0] [.box [.int .u32 p.addr, .int .i64 p.bits]] fun r st => r = .bool (pover q p) ∧ st = [.box [.int .u32 p.addr, .int .i64 p.bits]] := by
  refine PCalls.of hT Tryz.func106 rfl 1 (Nat.le_refl _) fun B hD => ?_
  refine pw_norm rfl ?_
  (refine zGo ?_)
  (refine pl_op rfl (op_fun (c44 q p) rfl rfl e44 zLe rfl (fun r hr => ?_)); subst hr; refine ⟨rfl, ?_⟩; (refine zNp ?_))
  (refine zGo ?_)
  exact ⟨_, _, _, rfl, ⟨rfl, rfl⟩, .inr (.inl rfl), ⟨.inr (.inl rfl), trivial⟩, rfl, rfl⟩
theorem c105 (e d : TEdge) : PCalls Tryz.prog Gl 105 [eEdge d, .ptr 0 0] [.box (eEdge e).cells] fun r st => r = .bool (!d.planned && pover d.pfx e.pfx) ∧ st = [.box (eEdge e).cells] := by
  refine PCalls.of hT Tryz.func105 rfl 1 (Nat.le_refl _) fun B hD => ?_
  refine pw_norm rfl ?_
  (refine zGo ?_)
  refine pl_split 7 rfl (fun h => ?_) (fun h => ?_)
  · (refine zGo ?_)
    (refine pl_on rfl rfl (op_fun (c44 d.pfx e.pfx) rfl rfl e44 zLe rfl (fun r hr => ?_)); subst hr; refine ⟨rfl, ?_⟩; (refine zNp ?_))
    (refine zGo ?_)
    exact ⟨_, _, _, rfl, ⟨by rw [h, Bool.true_and]; rfl, rfl⟩, .inr (.inl rfl), ⟨.inr (.inl rfl), trivial⟩, rfl, rfl⟩
  · (refine zGo ?_)
    exact ⟨_, _, _, rfl, ⟨by rw [h, Bool.false_and]; rfl, rfl⟩, .inr (.inl rfl), ⟨.inr (.inl rfl), trivial⟩, rfl, rfl⟩
end Go.Proofs.YtdehdgbdcfkpbaaGreatDoor
