/-
  Contracts of functions, walked over pure values.
-/
import Derived.Test.YtdehdgbdcfkpbaaGreatDoorKEnc
namespace Go.Proofs.YtdehdgbdcfkpbaaGreatDoor
open Go Go.Pw
variable {Gl : Glob}
attribute [local irreducible] PW PWL OpP PCalls PWO

/-- prefix.mask -/
def mask (n : Int) : Int := IntKind.u32.wrap (4294967295 * 2 ^ (min (32 - n).toNat 32))
def andN (a b : Int) : Int := IntKind.u32.wrap (BitVec.ofInt 32 a &&& ~~~ BitVec.ofInt 32 b).toNat
def andB (a b : Int) : Int := IntKind.u32.wrap (BitVec.ofInt 32 a &&& BitVec.ofInt 32 b).toNat
theorem c90 (n : Int) (h0 : 0 ≤ n) (h1 : n ≤ 32) : PFun Tryz.prog Gl 90 [.int .i64 n] fun r => r = .int .u32 (mask n) := by
  refine PFun.of hT Tryz.func90 rfl fun B hD => ?_
  refine pw_norm rfl ?_
  (refine zGo ?_)
  (refine pl_op rfl (op_of (v_conv (c := 32 - n) hT rfl rfl rfl rfl (IntWalk.u64_in _ (by omega))) ?_); (refine zNp ?_))
  (refine pl_op rfl (op_of (v_shl rfl rfl rfl (by omega) rfl) ?_); (refine zNp ?_))
  (refine zGo ?_)
  refine ret1 _ rfl rfl rfl
/-- prefix.Valid -/
def pvalid (p : TPfx) : Bool := decide (0 ≤ p.bits) && decide (p.bits ≤ 32) && (andN p.addr (mask p.bits) == 0)
theorem pvalid_bits {p : TPfx} (h : pvalid p = true) : 0 ≤ p.bits ∧ p.bits ≤ 32 := by
  simp only [pvalid, Bool.and_eq_true, decide_eq_true_eq] at h
  exact h.1
theorem c45 (p : TPfx) : PFun Tryz.prog Gl 45 [ePfx p] fun r => r = .bool (pvalid p) := by
  refine PFun.of hT Tryz.func45 rfl fun B hD => ?_
  refine pw_norm rfl ?_
  (refine zGo ?_)
  refine pw_draw [(0, true), (1, true), (2, true), (3, true), (4, true), (5, true), (6, true), (7, true), (8, true), (9, true), (10, true), (11, true), (12, true), (13, false), (14, true), (15, true), (16, true), (17, true)] hmix (by decide +kernel) ?_
  (refine zDgo ?_)
  refine po_split 6 rfl (fun h => ?_) (fun h => ?_)
  · (refine zDgo ?_)
    refine po_split 11 rfl (fun h2 => ?_) (fun h2 => ?_)
    · (refine zDgo ?_)
      have h' := h
      have h2' := h2
      simp only [decide_eq_true_eq, ge_iff_le] at h' h2'
      (refine po_on rfl rfl rfl (op_fun (c90 p.bits h' h2') rfl rfl e90 zLe rfl (fun r hr => ?_)); subst hr; refine ⟨rfl, zLok, ?_⟩; refine zDn ?_)
      (refine po_gval rfl rfl rfl (v_bits rfl rfl rfl rfl rfl) ?_; refine zDn ?_)
      (refine zDgo ?_)
      (refine zGo ?_)
      refine ret1 _ rfl ?_ rfl
      simp only [pvalid, h', h2', decide_true, Bool.true_and]
      rfl
    · (refine zDgo ?_)
      (refine zGo ?_)
      refine ret1 _ rfl ?_ rfl
      simp [pvalid, h2]
  · (refine zDgo ?_)
    (refine zGo ?_)
    refine ret1 _ rfl ?_ rfl
    have h' : ¬ (0 ≤ p.bits) := by simpa using h
    simp [pvalid, h']
/-- prefix.Contains -/
def pcont (p : TPfx) (a : Int) : Bool := pvalid p && (andB a (mask p.bits) == p.addr)
theorem c57 (p : TPfx) (a : Int) : PFun Tryz.prog Gl 57 [ePfx p, .int .u32 a] fun r => r = .bool (pcont p a) := by
  refine PFun.of hT Tryz.func57 rfl fun B hD => ?_
  refine pw_norm rfl ?_
  (refine zGo ?_)
  refine pw_draw [(0, true), (1, false), (2, true), (3, true), (4, true), (5, true), (8, true), (9, true), (6, false), (7, true), (10, true), (11, true), (12, true)] hmix (by decide +kernel) ?_
  (refine zDgo ?_)
  (refine po_step rfl rfl (op_fun (c45 p) rfl rfl e45 zLe rfl (fun r hr => ?_)); subst hr; refine ⟨rfl, zLok, ?_⟩; refine zDn ?_)
  (refine zDgo ?_)
  refine po_split 7 rfl (fun h => ?_) (fun h => ?_)
  · (refine zDgo ?_)
    have hb := pvalid_bits h
    (refine po_on rfl rfl rfl (op_fun (c90 p.bits hb.1 hb.2) rfl rfl e90 zLe rfl (fun r hr => ?_)); subst hr; refine ⟨rfl, zLok, ?_⟩; refine zDn ?_)
    (refine po_gval rfl rfl rfl (v_bits rfl rfl rfl rfl rfl) ?_; refine zDn ?_)
    (refine zDgo ?_)
    (refine zGo ?_)
    refine ret1 _ rfl ?_ rfl
    simp only [pcont, h, Bool.true_and]
    rfl
  · (refine zDgo ?_)
    (refine zGo ?_)
    refine ret1 _ rfl ?_ rfl
    simp [pcont, h]
/-- prefix.Covers -/
def pcov (p q : TPfx) : Bool := pvalid q && decide (p.bits ≤ q.bits) && pcont p q.addr
theorem c89 (p q : TPfx) : PFun Tryz.prog Gl 89 [ePfx p, ePfx q] fun r => r = .bool (pcov p q) := by
  refine PFun.of hT Tryz.func89 rfl fun B hD => ?_
  refine pw_norm rfl ?_
  (refine zGo ?_)
  (refine pl_op rfl (op_fun (c45 q) rfl rfl e45 zLe rfl (fun r hr => ?_)); subst hr; refine ⟨rfl, ?_⟩; (refine zNp ?_))
  (refine zGo ?_)
  refine pl_split 7 rfl (fun h => ?_) (fun h => ?_)
  · (refine zGo ?_)
    refine pl_split 14 rfl (fun h2 => ?_) (fun h2 => ?_)
    · (refine zGo ?_)
      (refine pl_on rfl rfl (op_fun (c57 p q.addr) rfl rfl e57 zLe rfl (fun r hr => ?_)); subst hr; refine ⟨rfl, ?_⟩; (refine zNp ?_))
      (refine zGo ?_)
      refine ret1 _ rfl ?_ rfl
      simp only [pcov, h, h2, Bool.true_and]
    · (refine zGo ?_)
      refine ret1 _ rfl ?_ rfl
      simp only [pcov, h, h2, Bool.true_and, Bool.false_and]
  · (refine zGo ?_)
    refine ret1 _ rfl ?_ rfl
    simp only [pcov, h, Bool.false_and]
/-- topology.overlap -/
def pover (p q : TPfx) : Bool := pcov p q || pcov q p
theorem c44 (p q : TPfx) : PFun Tryz.prog Gl 44 [ePfx p, ePfx q] fun r => r = .bool (pover p q) := by
  refine PFun.of hT Tryz.func44 rfl fun B hD => ?_
  refine pw_norm rfl ?_
  (refine zGo ?_)
  (refine pl_op rfl (op_fun (c89 p q) rfl rfl e89 zLe rfl (fun r hr => ?_)); subst hr; refine ⟨rfl, ?_⟩; (refine zNp ?_))
  (refine zGo ?_)
  refine pl_split 8 rfl (fun h => ?_) (fun h => ?_)
  · (refine zGo ?_)
    refine ret1 _ rfl ?_ rfl
    simp only [pover, h, Bool.true_or]
  · (refine zGo ?_)
    (refine pl_on rfl rfl (op_fun (c89 q p) rfl rfl e89 zLe rfl (fun r hr => ?_)); subst hr; refine ⟨rfl, ?_⟩; (refine zNp ?_))
    (refine zGo ?_)
    refine ret1 _ rfl ?_ rfl
    simp only [pover, h, Bool.false_or]
end Go.Proofs.YtdehdgbdcfkpbaaGreatDoor
