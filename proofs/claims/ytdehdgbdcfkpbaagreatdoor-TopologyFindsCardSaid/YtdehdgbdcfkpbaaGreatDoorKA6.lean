/-
  Contracts of functions, walked over pure values.
-/
import Derived.Test.YtdehdgbdcfkpbaaGreatDoorKA5
namespace Go.Proofs.YtdehdgbdcfkpbaaGreatDoor
open Go Go.Pw
variable {Gl : Glob}
attribute [local irreducible] PW PWL OpP PCalls PWO

/-! ### the reference's prefixes -/
def rsize (n : Int) : Int := IntKind.u64.wrap (1 * 2 ^ (min (32 - n).toNat 64))
theorem c94 (n : Int) (h0 : 0 ≤ n) (h1 : n ≤ 32) : PFun Tryz.prog Gl 94 [.int .i64 n] fun r => r = .int .u64 (rsize n) := by
  refine PFun.of hT Tryz.func94 rfl fun B hD => ?_
  refine pw_norm rfl ?_
  (refine zGo ?_)
  (refine pl_op rfl (op_of (v_conv (c := 32 - n) hT rfl rfl rfl rfl (IntWalk.u64_in _ (by omega))) ?_); (refine zNp ?_))
  (refine pl_op rfl (op_of (v_shl rfl rfl rfl (by omega) rfl) ?_); (refine zNp ?_))
  (refine zGo ?_)
  refine ret1 _ rfl rfl rfl
theorem pow2 (k : Nat) : (2 : Int) ^ k = ((2 ^ k : Nat) : Int) := by simp
theorem rsize_eq (n : Int) (h0 : 0 ≤ n) (h1 : n ≤ 32) : rsize n = ((2 ^ (32 - n).toNat : Nat) : Int) := by
  unfold rsize
  rw [Nat.min_eq_left (by omega), Int.one_mul, pow2]
  have h : (32 - n).toNat ≤ 32 := by omega
  have h2 : (2 : Nat) ^ (32 - n).toNat ≤ 2 ^ 32 := Nat.pow_le_pow_right (by omega) h
  generalize (2 : Nat) ^ (32 - n).toNat = m at *
  exact IntWalk.u64_in _ (by omega)
theorem rsize_pos (n : Int) (h0 : 0 ≤ n) (h1 : n ≤ 32) : 0 < rsize n ∧ rsize n ≤ 4294967296 := by
  rw [rsize_eq n h0 h1]
  have h : (32 - n).toNat ≤ 32 := by omega
  have h2 : (2 : Nat) ^ (32 - n).toNat ≤ 2 ^ 32 := Nat.pow_le_pow_right (by omega) h
  have h3 : 0 < (2 : Nat) ^ (32 - n).toNat := Nat.pow_pos (by omega)
  omega
def rvalid (p : TPfx) : Bool := decide (0 ≤ p.bits) && decide (p.bits ≤ 32) && ((IntKind.u64.wrap p.addr).tmod (rsize p.bits) == 0)
theorem rvalid_bits {p : TPfx} (h : rvalid p = true) : 0 ≤ p.bits ∧ p.bits ≤ 32 := by
  simp only [rvalid, Bool.and_eq_true, decide_eq_true_eq] at h
  exact h.1
theorem c53 (p : TPfx) : PFun Tryz.prog Gl 53 [ePfx p] fun r => r = .bool (rvalid p) := by
  refine PFun.of hT Tryz.func53 rfl fun B hD => ?_
  refine pw_norm rfl ?_
  (refine zGo ?_)
  refine pw_draw [(0, true), (1, true), (2, true), (3, true), (4, true), (5, true), (6, true), (7, true), (8, true), (9, true), (10, true), (11, true), (12, true), (13, true), (14, false), (15, true), (16, true), (17, true), (18, true)] hmix (by decide +kernel) ?_
  (refine zDgo ?_)
  refine po_split 6 rfl (fun h => ?_) (fun h => ?_)
  · (refine zDgo ?_)
    refine po_split 11 rfl (fun h2 => ?_) (fun h2 => ?_)
    · (refine zDgo ?_)
      have h' := h
      have h2' := h2
      simp only [decide_eq_true_eq, ge_iff_le] at h' h2'
      (refine po_gval rfl rfl rfl (v_conv hT rfl rfl rfl rfl rfl) ?_; refine zDn ?_)
      (refine zDgo ?_)
      (refine po_on rfl rfl rfl (op_fun (c94 p.bits h' h2') rfl rfl e94 zLe rfl (fun r hr => ?_)); subst hr; refine ⟨rfl, zLok, ?_⟩; refine zDn ?_)
      have h0 := rsize_pos p.bits h' h2'
      (refine po_gval rfl rfl rfl (v_rem rfl rfl rfl (by omega) rfl) ?_; refine zDn ?_)
      (refine zDgo ?_)
      (refine zGo ?_)
      refine ret1 _ rfl ?_ rfl
      simp only [rvalid, h', h2', decide_true, Bool.true_and]
    · (refine zDgo ?_)
      (refine zGo ?_)
      refine ret1 _ rfl ?_ rfl
      simp [rvalid, h2]
  · (refine zDgo ?_)
    (refine zGo ?_)
    refine ret1 _ rfl ?_ rfl
    have h' : ¬ (0 ≤ p.bits) := by simpa using h
    simp [rvalid, h']
def rhi (p : TPfx) : Int := IntKind.u32.wrap (IntKind.u64.wrap (IntKind.u64.wrap (IntKind.u64.wrap p.addr + rsize p.bits) - 1))
def rof (p : TPfx) : Int × Int := if rvalid p then (p.addr, rhi p) else (0, 0)
theorem c54 (p : TPfx) : PFun Tryz.prog Gl 54 [ePfx p] fun r => r = .tup [.agg [.int .u32 (rof p).1, .int .u32 (rof p).2], .bool (rvalid p)] := by
  refine PFun.of hT Tryz.func54 rfl fun B hD => ?_
  refine pw_norm rfl ?_
  (refine zGo ?_)
  (refine pl_op rfl (op_fun (c53 p) rfl rfl e53 zLe rfl (fun r hr => ?_)); subst hr; refine ⟨rfl, ?_⟩; (refine zNp ?_))
  (refine zGo ?_)
  refine pw_cond rfl (fun h => ?_) (fun h => ?_)
  · (refine zGo ?_)
    refine ret1 _ rfl ?_ rfl
    have h' : rvalid p = false := by simpa using h
    simp only [rof, h']
    rfl
  · have h' : rvalid p = true := by simpa using h
    have hb := rvalid_bits h'
    (refine zGo ?_)
    refine pw_draw [(0, true), (1, true), (2, true), (3, true), (4, true), (5, true), (6, true), (7, false), (8, true), (9, true), (10, true), (11, true), (12, false), (13, true)] hmix (by decide +kernel) ?_
    (refine zDgo ?_)
    (refine po_val rfl rfl (v_conv hT rfl rfl rfl rfl rfl) ?_; refine zDn ?_)
    (refine zDgo ?_)
    (refine po_step rfl rfl (op_fun (c94 p.bits hb.1 hb.2) rfl rfl e94 zLe rfl (fun r hr => ?_)); subst hr; refine ⟨rfl, zLok, ?_⟩; refine zDn ?_)
    (refine po_val rfl rfl (v_arith rfl rfl rfl rfl rfl) ?_; refine zDn ?_)
    (refine po_val rfl rfl (v_arith rfl rfl rfl rfl rfl) ?_; refine zDn ?_)
    (refine po_val rfl rfl (v_conv hT rfl rfl rfl rfl rfl) ?_; refine zDn ?_)
    (refine zDgo ?_)
    (refine zGo ?_)
    refine ret1 _ rfl ?_ rfl
    simp only [rof, h', if_true]
    rfl
def rcont (p : TPfx) (a : Int) : Bool := rvalid p && decide ((rof p).1 ≤ a) && decide (a ≤ (rof p).2)
theorem c23 (p : TPfx) (a : Int) : PFun Tryz.prog Gl 23 [ePfx p, .int .u32 a] fun r => r = .bool (rcont p a) := by
  refine PFun.of hT Tryz.func23 rfl fun B hD => ?_
  refine pw_norm rfl ?_
  (refine zGo ?_)
  (refine pl_op rfl (op_fun (c54 p) rfl rfl e54 zLe rfl (fun r hr => ?_)); subst hr; refine ⟨rfl, ?_⟩; (refine zNp ?_))
  (refine zGo ?_)
  refine pl_split 13 rfl (fun h => ?_) (fun h => ?_)
  · (refine zGo ?_)
    refine pl_split 19 rfl (fun h2 => ?_) (fun h2 => ?_)
    · (refine zGo ?_)
      refine ret1 _ rfl ?_ rfl
      simp only [rcont, h, h2, Bool.true_and]
    · (refine zGo ?_)
      refine ret1 _ rfl ?_ rfl
      simp only [rcont, h, h2, Bool.true_and, Bool.false_and]
  · (refine zGo ?_)
    refine ret1 _ rfl ?_ rfl
    simp only [rcont, h, Bool.false_and]
end Go.Proofs.YtdehdgbdcfkpbaaGreatDoor
