/-
 The initial headers; the program's and the reference's Decide.
 Plain laws of prefixes: both ways of saying that an address lies in one agree.
 Plain laws of prefixes: both ways of saying that one covers another agree.
-/
import Derived.Test.YtokclomhkggikaaGreatDoorKU1
import Derived.Test.YtokclomhkggikaaGreatDoorJPwApX
import Derived.Test.YtokclomhkggikaaGreatDoorKA2
import Derived.Test.YtokclomhkggikaaGreatDoorKTab
import Derived.Test.YtokclomhkggikaaGreatDoorJPwFork
set_option maxHeartbeats 20000000
set_option maxRecDepth 100000
namespace Go.Proofs.YtokclomhkggikaaGreatDoor
open Go Go.Pw
section
variable {Gl : Glob}
attribute [local irreducible] PW PWL OpP PCalls PWO bokB hinB bhas PWT bothT
theorem initH_iff (q : THdr) : initH q = true ↔ (q.proto = 6 ∨ q.proto = 17) ∨ (q.proto = 1 ∧ q.dp = 8 ∧ q.sp ≠ 8) ∨ (¬ (q.proto = 6 ∨ q.proto = 17) ∧ q.proto ≠ 1 ∧ q.sp = 0 ∧ q.dp = 0) := by
 unfold initH
 split
 ·rename_i h; exact ⟨fun _ => .inl h, fun _ => rfl⟩
 ·rename_i h
  split
  ·rename_i h1
   rw [Bool.and_eq_true, decide_eq_true_eq, decide_eq_true_eq]
   exact ⟨fun w => .inr (.inl ⟨h1, w⟩), fun w => w.elim (fun q => absurd q h) fun w => w.elim (fun q => q.2) fun q => absurd h1 q.2.1⟩
  ·rename_i h1
   rw [Bool.and_eq_true, decide_eq_true_eq, decide_eq_true_eq]
   exact ⟨fun w => .inr (.inr ⟨h, h1, w⟩), fun w => w.elim (fun q => absurd q h) fun w => w.elim (fun q => absurd q.1 h1) fun q => q.2.2⟩
theorem c_isInitial (q : THdr) : PFun Tryz.prog Gl 20 [eHdr q] fun r => r = .bool (initH q) := by
 (refine PFun.of hT Tryz.func20 rfl fun B hD => ?_; refine pw_norm rfl ?_)
 (repeat' (first | refine pw_round ?_ | refine pw_rounds 7 ?_ | refine zS ?_ | refine zD ?_ | refine po_both ?_ ?_ | refine pwt_both ?_ ?_ | refine pwt_fork ?_ | refine pwt_lin ?_ | (refine po_test rfl rfl rfl rfl zB ?_ ?_ <;> intro hb <;> first | exact zX | refine zDn ?_) | refine zq5 ?_ | refine zq6 ?_ | (refine zT ?_ ?_ <;> intro h <;> first | exact zX | refine zNq ?_)))
 all_goals refine ret1 _ rfl ?_ rfl
 all_goals refine congrArg PV.bool (Bool.eq_iff_iff.2 ?_)
 all_goals rw [initH_iff]
 all_goals simp
 all_goals omega
instance i_isInitial (s d p x y : Int) : ConF Tryz.prog Gl 20 [.agg [.int .u32 s, .int .u32 d, .int .u8 p, .int .u16 x, .int .u16 y]] True (.bool (initH ⟨s, d, p, x, y⟩)) := ⟨e20, fun _ => c_isInitial ⟨s, d, p, x, y⟩⟩
theorem c_hasIn (hG : GBoxT Gl) (q : THdr) (hh : HdrIn q) (b : TBox) : PCalls Tryz.prog Gl 67 [eBox b, .ptr 0 0] [.box (eHdr q).cells] fun r s => r = .bool (bhas b q) ∧ s = [.box (eHdr q).cells] := by
 have hh' : HdrIn ⟨q.src, q.dst, q.proto, q.sp, q.dp⟩ := hh
 refine PCalls.of hT Tryz.func67 rfl 1 (Nat.le_refl _) fun B hD => ?_
 refine pw_norm rfl ?_
 (repeat' (first | refine zS ?_ | (refine zT ?_ ?_ <;> intro h <;> first | exact zX | refine zNq ?_)))
 exact ⟨_, _, _, rfl, ⟨rfl, rfl⟩, .inr (.inl rfl), ⟨.inr (.inl rfl), trivial⟩, rfl, rfl⟩
theorem c_pContains (hG : GBoxT Gl) (l : List TBox) (q : THdr) (hh : HdrIn q) (hl : l.length < 1000000) : PFun Tryz.prog Gl 27 [.sl (l.map eBox), eHdr q] fun r => r = .bool (lhas l q) := by
 (refine PFun.of hT Tryz.func27 rfl fun B hD => ?_; refine pw_norm rfl ?_)
 (repeat' (first | refine zS ?_ | (refine zT ?_ ?_ <;> intro h <;> first | exact zX | refine zNq ?_)))
 (refine pl_op rfl (op_call [0] rfl rfl e66 (by decide) rfl rfl rfl zLe zLes (c_hasBox e67 (by rfl) (show Small l by unfold Small; omega) fun b _ => c_hasIn hG q hh b) (fun r s hq => ?_)); obtain ⟨rfl, rfl⟩ := hq; refine ⟨rfl, rfl, ?_⟩; (refine zNp ?_))
 (repeat' (first | refine zS ?_ | (refine zT ?_ ?_ <;> intro h <;> first | exact zX | refine zNq ?_)))
 exact ret1 _ rfl rfl rfl
instance i_pContains (l : List TBox) (s d p x y : Int) : ConF Tryz.prog Gl 27 [.sl (l.map eBox), .agg [.int .u32 s, .int .u32 d, .int .u8 p, .int .u16 x, .int .u16 y]] ((GBoxT Gl ∧ HdrIn ⟨s, d, p, x, y⟩) ∧ l.length < 1000000) (.bool (lhas l ⟨s, d, p, x, y⟩)) := ⟨e27, fun h => c_pContains h.1.1 l ⟨s, d, p, x, y⟩ h.1.2 h.2⟩
def bxI (a b c d e f : Int) : TBox := ⟨⟨0, 4294967295⟩, ⟨0, 4294967295⟩, ⟨a, b⟩, ⟨c, d⟩, ⟨e, f⟩⟩
def initL : List TBox := [bxI 0 0 0 0 0 0, bxI 1 1 0 7 8 8, bxI 1 1 9 65535 8 8, bxI 2 5 0 0 0 0, bxI 6 6 0 65535 0 65535, bxI 7 16 0 0 0 0, bxI 17 17 0 65535 0 65535, bxI 18 255 0 0 0 0]
theorem c_initAdd (hG : GBoxT Gl) (a b c d e f : Int) (out : List TBox) (cap : Nat) (ho : out.length ≤ 1000) : PCalls Tryz.prog Gl 69 [.int .u32 a, .int .u32 b, .int .u32 c, .int .u32 d, .int .u32 e, .int .u32 f, .ptr 0 0] [.box [.msl 10 1 0 (out.map eBox).length cap], .arr 10 (out.map eBox) cap] fun r σ =>
 r = .tup [] ∧ ∃ cap', σ = [.box [.msl 10 1 0 ((out ++ [bxI a b c d e f]).map eBox).length cap'], .arr 10 ((out ++ [bxI a b c d e f]).map eBox) cap'] := by
 refine PCalls.of hT Tryz.func69 rfl 2 (Nat.le_refl _) fun B hD => ?_
 refine pw_norm rfl ?_
 (repeat' (first | refine zS ?_ | (refine zT ?_ ?_ <;> intro h <;> first | exact zX | refine zNq ?_)))
 (refine pl_append (b := 40) hT hD rfl rfl rfl rfl rfl rfl rfl rfl (.inl (Nat.zero_lt_succ _)) rfl rfl (by simp; omega) (fun cap' _ hcap => ?_); (refine zNp ?_))
 (repeat' (first | refine zS ?_ | (refine zT ?_ ?_ <;> intro h <;> first | exact zX | refine zNq ?_)))
 have hE : (out.map eBox) ++ [eBox (bxI a b c d e f)] = (out ++ [bxI a b c d e f]).map eBox := by simp
 refine ⟨_, _, [.box [.msl 10 1 0 ((out ++ [bxI a b c d e f]).map eBox).length cap'], .arr 10 ((out ++ [bxI a b c d e f]).map eBox) cap'], rfl, ⟨rfl, cap', rfl⟩, .inr (.inl rfl), ?_, rfl, rfl⟩
 simp only [← hE, List.length_append]
 exact zF
theorem c_top4 (hG : GBoxT Gl) : PFun Tryz.prog Gl 71 [.int .i64 4] fun r => r = .int .u32 65535 := by
 unfold GBoxT at hG
 (refine PFun.of hT Tryz.func71 rfl fun B hD => ?_; refine pw_norm rfl ?_)
 (repeat' (first | refine zS ?_ | refine zq5 ?_ | refine zq6 ?_ | (refine zT ?_ ?_ <;> intro h <;> first | exact zX | refine zNq ?_)))
 exact ret1 _ rfl rfl rfl
instance i_top4 : ConF Tryz.prog Gl 71 [.int .i64 4] (GBoxT Gl) (.int .u32 65535) := ⟨e71, fun h => c_top4 h⟩
theorem c_initial (hG : GBoxT Gl) : PFun Tryz.prog Gl 28 [] fun r => r = .sl (initL.map eBox) := by
 (refine PFun.of hT Tryz.func28 rfl fun B hD => ?_; refine pw_norm rfl ?_)
 (repeat' (first | refine zS ?_ | (refine zT ?_ ?_ <;> intro h <;> first | exact zX | refine zNq ?_)))
 refine pl_ghost 10 ?_
 (refine zNp ?_)
 refine pl_weaken (st' := [.box [.msl 10 1 0 0 0], .arr 10 [] 0]) (Go.Pw.Le.refl _) ⟨.inr (.inr ⟨_, _, rfl, rfl, .inr (.inr (.inr (.inl ⟨rfl, _, _, rfl⟩))), trivial⟩), .inl rfl, trivial⟩ ?_
 (refine zNp ?_)
 (refine pl_op rfl (op_callA [0, 1] rfl rfl e69 (by decide) rfl rfl rfl zLe zLes (c_initAdd hG 0 0 0 0 0 0 (initL.take 0) 0 (by decide)) (fun r s hq => ?_)); obtain ⟨rfl, cap1, rfl⟩ := hq; refine ⟨rfl, rfl, ?_⟩; (refine zNp ?_))
 refine pl_nil ?_
 (refine pw_mv 1 3 hD rfl rfl rfl rfl rfl ?_; refine pw_norm rfl ?_)
 (refine pw_trim 2 hD rfl rfl ?_; refine pw_norm rfl ?_)
 refine pw_st (st' := [.box [.msl 10 1 0 ((initL.take 1).map eBox).length cap1], .arr 10 ((initL.take 1).map eBox) cap1]) rfl ?_
 refine zNq ?_
 (repeat' (first | refine zS ?_ | (refine zT ?_ ?_ <;> intro h <;> first | exact zX | refine zNq ?_)))
 (refine pl_op rfl (op_callA [0, 1] rfl rfl e69 (by decide) rfl rfl rfl zLe zLes (c_initAdd hG 1 1 0 7 8 8 (initL.take 1) cap1 (by decide)) (fun r s hq => ?_)); obtain ⟨rfl, cap2, rfl⟩ := hq; refine ⟨rfl, rfl, ?_⟩; (refine zNp ?_))
 refine pl_nil ?_
 (refine pw_mv 1 3 hD rfl rfl rfl rfl rfl ?_; refine pw_norm rfl ?_)
 (refine pw_trim 2 hD rfl rfl ?_; refine pw_norm rfl ?_)
 refine pw_st (st' := [.box [.msl 10 1 0 ((initL.take 2).map eBox).length cap2], .arr 10 ((initL.take 2).map eBox) cap2]) rfl ?_
 refine zNq ?_
 (repeat' (first | refine zS ?_ | (refine zT ?_ ?_ <;> intro h <;> first | exact zX | refine zNq ?_)))
 (refine pl_op rfl (op_callA [0, 1] rfl rfl e69 (by decide) rfl rfl rfl zLe zLes (c_initAdd hG 1 1 9 65535 8 8 (initL.take 2) cap2 (by decide)) (fun r s hq => ?_)); obtain ⟨rfl, cap3, rfl⟩ := hq; refine ⟨rfl, rfl, ?_⟩; (refine zNp ?_))
 refine pl_nil ?_
 (refine pw_mv 1 3 hD rfl rfl rfl rfl rfl ?_; refine pw_norm rfl ?_)
 (refine pw_trim 2 hD rfl rfl ?_; refine pw_norm rfl ?_)
 refine pw_st (st' := [.box [.msl 10 1 0 ((initL.take 3).map eBox).length cap3], .arr 10 ((initL.take 3).map eBox) cap3]) rfl ?_
 refine zNq ?_
 (repeat' (first | refine zS ?_ | (refine zT ?_ ?_ <;> intro h <;> first | exact zX | refine zNq ?_)))
 (refine pl_op rfl (op_callA [0, 1] rfl rfl e69 (by decide) rfl rfl rfl zLe zLes (c_initAdd hG 2 5 0 0 0 0 (initL.take 3) cap3 (by decide)) (fun r s hq => ?_)); obtain ⟨rfl, cap4, rfl⟩ := hq; refine ⟨rfl, rfl, ?_⟩; (refine zNp ?_))
 refine pl_nil ?_
 (refine pw_mv 1 3 hD rfl rfl rfl rfl rfl ?_; refine pw_norm rfl ?_)
 (refine pw_trim 2 hD rfl rfl ?_; refine pw_norm rfl ?_)
 refine pw_st (st' := [.box [.msl 10 1 0 ((initL.take 4).map eBox).length cap4], .arr 10 ((initL.take 4).map eBox) cap4]) rfl ?_
 refine zNq ?_
 (repeat' (first | refine zS ?_ | (refine zT ?_ ?_ <;> intro h <;> first | exact zX | refine zNq ?_)))
 (refine pl_op rfl (op_callA [0, 1] rfl rfl e69 (by decide) rfl rfl rfl zLe zLes (c_initAdd hG 6 6 0 65535 0 65535 (initL.take 4) cap4 (by decide)) (fun r s hq => ?_)); obtain ⟨rfl, cap5, rfl⟩ := hq; refine ⟨rfl, rfl, ?_⟩; (refine zNp ?_))
 refine pl_nil ?_
 (refine pw_mv 1 3 hD rfl rfl rfl rfl rfl ?_; refine pw_norm rfl ?_)
 (refine pw_trim 2 hD rfl rfl ?_; refine pw_norm rfl ?_)
 refine pw_st (st' := [.box [.msl 10 1 0 ((initL.take 5).map eBox).length cap5], .arr 10 ((initL.take 5).map eBox) cap5]) rfl ?_
 refine zNq ?_
 (repeat' (first | refine zS ?_ | (refine zT ?_ ?_ <;> intro h <;> first | exact zX | refine zNq ?_)))
 (refine pl_op rfl (op_callA [0, 1] rfl rfl e69 (by decide) rfl rfl rfl zLe zLes (c_initAdd hG 7 16 0 0 0 0 (initL.take 5) cap5 (by decide)) (fun r s hq => ?_)); obtain ⟨rfl, cap6, rfl⟩ := hq; refine ⟨rfl, rfl, ?_⟩; (refine zNp ?_))
 refine pl_nil ?_
 (refine pw_mv 1 3 hD rfl rfl rfl rfl rfl ?_; refine pw_norm rfl ?_)
 (refine pw_trim 2 hD rfl rfl ?_; refine pw_norm rfl ?_)
 refine pw_st (st' := [.box [.msl 10 1 0 ((initL.take 6).map eBox).length cap6], .arr 10 ((initL.take 6).map eBox) cap6]) rfl ?_
 refine zNq ?_
 (repeat' (first | refine zS ?_ | (refine zT ?_ ?_ <;> intro h <;> first | exact zX | refine zNq ?_)))
 (refine pl_op rfl (op_callA [0, 1] rfl rfl e69 (by decide) rfl rfl rfl zLe zLes (c_initAdd hG 17 17 0 65535 0 65535 (initL.take 6) cap6 (by decide)) (fun r s hq => ?_)); obtain ⟨rfl, cap7, rfl⟩ := hq; refine ⟨rfl, rfl, ?_⟩; (refine zNp ?_))
 refine pl_nil ?_
 (refine pw_mv 1 3 hD rfl rfl rfl rfl rfl ?_; refine pw_norm rfl ?_)
 (refine pw_trim 2 hD rfl rfl ?_; refine pw_norm rfl ?_)
 refine pw_st (st' := [.box [.msl 10 1 0 ((initL.take 7).map eBox).length cap7], .arr 10 ((initL.take 7).map eBox) cap7]) rfl ?_
 refine zNq ?_
 (repeat' (first | refine zS ?_ | (refine zT ?_ ?_ <;> intro h <;> first | exact zX | refine zNq ?_)))
 (refine pl_op rfl (op_callA [0, 1] rfl rfl e69 (by decide) rfl rfl rfl zLe zLes (c_initAdd hG 18 255 0 0 0 0 (initL.take 7) cap7 (by decide)) (fun r s hq => ?_)); obtain ⟨rfl, cap8, rfl⟩ := hq; refine ⟨rfl, rfl, ?_⟩; (refine zNp ?_))
 refine pl_nil ?_
 (refine pw_mv 1 3 hD rfl rfl rfl rfl rfl ?_; refine pw_norm rfl ?_)
 (refine pw_trim 2 hD rfl rfl ?_; refine pw_norm rfl ?_)
 refine pw_st (st' := [.box [.msl 10 1 0 ((initL.take 8).map eBox).length cap8], .arr 10 ((initL.take 8).map eBox) cap8]) rfl ?_
 refine zNq ?_
 (repeat' (first | refine zS ?_ | (refine zT ?_ ?_ <;> intro h <;> first | exact zX | refine zNq ?_)))
 exact ret0 _ (.sl (initL.map eBox)) rfl rfl (.inr (.inr (.inr (.inl ⟨_, _, _, _, _, _, rfl, rfl, rfl, rfl, rfl⟩)))) rfl
instance i_initial : ConF Tryz.prog Gl 28 [] (GBoxT Gl) (.sl (initL.map eBox)) := ⟨e28, fun h => c_initial h⟩
end
section
theorem mask_nat (k : Nat) (hk : k ≤ 32) : mask (32 - k : Int) = ((2 ^ 32 - 2 ^ k : Nat) : Int) := by
 unfold mask
 rw [show (min ((32 : Int) - (32 - (k : Int))).toNat 32) = k by omega, IntKind.wrap_u32]
 have h1 : (2 : Nat) ^ k ≤ 2 ^ 32 := Nat.pow_le_pow_right (by omega) hk
 have h4 : 0 < 2 ^ k := Nat.two_pow_pos k
 have h5 : (2 : Int) ^ k = ((2 ^ k : Nat) : Int) := (Int.natCast_pow 2 k).symm
 rw [h5]
 generalize (2 : Nat) ^ k = q at h1 h4
 omega
theorem ofInt_nat (n : Nat) : (BitVec.ofInt 32 (n : Int)).toNat = n % 2 ^ 32 := by
 rw [BitVec.ofInt_natCast, BitVec.toNat_ofNat]
theorem and_mask (a k : Nat) (ha : a < 2 ^ 32) (hk : k ≤ 32) : a &&& (2 ^ 32 - 2 ^ k) = a / 2 ^ k * 2 ^ k := by
 have h1 : 2 ^ 32 - 2 ^ k = (2 ^ (32 - k) - 1) <<< k := by
  rw [Nat.shiftLeft_eq, Nat.sub_mul, Nat.one_mul, ← Nat.pow_add, show 32 - k + k = 32 by omega]
 have h2 : a / 2 ^ k * 2 ^ k = (a >>> k) <<< k := by rw [Nat.shiftLeft_eq, Nat.shiftRight_eq_div_pow]
 rw [h1, h2]
 apply Nat.eq_of_testBit_eq
 intro i
 rw [Nat.testBit_and, Nat.testBit_shiftLeft, Nat.testBit_shiftLeft, Nat.testBit_two_pow_sub_one, Nat.testBit_shiftRight]
 by_cases hik : k ≤ i
 ·simp only [ge_iff_le, hik, decide_true, Bool.true_and, show k + (i - k) = i by omega]
  by_cases h32 : i < 32
  ·simp [show i - k < 32 - k by omega]
  ·have : a.testBit i = false := Nat.testBit_lt_two_pow (Nat.lt_of_lt_of_le ha (Nat.pow_le_pow_right (by omega) (by omega)))
   simp [this]
 ·simp [hik]
theorem andB_mask (a k : Nat) (ha : a < 2 ^ 32) (hk : k ≤ 32) : andB (a : Int) (mask (32 - k : Int)) = ((a / 2 ^ k * 2 ^ k : Nat) : Int) := by
 unfold andB
 have h1 : (2 : Nat) ^ 32 - 2 ^ k < 2 ^ 32 := by have : 0 < 2 ^ k := Nat.two_pow_pos k; omega
 rw [mask_nat k hk, BitVec.toNat_and, ofInt_nat, ofInt_nat, Nat.mod_eq_of_lt ha, Nat.mod_eq_of_lt h1, and_mask a k ha hk]
 refine IntWalk.u32_in _ ⟨by omega, ?_⟩
 have : a / 2 ^ k * 2 ^ k ≤ a := Nat.div_mul_le_self a _
 omega
theorem andN_mask (a k : Nat) (ha : a < 2 ^ 32) (hk : k ≤ 32) : andN (a : Int) (mask (32 - k : Int)) = ((a % 2 ^ k : Nat) : Int) := by
 unfold andN
 have h0 : 0 < 2 ^ k := Nat.two_pow_pos k
 have h2 : (2 : Nat) ^ k ≤ 2 ^ 32 := Nat.pow_le_pow_right (by omega) hk
 have h1 : (2 : Nat) ^ 32 - 2 ^ k < 2 ^ 32 := by omega
 rw [mask_nat k hk, BitVec.toNat_and, BitVec.toNat_not, ofInt_nat, ofInt_nat, Nat.mod_eq_of_lt ha, Nat.mod_eq_of_lt h1, show 2 ^ 32 - 1 - (2 ^ 32 - 2 ^ k) = 2 ^ k - 1 by omega, Nat.and_two_pow_sub_one_eq_mod]
 refine IntWalk.u32_in _ ⟨by omega, ?_⟩
 have : a % 2 ^ k ≤ a := Nat.mod_le _ _
 omega
theorem rsize_nat (k : Nat) (hk : k ≤ 32) : rsize (32 - k : Int) = ((2 ^ k : Nat) : Int) := by
 unfold rsize
 have h2 : (2 : Nat) ^ k ≤ 2 ^ 32 := Nat.pow_le_pow_right (by omega) hk
 rw [show (min ((32 : Int) - (32 - (k : Int))).toNat 64) = k by omega, Int.one_mul]
 have h5 : (2 : Int) ^ k = ((2 ^ k : Nat) : Int) := (Int.natCast_pow 2 k).symm
 rw [h5]
 generalize (2 : Nat) ^ k = q at h2
 exact IntWalk.u64_in _ ⟨by omega, by omega⟩
theorem pfx_nat {p : TPfx} (h : 0 ≤ p.addr ∧ p.addr < 4294967296) (hb : 0 ≤ p.bits ∧ p.bits ≤ 32) : ∃ n k : Nat, n < 2 ^ 32 ∧ k ≤ 32 ∧ p.addr = n ∧ p.bits = 32 - (k : Int) :=
 ⟨p.addr.toNat, (32 - p.bits).toNat, by omega, by omega, by omega, by omega⟩
theorem valid_eq (p : TPfx) (h : 0 ≤ p.addr ∧ p.addr < 4294967296) : pvalid p = rvalid p := by
 unfold pvalid rvalid
 by_cases hb : 0 ≤ p.bits ∧ p.bits ≤ 32
 ·obtain ⟨n, k, hn, hk, ea, eb⟩ := pfx_nat h hb
  have h5 : (((n : Int)).tmod ((2 ^ k : Nat) : Int)) = ((n % 2 ^ k : Nat) : Int) := rfl
  rw [ea, eb, andN_mask n k hn hk, rsize_nat k hk, IntWalk.u64_in _ (by omega), h5]
 ·by_cases h0 : 0 ≤ p.bits
  ·have h1 : ¬ p.bits ≤ 32 := fun h => hb ⟨h0, h⟩
   simp [h1]
  ·simp [h0]
theorem cont_eq (p : TPfx) (a : Int) (h : 0 ≤ p.addr ∧ p.addr < 4294967296) (ha : 0 ≤ a ∧ a < 4294967296) : rcont p a = pcont p a := by
 unfold rcont pcont rof
 rw [← valid_eq p h]
 by_cases hv : pvalid p = true
 ·have hb := pvalid_bits hv
  obtain ⟨n, k, hn, hk, ea, eb⟩ := pfx_nat h hb
  have h0 : 0 < 2 ^ k := Nat.two_pow_pos k
  have hv' := hv
  simp only [pvalid, Bool.and_eq_true, beq_iff_eq] at hv'
  rw [ea, eb, andN_mask n k hn hk] at hv'
  have hm : n % 2 ^ k = 0 := by have := hv'.2; omega
  obtain ⟨q, hq⟩ := Nat.dvd_of_mod_eq_zero hm
  have h2 : (2 : Nat) ^ k ≤ 2 ^ 32 := Nat.pow_le_pow_right (by omega) hk
  have hnk : n + 2 ^ k ≤ 2 ^ 32 := by
   have e32 : (2 : Nat) ^ 32 = 2 ^ k * 2 ^ (32 - k) := by rw [← Nat.pow_add]; congr 1; omega
   rw [hq, e32] at hn
   have hq2 : q < 2 ^ (32 - k) := Nat.lt_of_mul_lt_mul_left hn
   have := Nat.mul_le_mul_left (2 ^ k) hq2
   rw [Nat.mul_succ] at this
   omega
  obtain ⟨m, rfl⟩ : ∃ m : Nat, a = m := ⟨a.toNat, by omega⟩
  have hml : m < 2 ^ 32 := by omega
  have hhi : rhi p = ((n + 2 ^ k - 1 : Nat) : Int) := by
   unfold rhi
   rw [ea, eb, rsize_nat k hk, IntWalk.u64_in (n : Int) (by omega), IntWalk.u64_in ((n : Int) + ((2 ^ k : Nat) : Int)) (by omega), IntWalk.u64_in _ (by omega), IntWalk.u32_in _ (by omega)]
   omega
  rw [hv, if_pos rfl, hhi, eb, andB_mask m k hml hk, ea]
  simp only [Bool.true_and]
  have hdm := Nat.div_add_mod m (2 ^ k)
  have hmod := Nat.mod_lt m h0
  rw [Nat.mul_comm] at hdm
  rw [Bool.eq_iff_iff]
  simp only [Bool.and_eq_true, decide_eq_true_eq, beq_iff_eq]
  constructor
  ·rintro ⟨h3, h4⟩
   have h3' : n ≤ m := by omega
   have h4' : m ≤ n + 2 ^ k - 1 := by omega
   have e1 : m / 2 ^ k = q := by
    apply Nat.div_eq_of_lt_le
    ·rw [Nat.mul_comm]; omega
    ·rw [Nat.mul_comm, Nat.mul_succ]; omega
   rw [e1, Nat.mul_comm, ← hq]
  ·intro h3
   have h3' : m / 2 ^ k * 2 ^ k = n := by omega
   omega
 ·simp [hv]
variable {Gl : Glob}
attribute [local irreducible] PW PWL OpP PCalls PWO PWT bothT
def orB (a b : Int) : Int := IntKind.u32.wrap (BitVec.ofInt 32 a ||| BitVec.ofInt 32 b).toNat
def shlB (a : Int) (n : Nat) : Int := IntKind.u32.wrap (a * 2 ^ n)
def joinA (p : List Int) : Int := orB (orB (orB (shlB (p.getD 0 0) 24) (shlB (p.getD 1 0) 16)) (shlB (p.getD 2 0) 8)) (p.getD 3 0)
def aRun : Str → List Int → Nat → Nat → Option Int
 | [], p, n, d => if n ≠ 3 ∨ d = 0 then none else some (joinA p)
 | c :: s, p, n, d =>
  if c.toNat = 46 then (if d = 0 ∨ n = 3 then none else aRun s p (n + 1) 0)
  else if c.toNat < 48 ∨ c.toNat > 57 then none
  else if 0 < d ∧ p.getD n 0 = 0 then none
  else if 10 * p.getD n 0 + ((c.toNat : Int) - 48) > 255 then none
  else aRun s (p.set n (10 * p.getD n 0 + ((c.toNat : Int) - 48))) n (d + 1)
def addrO (o : Option Int) : Int × Bool := match o with | some v => (v, true) | none => (0, false)
def addr (s : Str) : Int × Bool := addrO (aRun s [0, 0, 0, 0] 0 0)
abbrev Caps := Nat × Nat × Nat × Nat
structure WOk (w : List Str) : Prop where
 len : Small w
 each : ∀ x ∈ w, x.length < 4294967281
theorem WOk.at {w : List Str} (h : WOk w) (i : Nat) : (w.getD i []).length < 4294967281 := by
 rw [List.getD]
 cases hx : w[i]? with
 | none => simp
 | some x => exact h.each x (List.mem_of_getElem? hx)
structure TOk (t : Topo) : Prop where
 devs : Small t.devs
 links : Small t.links
 edges : Small t.edges
 pools : Small t.pools
def PfxIn (p : TPfx) : Prop := 0 ≤ p.addr ∧ p.addr < 4294967296
theorem subnets_in {p : TPfx} (h : p ∈ subnets) : PfxIn p := by
 have : ∀ p ∈ subnets, 0 ≤ p.addr ∧ p.addr < 4294967296 := by decide
 exact this p h
def mTopo (n : Nat) (t : Topo) (c : Caps) : List PV := [.msl 5 n 0 (t.devs.map eDev).length c.1, .msl 3 (n + 1) 0 (t.links.map eLink).length c.2.1, .msl 6 (n + 2) 0 (t.edges.map eEdge).length c.2.2.1, .msl 2 (n + 3) 0 (t.pools.map ePfx).length c.2.2.2, .int .i64 t.tol]
def aTopo (t : Topo) (c : Caps) : List PObj := [.arr 5 (t.devs.map eDev) c.1, .arr 3 (t.links.map eLink) c.2.1, .arr 6 (t.edges.map eEdge) c.2.2.1, .arr 2 (t.pools.map ePfx) c.2.2.2]
end
section
def rcov (p q : TPfx) : Bool := (rvalid q && rcont p (rof q).1) && rcont p (rof q).2
def rmeet (p q : TPfx) : Bool := rcov p q || rcov q p
theorem valid_nat {p : TPfx} (hp : PfxIn p) (hv : pvalid p = true) : ∃ m k : Nat, k ≤ 32 ∧ p.bits = 32 - (k : Int) ∧ p.addr = ((m * 2 ^ k : Nat) : Int) ∧ m < 2 ^ (32 - k) := by
 obtain ⟨n, k, hn, hk, ea, eb⟩ := pfx_nat ⟨hp.1, hp.2⟩ (pvalid_bits hv)
 simp only [pvalid, Bool.and_eq_true, beq_iff_eq] at hv
 rw [ea, eb, andN_mask n k hn hk] at hv
 have hm : n % 2 ^ k = 0 := by have := hv.2; omega
 obtain ⟨q, hq⟩ := Nat.dvd_of_mod_eq_zero hm
 have e32 : (2 : Nat) ^ 32 = 2 ^ k * 2 ^ (32 - k) := by rw [← Nat.pow_add]; congr 1; omega
 refine ⟨q, k, hk, eb, by rw [ea, hq, Nat.mul_comm], ?_⟩
 rw [hq, e32] at hn
 exact Nat.lt_of_mul_lt_mul_left hn
theorem block_le {m k : Nat} (hm : m < 2 ^ (32 - k)) (hk : k ≤ 32) : m * 2 ^ k + 2 ^ k ≤ 2 ^ 32 := by
 have e32 : (2 : Nat) ^ 32 = 2 ^ (32 - k) * 2 ^ k := by rw [← Nat.pow_add]; congr 1; omega
 rw [e32, ← Nat.succ_mul]
 exact Nat.mul_le_mul_right _ hm
theorem pcont_nat {p : TPfx} {m k a : Nat} (hv : pvalid p = true) (hk : k ≤ 32) (eb : p.bits = 32 - (k : Int)) (ea : p.addr = ((m * 2 ^ k : Nat) : Int)) (ha : a < 2 ^ 32) : pcont p (a : Int) = decide (a / 2 ^ k = m) := by
 unfold pcont
 rw [hv, eb, andB_mask a k ha hk, ea, Bool.true_and, Bool.eq_iff_iff, beq_iff_eq, decide_eq_true_eq]
 have h0 : 0 < 2 ^ k := Nat.two_pow_pos k
 constructor
 ·intro h
  exact Nat.eq_of_mul_eq_mul_right h0 (Int.ofNat.inj h)
 ·intro h; rw [h]
theorem rof_nat {p : TPfx} {m k : Nat} (hv : pvalid p = true) (hp : PfxIn p) (hk : k ≤ 32) (eb : p.bits = 32 - (k : Int)) (ea : p.addr = ((m * 2 ^ k : Nat) : Int)) (hm : m < 2 ^ (32 - k)) :
  (rof p).1 = ((m * 2 ^ k : Nat) : Int) ∧ (rof p).2 = ((m * 2 ^ k + 2 ^ k - 1 : Nat) : Int) := by
 have hv' : rvalid p = true := by rw [← valid_eq p ⟨hp.1, hp.2⟩]; exact hv
 have hb := block_le hm hk
 have h0 : 0 < 2 ^ k := Nat.two_pow_pos k
 unfold rof
 rw [if_pos hv']
 refine ⟨ea, ?_⟩
 show rhi p = _
 unfold rhi
 generalize hx : m * 2 ^ k = x at *
 have h2 : (2 : Nat) ^ k ≤ 2 ^ 32 := Nat.pow_le_pow_right (by omega) hk
 rw [ea, eb, rsize_nat k hk, IntWalk.u64_in (x : Int) (by omega), IntWalk.u64_in ((x : Int) + ((2 ^ k : Nat) : Int)) (by omega), IntWalk.u64_in _ (by omega), IntWalk.u32_in _ (by omega)]
 omega
theorem cov_eq (p q : TPfx) (hp : PfxIn p) (hq : PfxIn q) : rcov p q = pcov p q := by
 unfold rcov pcov
 rw [← valid_eq q ⟨hq.1, hq.2⟩]
 cases hvq : pvalid q with
 | false => rfl
 | true =>
  obtain ⟨n, j, hj, eqb, eqa, hn⟩ := valid_nat hq hvq
  obtain ⟨e1, e2⟩ := rof_nat hvq hq hj eqb eqa hn
  have hbq := block_le hn hj
  have hj0 : 0 < 2 ^ j := Nat.two_pow_pos j
  have hl : (rof q).1 = q.addr := by rw [e1, eqa]
  rw [hl, Bool.true_and, Bool.true_and, cont_eq p q.addr ⟨hp.1, hp.2⟩ ⟨hq.1, hq.2⟩, e2, cont_eq p _ ⟨hp.1, hp.2⟩ ⟨Int.natCast_nonneg _, by omega⟩]
  cases hvp : pvalid p with
  | false =>
   have : ∀ a, pcont p a = false := fun a => by unfold pcont; rw [hvp]; rfl
   rw [this, this]; simp
  | true =>
   obtain ⟨m, k, hk, epb, epa, hm⟩ := valid_nat hp hvp
   have hk0 : 0 < 2 ^ k := Nat.two_pow_pos k
   rw [eqa, pcont_nat hvp hk epb epa (by omega), pcont_nat hvp hk epb epa (by omega), epb, eqb]
   rw [Bool.eq_iff_iff]
   simp only [Bool.and_eq_true, decide_eq_true_eq]
   constructor
   ·rintro ⟨h1, h2⟩
    refine ⟨?_, h1⟩
    by_cases hjk : j ≤ k
    ·omega
    ·exfalso
     have h3 : 2 ^ (k + 1) ≤ 2 ^ j := Nat.pow_le_pow_right (by omega) (by omega)
     rw [Nat.pow_succ] at h3
     have h4 := Nat.div_add_mod (n * 2 ^ j) (2 ^ k)
     have h5 := Nat.div_add_mod (n * 2 ^ j + 2 ^ j - 1) (2 ^ k)
     have h6 := Nat.mod_lt (n * 2 ^ j) hk0
     have h7 := Nat.mod_lt (n * 2 ^ j + 2 ^ j - 1) hk0
     rw [h1] at h4
     rw [h2] at h5
     omega
   ·rintro ⟨h1, h2⟩
    refine ⟨h2, ?_⟩
    have hjk : j ≤ k := by omega
    have h3 : 2 ^ k = 2 ^ j * 2 ^ (k - j) := by rw [← Nat.pow_add]; congr 1; omega
    have h4 : n * 2 ^ j / 2 ^ k = n / 2 ^ (k - j) := by
     rw [h3, Nat.mul_comm n, Nat.mul_div_mul_left _ _ hj0]
    have h5 : (n * 2 ^ j + 2 ^ j - 1) / 2 ^ k = n / 2 ^ (k - j) := by
     rw [h3, ← Nat.div_div_eq_div_mul]
     congr 1
     apply Nat.div_eq_of_lt_le
     ·omega
     ·rw [Nat.succ_mul]; omega
    rw [h5, ← h4, h2]
theorem meet_eq (p q : TPfx) (hp : PfxIn p) (hq : PfxIn q) : rmeet p q = pover p q := by
 unfold rmeet pover
 rw [cov_eq p q hp hq, cov_eq q p hq hp]
theorem any_congr' {α : Type} {p q : α → Bool} {l : List α} (h : ∀ x ∈ l, p x = q x) : l.any p = l.any q := by
 induction l with
 | nil => rfl
 | cons x l ih => rw [List.any_cons, List.any_cons, h x (List.mem_cons_self ..), ih fun y hy => h y (List.mem_cons_of_mem _ hy)]
def fixed (l : List TEdge) : List TPfx := (l.filter fun e => !e.planned).map TEdge.pfx
variable {Gl : Glob}
attribute [local irreducible] PW PWL OpP PCalls PWO PWT bothT
def vDevice (d : TDev) : Bool := ((vname d.name && decide (d.cap ≥ 0)) && decide (d.cap ≤ 4096)) && ((d.cls == []) || vname d.cls)
theorem c40 (d : TDev) : PFun Tryz.prog Gl 156 [eDev d] fun r => r = .bool (vDevice d) := by
 refine PFun.of hT Tryz.func156 rfl fun B hD => ?_
 refine pw_norm rfl ?_
 (refine zGo ?_)
 (refine pl_op rfl (op_fun (c85 d.name) rfl rfl e214 zLe rfl (fun r hr => ?_)); subst hr; refine ⟨rfl, ?_⟩; (refine zNp ?_))
 (refine zGo ?_)
 (refine pl_and 4 6 10 (decide (d.cap ≥ 0)) rfl rfl rfl (fun hb => ?_) (fun hb => ?_) ?_; (focus ((refine zNp ?_); (refine zGo ?_); exact ⟨zLe, StLe.refl _⟩)); (focus ((refine zNp ?_); (refine zGo ?_); exact ⟨zLe, StLe.refl _⟩)); (refine zNp ?_); (refine zGo ?_))
 (refine pl_and 4 11 15 (decide (d.cap ≤ 4096)) rfl rfl rfl (fun hb => ?_) (fun hb => ?_) ?_; (focus ((refine zNp ?_); (refine zGo ?_); exact ⟨zLe, StLe.refl _⟩)); (focus ((refine zNp ?_); (refine zGo ?_); exact ⟨zLe, StLe.refl _⟩)); (refine zNp ?_); (refine zGo ?_))
 refine pl_and 9 16 25 ((d.cls == []) || vname d.cls) rfl rfl rfl (fun hb => ?_) (fun hb => ?_) ?_
 ·refine pl_norm rfl ?_
  (refine zGo ?_)
  (refine pl_or 4 20 24 (vname d.cls) rfl rfl rfl (fun hb => ?_) (fun hb => ?_) ?_; (focus ((refine zNp ?_); (refine zGo ?_); exact ⟨zLe, StLe.refl _⟩)); (focus ((refine zNp ?_); (refine zGo ?_); (refine pl_on rfl rfl (op_fun (c85 d.cls) rfl rfl e214 zLe rfl (fun r hr => ?_)); subst hr; refine ⟨rfl, ?_⟩; (refine zNp ?_)); (refine zGo ?_); exact ⟨zLe, StLe.refl _⟩)); (refine zNp ?_); (refine zGo ?_))
  exact ⟨zLe, StLe.refl _⟩
 ·refine pl_norm rfl ?_
  (refine zGo ?_)
  exact ⟨zLe, StLe.refl _⟩
 refine pl_norm rfl ?_
 (refine zGo ?_)
 refine ret1 _ rfl rfl rfl
def vEdge (t : Topo) (e : TEdge) : Bool :=
 ((((decide (e.dev ≥ 0) && decide (e.dev < t.devs.length)) && (vname e.name && vname e.zone)) && pvalid e.pfx) && decide (e.pfx.bits > 0)) && (!e.planned || (e.pfx.addr == 0))
theorem c42 (t : Topo) (e : TEdge) : PFun Tryz.prog Gl 158 [eTopo t, eEdge e] fun r => r = .bool (vEdge t e) := by
 refine PFun.of hT Tryz.func158 rfl fun B hD => ?_
 refine pw_norm rfl ?_
 (refine zGo ?_)
 (refine pl_and 7 10 17 (decide (e.dev < (t.devs.map eDev).length)) rfl rfl rfl (fun hb => ?_) (fun hb => ?_) ?_; (focus ((refine zNp ?_); (refine zGo ?_); exact ⟨zLe, StLe.refl _⟩)); (focus ((refine zNp ?_); (refine zGo ?_); exact ⟨zLe, StLe.refl _⟩)); (refine zNp ?_); (refine zGo ?_))
 (refine pl_op rfl (op_fun (c85 e.name) rfl rfl e214 zLe rfl (fun r hr => ?_)); subst hr; refine ⟨rfl, ?_⟩; (refine zNp ?_))
 (refine zGo ?_)
 (refine pl_and 4 21 25 (vname e.zone) rfl rfl rfl (fun hb => ?_) (fun hb => ?_) ?_; (focus ((refine zNp ?_); (refine zGo ?_); (refine pl_on rfl rfl (op_fun (c85 e.zone) rfl rfl e214 zLe rfl (fun r hr => ?_)); subst hr; refine ⟨rfl, ?_⟩; (refine zNp ?_)); (refine zGo ?_); exact ⟨zLe, StLe.refl _⟩)); (focus ((refine zNp ?_); (refine zGo ?_); exact ⟨zLe, StLe.refl _⟩)); (refine zNp ?_); (refine zGo ?_))
 (refine pl_and 2 27 29 (vname e.name && vname e.zone) rfl rfl rfl (fun hb => ?_) (fun hb => ?_) ?_; (focus ((refine zNp ?_); (refine zGo ?_); exact ⟨zLe, StLe.refl _⟩)); (focus ((refine zNp ?_); (refine zGo ?_); exact ⟨zLe, StLe.refl _⟩)); (refine zNp ?_); (refine zGo ?_))
 (refine pl_and 4 30 34 (pvalid e.pfx) rfl rfl rfl (fun hb => ?_) (fun hb => ?_) ?_; (focus ((refine zNp ?_); (refine zGo ?_); (refine pl_on rfl rfl (op_fun (c45 e.pfx) rfl rfl e72 zLe rfl (fun r hr => ?_)); subst hr; refine ⟨rfl, ?_⟩; (refine zNp ?_)); (refine zGo ?_); exact ⟨zLe, StLe.refl _⟩)); (focus ((refine zNp ?_); (refine zGo ?_); exact ⟨zLe, StLe.refl _⟩)); (refine zNp ?_); (refine zGo ?_))
 (refine pl_and 5 35 40 (decide (e.pfx.bits > 0)) rfl rfl rfl (fun hb => ?_) (fun hb => ?_) ?_; (focus ((refine zNp ?_); (refine zGo ?_); exact ⟨zLe, StLe.refl _⟩)); (focus ((refine zNp ?_); (refine zGo ?_); exact ⟨zLe, StLe.refl _⟩)); (refine zNp ?_); (refine zGo ?_))
 refine pl_and 10 41 51 (!e.planned || (e.pfx.addr == 0)) rfl rfl rfl (fun hb => ?_) (fun hb => ?_) ?_
 ·refine pl_norm rfl ?_
  (refine zGo ?_)
  (refine pl_or 5 45 50 (e.pfx.addr == 0) rfl rfl rfl (fun hb => ?_) (fun hb => ?_) ?_; (focus ((refine zNp ?_); (refine zGo ?_); exact ⟨zLe, StLe.refl _⟩)); (focus ((refine zNp ?_); (refine zGo ?_); exact ⟨zLe, StLe.refl _⟩)); (refine zNp ?_); (refine zGo ?_))
  exact ⟨zLe, StLe.refl _⟩
 ·refine pl_norm rfl ?_
  (refine zGo ?_)
  exact ⟨zLe, StLe.refl _⟩
 refine pl_norm rfl ?_
 (refine zGo ?_)
 refine ret1 _ rfl ?_ rfl
 simp only [vEdge, List.length_map]

end
end Go.Proofs.YtokclomhkggikaaGreatDoor