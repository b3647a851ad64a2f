/-
  The reference's numbers, addresses, prefixes and lines as texts.
-/
import Derived.Test.YtdehdgbdcfkpbaaGreatDoorKE5
import Derived.Test.YtdehdgbdcfkpbaaGreatDoorJPwLoop
import Derived.Lib.ItoaNum
namespace Go.Proofs.YtdehdgbdcfkpbaaGreatDoor
open Go Go.Pw
variable {Gl : Glob}
attribute [local irreducible] PW PWL OpP PCalls PWO
set_option maxHeartbeats 20000000
set_option maxRecDepth 100000

/-! ### numbers -/
abbrev dec (n : Nat) : Str := Lib.decDigits n
theorem dec_lt {n : Nat} (h : n < 10) : dec n = [UInt8.ofNat (48 + n)] := Lib.decDigits_one h
theorem dec_ge {n : Nat} (h : ¬ n < 10) : dec n = dec (n / 10) ++ [UInt8.ofNat (48 + n % 10)] := by rw [dec, Lib.decDigits, dif_neg h]
theorem dec_len : ∀ (k n : Nat), n < 10 ^ (k + 1) → (dec n).length ≤ k + 1
  | 0, n, h => by rw [dec_lt (by omega)]; simp
  | k + 1, n, h => by
    by_cases h1 : n < 10
    · rw [dec_lt h1]; simp
    · rw [dec_ge h1, List.length_append, List.length_singleton]
      have h2 : (10 : Nat) ^ (k + 1 + 1) = 10 ^ (k + 1) * 10 := Nat.pow_succ ..
      have := dec_len k (n / 10) (by omega)
      omega
theorem dig_nat (d : Nat) (h : d < 10) : (48 + (d : Int)) = ((UInt8.ofNat (48 + d)).toNat : Int) := by
  rw [UInt8.toNat_ofNat', Nat.mod_eq_of_lt (by omega)]; omega
theorem dig_wrap (d : Nat) (h : d < 10) : IntKind.u8.wrap (48 + (d : Int)) = ((UInt8.ofNat (48 + d)).toNat : Int) := by
  rw [IntWalk.u8_in _ (by omega), dig_nat d h]
theorem c35 : ∀ (k n : Nat), k ≤ 17 → n < 10 ^ (k + 1) → PFun Tryz.prog Gl 35 [.int .i64 n] fun r => r = .str (dec n) := by
  intro k
  induction k with
  | zero =>
    intro n _ hn
    have h10 : n < 10 := by omega
    refine PFun.of hT Tryz.func35 rfl fun B hD => ?_
    refine pw_norm rfl ?_
    rw [dec_lt h10]
    (refine zGo ?_)
    refine pw_cond rfl (fun h => ?_) (fun h => ?_)
    · (refine zGo ?_)
      (refine pl_op rfl (op_of (v_conv (c := ((UInt8.ofNat (48 + n)).toNat : Int)) hT rfl rfl rfl rfl (dig_wrap n h10)) ?_); (refine zNp ?_))
      (refine zGo ?_)
      (refine pl_op rfl (op_of (v_bstr (bs := [UInt8.ofNat (48 + n)]) hT rfl rfl rfl rfl rfl) ?_); (refine zNp ?_))
      (refine zGo ?_)
      exact ret1 _ rfl rfl rfl
    · simp only [decide_eq_false_iff_not] at h; omega
  | succ k ih =>
    intro n hk hn
    have hp : (10 : Nat) ^ (k + 1 + 1) = 10 ^ (k + 1) * 10 := Nat.pow_succ ..
    have hp2 : (10 : Nat) ^ (k + 1 + 1) ≤ 10 ^ 18 := Nat.pow_le_pow_right (by omega) (by omega)
    refine PFun.of hT Tryz.func35 rfl fun B hD => ?_
    refine pw_norm rfl ?_
    (refine zGo ?_)
    refine pw_cond rfl (fun h => ?_) (fun h => ?_)
    · have h10 : n < 10 := by simp only [decide_eq_true_eq] at h; omega
      rw [dec_lt h10]
      (refine zGo ?_)
      (refine pl_op rfl (op_of (v_conv (c := ((UInt8.ofNat (48 + n)).toNat : Int)) hT rfl rfl rfl rfl (dig_wrap n h10)) ?_); (refine zNp ?_))
      (refine zGo ?_)
      (refine pl_op rfl (op_of (v_bstr (bs := [UInt8.ofNat (48 + n)]) hT rfl rfl rfl rfl rfl) ?_); (refine zNp ?_))
      (refine zGo ?_)
      exact ret1 _ rfl rfl rfl
    · have h10 : ¬ n < 10 := by simp only [decide_eq_false_iff_not] at h; omega
      rw [dec_ge h10]
      have hl := dec_len k (n / 10) (by omega)
      obtain ⟨q, hq⟩ : ∃ q, q = n % 10 := ⟨_, rfl⟩
      rw [← hq]
      (refine zGo ?_)
      refine pw_draw [(0, true), (1, true), (3, true), (4, true), (5, true), (6, true), (7, true), (8, true), (2, false), (9, true), (10, true)] hmix (by decide +kernel) ?_
      (refine zDgo ?_)
      (refine po_val rfl rfl (v_quo (c := ((n / 10 : Nat) : Int)) rfl rfl rfl (by decide) (by rw [Int.tdiv_eq_ediv_of_nonneg (by omega), IntWalk.i64_in _ (by omega)]; omega)) ?_; refine zDn ?_)
      (refine zDgo ?_)
      (refine po_val rfl rfl (v_rem (c := (q : Int)) rfl rfl rfl (by decide) (by rw [Int.tmod_eq_emod_of_nonneg (by omega)]; omega)) ?_; refine zDn ?_)
      (refine zDgo ?_)
      (refine po_val rfl rfl (v_conv (c := ((UInt8.ofNat (48 + q)).toNat : Int)) hT rfl rfl rfl rfl (dig_wrap q (by omega))) ?_; refine zDn ?_)
      (refine zDgo ?_)
      (refine po_make rfl rfl (fun st' K hK => op_litF hT rfl rfl rfl rfl rfl (by decide) rfl rfl rfl rfl hK) ?_; refine zDn ?_)
      (refine po_val rfl rfl (v_bstr (bs := [UInt8.ofNat (48 + q)]) hT rfl rfl rfl rfl rfl) ?_; refine zDn ?_)
      (refine zDgo ?_)
      (refine po_step rfl rfl (op_fun (ih (n / 10) (by omega) (by omega)) rfl rfl e35 zLe rfl (fun r hr => ?_)); subst hr; refine ⟨rfl, zLok, ?_⟩; refine zDn ?_)
      (refine zDgo ?_)
      (refine po_val rfl rfl (v_concat rfl rfl rfl (by simp; omega)) ?_; refine zDn ?_)
      (refine zDgo ?_)
      (refine zGo ?_)
      exact ret1 _ rfl rfl rfl
/-- A number of at most 4 digits. -/
theorem c35s (n : Int) (h0 : 0 ≤ n) (h1 : n < 10000) : PFun Tryz.prog Gl 35 [.int .i64 n] fun r => r = .str (dec n.toNat) := by
  have := c35 (Gl := Gl) 3 n.toNat (by omega) (by omega)
  rw [Int.toNat_of_nonneg h0] at this
  exact this
theorem dec_small {n : Nat} (h : n < 10000) : (dec n).length ≤ 4 := dec_len 3 n (by omega)
/-! ### addresses -/
def oct (a : Nat) (k : Nat) : Nat := a / 2 ^ k % 256
def addrS (a : Nat) : Str := dec (oct a 24) ++ [46] ++ dec (oct a 16) ++ [46] ++ dec (oct a 8) ++ [46] ++ dec (oct a 0)
theorem oct_lt (a k : Nat) : oct a k < 256 := Nat.mod_lt _ (by omega)
theorem fdiv_nat (a k : Nat) : (a : Int).fdiv (2 ^ k) = ((a / 2 ^ k : Nat) : Int) := by
  rw [Int.fdiv_eq_ediv_of_nonneg _ (by have := Nat.two_pow_pos k; exact_mod_cast Nat.zero_le _)]
  norm_cast
theorem u8c (n : Nat) (h : n < 256) : PFun Tryz.prog Gl 35 [.int .i64 (n : Int)] fun r => r = .str (dec n) := c35 2 n (by omega) (by omega)
theorem c81 (a : Nat) (ha : a < 4294967296) : PFun Tryz.prog Gl 81 [.int .u32 (a : Int)] fun r => r = .str (addrS a) := by
  refine PFun.of hT Tryz.func81 rfl fun B hD => ?_
  refine pw_norm rfl ?_
  have l0 : (dec (oct a 0)).length ≤ 4 := dec_small (by have := oct_lt a 0; omega)
  have l1 : (dec (oct a 8)).length ≤ 4 := dec_small (by have := oct_lt a 8; omega)
  have l2 : (dec (oct a 16)).length ≤ 4 := dec_small (by have := oct_lt a 16; omega)
  have l3 : (dec (oct a 24)).length ≤ 4 := dec_small (by have := oct_lt a 24; omega)
  have e24 : ((a / 2 ^ 24 : Nat) : Int) = (oct a 24 : Int) := by unfold oct; omega
  have r16 : ((a / 2 ^ 16 : Nat) : Int).tmod 256 = (oct a 16 : Int) := by rw [Int.tmod_eq_emod_of_nonneg (by omega)]; unfold oct; omega
  have r8 : ((a / 2 ^ 8 : Nat) : Int).tmod 256 = (oct a 8 : Int) := by rw [Int.tmod_eq_emod_of_nonneg (by omega)]; unfold oct; omega
  have r0 : (a : Int).tmod 256 = (oct a 0 : Int) := by rw [Int.tmod_eq_emod_of_nonneg (by omega)]; unfold oct; omega
  have hw : ∀ k, IntKind.i64.wrap (oct a k : Int) = (oct a k : Int) := fun k => by have := oct_lt a k; rw [IntWalk.i64_in _ (by omega)]
  (refine zGo ?_)
  (refine pl_op rfl (op_of (v_shr (c := (oct a 24 : Int)) rfl rfl rfl (by decide) (by rw [← e24]; exact fdiv_nat a 24)) ?_); (refine zNp ?_))
  (refine zGo ?_)
  (refine pl_op rfl (op_of (v_conv (c := (oct a 24 : Int)) hT rfl rfl rfl rfl (hw 24)) ?_); (refine zNp ?_))
  (refine zGo ?_)
  (refine pl_op rfl (op_fun (u8c (oct a 24) (oct_lt a 24)) rfl rfl e35 zLe rfl (fun r hr => ?_)); subst hr; refine ⟨rfl, ?_⟩; (refine zNp ?_))
  (refine zGo ?_)
  (refine pl_op rfl (op_of (v_concat rfl rfl rfl (by simp; omega)) ?_); (refine zNp ?_))
  (refine zGo ?_)
  (refine pl_op rfl (op_of (v_shr (c := ((a / 2 ^ 16 : Nat) : Int)) rfl rfl rfl (by decide) (fdiv_nat a 16)) ?_); (refine zNp ?_))
  (refine zGo ?_)
  (refine pl_op rfl (op_of (v_rem (c := (oct a 16 : Int)) rfl rfl rfl (by decide) r16) ?_); (refine zNp ?_))
  (refine zGo ?_)
  (refine pl_op rfl (op_of (v_conv (c := (oct a 16 : Int)) hT rfl rfl rfl rfl (hw 16)) ?_); (refine zNp ?_))
  (refine zGo ?_)
  (refine pl_op rfl (op_fun (u8c (oct a 16) (oct_lt a 16)) rfl rfl e35 zLe rfl (fun r hr => ?_)); subst hr; refine ⟨rfl, ?_⟩; (refine zNp ?_))
  (refine zGo ?_)
  (refine pl_op rfl (op_of (v_concat rfl rfl rfl (by simp; omega)) ?_); (refine zNp ?_))
  (refine zGo ?_)
  (refine pl_op rfl (op_of (v_concat rfl rfl rfl (by simp; omega)) ?_); (refine zNp ?_))
  (refine zGo ?_)
  (refine pl_op rfl (op_of (v_shr (c := ((a / 2 ^ 8 : Nat) : Int)) rfl rfl rfl (by decide) (fdiv_nat a 8)) ?_); (refine zNp ?_))
  (refine zGo ?_)
  (refine pl_op rfl (op_of (v_rem (c := (oct a 8 : Int)) rfl rfl rfl (by decide) r8) ?_); (refine zNp ?_))
  (refine zGo ?_)
  (refine pl_op rfl (op_of (v_conv (c := (oct a 8 : Int)) hT rfl rfl rfl rfl (hw 8)) ?_); (refine zNp ?_))
  (refine zGo ?_)
  (refine pl_op rfl (op_fun (u8c (oct a 8) (oct_lt a 8)) rfl rfl e35 zLe rfl (fun r hr => ?_)); subst hr; refine ⟨rfl, ?_⟩; (refine zNp ?_))
  (refine zGo ?_)
  (refine pl_op rfl (op_of (v_concat rfl rfl rfl (by simp; omega)) ?_); (refine zNp ?_))
  (refine zGo ?_)
  (refine pl_op rfl (op_of (v_concat rfl rfl rfl (by simp; omega)) ?_); (refine zNp ?_))
  (refine zGo ?_)
  (refine pl_op rfl (op_of (v_rem (c := (oct a 0 : Int)) rfl rfl rfl (by decide) r0) ?_); (refine zNp ?_))
  (refine zGo ?_)
  (refine pl_op rfl (op_of (v_conv (c := (oct a 0 : Int)) hT rfl rfl rfl rfl (hw 0)) ?_); (refine zNp ?_))
  (refine zGo ?_)
  (refine pl_op rfl (op_fun (u8c (oct a 0) (oct_lt a 0)) rfl rfl e35 zLe rfl (fun r hr => ?_)); subst hr; refine ⟨rfl, ?_⟩; (refine zNp ?_))
  (refine zGo ?_)
  (refine pl_op rfl (op_of (v_concat rfl rfl rfl (by simp; omega)) ?_); (refine zNp ?_))
  (refine zGo ?_)
  refine ret1 _ rfl ?_ rfl
  rw [addrS]
/-! ### prefixes -/
def pfxS (p : TPfx) : Str := addrS p.addr.toNat ++ [47] ++ dec p.bits.toNat
theorem addrS_len (a : Nat) : (addrS a).length ≤ 19 := by
  have l0 : (dec (oct a 0)).length ≤ 4 := dec_small (by have := oct_lt a 0; omega)
  have l1 : (dec (oct a 8)).length ≤ 4 := dec_small (by have := oct_lt a 8; omega)
  have l2 : (dec (oct a 16)).length ≤ 4 := dec_small (by have := oct_lt a 16; omega)
  have l3 : (dec (oct a 24)).length ≤ 4 := dec_small (by have := oct_lt a 24; omega)
  simp only [addrS, List.length_append, List.length_singleton]
  omega
theorem c36 (p : TPfx) (hp : PfxIn p) (hv : rvalid p = true) (hb : 0 ≤ p.bits ∧ p.bits ≤ 32) : PFun Tryz.prog Gl 36 [ePfx p] fun r => r = .str (pfxS p) := by
  refine PFun.of hT Tryz.func36 rfl fun B hD => ?_
  refine pw_norm rfl ?_
  have ha : ((p.addr.toNat : Nat) : Int) = p.addr := Int.toNat_of_nonneg hp.1
  have h81 : PFun Tryz.prog Gl 81 [.int .u32 p.addr] fun r => r = .str (addrS p.addr.toNat) := by
    have := c81 (Gl := Gl) p.addr.toNat (by have := hp.2; omega)
    rw [ha] at this
    exact this
  have hl := addrS_len p.addr.toNat
  have hl2 : (dec p.bits.toNat).length ≤ 4 := dec_small (by omega)
  (refine zGo ?_)
  (refine pl_op rfl (op_fun (c53 p) rfl rfl e53 zLe rfl (fun r hr => ?_)); subst hr; refine ⟨rfl, ?_⟩; (refine zNp ?_))
  rw [hv]
  (refine zGo ?_)
  refine pw_draw [(0, true), (1, true), (4, true), (5, true), (2, false), (3, true), (6, false), (7, true), (8, true)] hmix (by decide +kernel) ?_
  (refine zDgo ?_)
  (refine po_step rfl rfl (op_fun (h81) rfl rfl e81 zLe rfl (fun r hr => ?_)); subst hr; refine ⟨rfl, zLok, ?_⟩; refine zDn ?_)
  (refine zDgo ?_)
  (refine po_val rfl rfl (v_concat rfl rfl rfl (by simp; omega)) ?_; refine zDn ?_)
  (refine zDgo ?_)
  (refine po_step rfl rfl (op_fun (c35s p.bits hb.1 (by omega)) rfl rfl e35 zLe rfl (fun r hr => ?_)); subst hr; refine ⟨rfl, zLok, ?_⟩; refine zDn ?_)
  (refine zDgo ?_)
  (refine po_val rfl rfl (v_concat rfl rfl rfl (by simp; omega)) ?_; refine zDn ?_)
  (refine zDgo ?_)
  (refine zGo ?_)
  exact ret1 _ rfl rfl rfl
/-! ### Join -/
def joinW : Nat → List Str → Str
  | _, [] => []
  | 0, w :: ws => w ++ joinW 1 ws
  | k + 1, w :: ws => [32] ++ w ++ joinW (k + 2) ws
def lineS (w : List Str) : Str := joinW 0 w ++ [10]
def textS (l : List TLine) : Str := (l.map fun x => lineS x.words).flatten
theorem joinW_pos (k j : Nat) (ws : List Str) : joinW (k + 1) ws = joinW (j + 1) ws := by
  induction ws generalizing k j with
  | nil => rfl
  | cons w ws ih => rw [joinW, joinW, ih (k + 1) (j + 1)]
end Go.Proofs.YtdehdgbdcfkpbaaGreatDoor
