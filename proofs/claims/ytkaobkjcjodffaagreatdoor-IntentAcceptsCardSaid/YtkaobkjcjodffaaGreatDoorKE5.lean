/-
 The reference's numbers, addresses, prefixes and lines as texts.
 The reference's Join.
-/
import Derived.Test.YtkaobkjcjodffaaGreatDoorKP1
import Derived.Lib.ItoaNum
import Derived.Test.YtkaobkjcjodffaaGreatDoorJPwGlob
import Derived.Test.YtkaobkjcjodffaaGreatDoorKB6
set_option maxHeartbeats 20000000
set_option maxRecDepth 100000
namespace Go.Proofs.YtkaobkjcjodffaaGreatDoor
open Go Go.Pw
section
variable {Gl : Glob}
attribute [local irreducible] PW PWL OpP PCalls PWO
def let1 (c : UInt8) : Bool := decide ((c.toNat : Int) ≥ 97) && decide ((c.toNat : Int) ≤ 122)
def dig1 (c : UInt8) : Bool := decide ((c.toNat : Int) ≥ 48) && decide ((c.toNat : Int) ≤ 57)
def oth1 (c : UInt8) : Bool := (dig1 c || ((c.toNat : Int) == 45)) || ((c.toNat : Int) == 95)
theorem vbyte_eq (c : UInt8) : vbyte c = (let1 c || oth1 c) := by
 unfold vbyte oth1
 show (!(((!(let1 c) && !(dig1 c)) && ((c.toNat : Int) != 45)) && ((c.toNat : Int) != 95))) = _
 generalize let1 c = a
 generalize dig1 c = b
 rw [bne, bne]
 generalize ((c.toNat : Int) == 45) = d
 generalize ((c.toNat : Int) == 95) = e
 cases a <;> cases b <;> cases d <;> cases e <;> rfl
def nmHead (s : Str) : Bool := ((s == []) || decide ((s.length : Int) > 24)) || (s == [97, 110, 121])
theorem vname_eq (s : Str) : vname s = (!(nmHead s) && (let1 (s.headD 0) && s.all vbyte)) := by
 unfold vname vhead
 show (!((nmHead s || decide (((s.headD 0).toNat : Int) < 97)) || decide (((s.headD 0).toNat : Int) > 122)) && _) = _
 have : (!decide (((s.headD 0).toNat : Int) < 97) && !decide (((s.headD 0).toNat : Int) > 122)) = let1 (s.headD 0) := by
  unfold let1
  rw [Bool.eq_iff_iff]
  simp only [Bool.and_eq_true, Bool.not_eq_true', decide_eq_false_iff_not, decide_eq_true_eq]
  omega
 rw [← this]
 generalize nmHead s = a
 generalize decide (((s.headD 0).toNat : Int) < 97) = b
 generalize decide (((s.headD 0).toNat : Int) > 122) = c
 cases a <;> cases b <;> cases c <;> simp
theorem c92 (s : Str) : PFun Tryz.prog Gl 75 [.str s] fun r => r = .bool (vname s) := by
 refine PFun.of hT Tryz.func75 rfl fun B hD => ?_
 refine pw_norm rfl ?_
 rw [vname_eq]
 (refine zGo ?_)
 (refine pl_or 4 8 12 (decide ((s.length : Int) > 24)) rfl rfl rfl (fun hb => ?_) (fun hb => ?_) ?_; (focus ((refine zNp ?_); (refine zGo ?_); exact ⟨by (exact zLe), StLe.refl _⟩)); (focus ((refine zNp ?_); (refine zGo ?_); exact ⟨by (exact zLe), StLe.refl _⟩)); (refine zNp ?_); (refine zGo ?_))
 (refine pl_or 3 13 16 (s == [97, 110, 121]) rfl rfl rfl (fun hb => ?_) (fun hb => ?_) ?_; (focus ((refine zNp ?_); (refine zGo ?_); exact ⟨by (exact zLe), StLe.refl _⟩)); (focus ((refine zNp ?_); (refine zGo ?_); exact ⟨by (exact zLe), StLe.refl _⟩)); (refine zNp ?_); (refine zGo ?_))
 refine pw_cond rfl (fun h => ?_) (fun h => ?_)
 ·have h' : nmHead s = true := h
  rw [h']
  (refine zGo ?_)
  exact ret1 _ rfl rfl rfl
 have h' : nmHead s = false := h
 have hh := h'
 simp only [nmHead, Bool.or_eq_false_iff, decide_eq_false_iff_not] at hh
 rw [h', Bool.not_false, Bool.true_and]
 (refine zGo ?_)
 refine pw_for hD (fun i : Nat => [(3, .int .i64 i)]) (fun _ => []) (fun i => i ≤ s.length ∧ (s.drop i).all vbyte = s.all vbyte ∧ (0 < i → let1 (s.headD 0) = true)) (fun i => s.length - i) 0 ⟨Nat.zero_le _, rfl, by intro h; omega⟩ 0 rfl (fun _ => rfl) (StLe.refl _) (fun _ => rfl) (fun _ => rfl) (by (exact zLe)) ?_
 rintro i ⟨hi, hw, hd⟩
 (refine zGo ?_)
 refine pw_cond rfl (fun h1 => ?_) (fun h1 => ?_)
 ·simp only [decide_eq_true_eq] at h1
  have hlt : i < s.length := by omega
  have hg := get_getD hlt
  have h00 : i = 0 → s.getD i 0 = s.headD 0 := by rintro rfl; cases s <;> rfl
  rw [drop_getD hlt, List.all_cons] at hw
  generalize s.getD i 0 = c at hg hw h00
  (refine zGo ?_)
  (refine pl_op rfl (op_of (v_indexs (c := c) hT rfl rfl rfl rfl (by omega) (hg)) ?_); (refine zNp ?_))
  (refine zGo ?_)
  (refine pl_and 5 27 32 (decide ((c.toNat : Int) ≤ 122)) rfl rfl rfl (fun hb => ?_) (fun hb => ?_) ?_; (focus ((refine zNp ?_); (refine zGo ?_); (refine pl_on rfl rfl (op_of (v_indexs (c := c) hT rfl rfl rfl rfl (by omega) (hg)) ?_); (refine zNp ?_)); (refine zGo ?_); exact ⟨by (exact zLe), StLe.refl _⟩)); (focus ((refine zNp ?_); (refine zGo ?_); exact ⟨by (exact zLe), StLe.refl _⟩)); (refine zNp ?_); (refine zGo ?_))
  (refine pl_op rfl (op_of (v_indexs (c := c) hT rfl rfl rfl rfl (by omega) (hg)) ?_); (refine zNp ?_))
  (refine zGo ?_)
  (refine pl_and 5 37 42 (decide ((c.toNat : Int) ≤ 57)) rfl rfl rfl (fun hb => ?_) (fun hb => ?_) ?_; (focus ((refine zNp ?_); (refine zGo ?_); (refine pl_on rfl rfl (op_of (v_indexs (c := c) hT rfl rfl rfl rfl (by omega) (hg)) ?_); (refine zNp ?_)); (refine zGo ?_); exact ⟨by (exact zLe), StLe.refl _⟩)); (focus ((refine zNp ?_); (refine zGo ?_); exact ⟨by (exact zLe), StLe.refl _⟩)); (refine zNp ?_); (refine zGo ?_))
  (refine pl_or 5 43 48 ((c.toNat : Int) == 45) rfl rfl rfl (fun hb => ?_) (fun hb => ?_) ?_; (focus ((refine zNp ?_); (refine zGo ?_); exact ⟨by (exact zLe), StLe.refl _⟩)); (focus ((refine zNp ?_); (refine zGo ?_); (refine pl_on rfl rfl (op_of (v_indexs (c := c) hT rfl rfl rfl rfl (by omega) (hg)) ?_); (refine zNp ?_)); (refine zGo ?_); exact ⟨by (exact zLe), StLe.refl _⟩)); (refine zNp ?_); (refine zGo ?_))
  (refine pl_or 5 49 54 ((c.toNat : Int) == 95) rfl rfl rfl (fun hb => ?_) (fun hb => ?_) ?_; (focus ((refine zNp ?_); (refine zGo ?_); exact ⟨by (exact zLe), StLe.refl _⟩)); (focus ((refine zNp ?_); (refine zGo ?_); (refine pl_on rfl rfl (op_of (v_indexs (c := c) hT rfl rfl rfl rfl (by omega) (hg)) ?_); (refine zNp ?_)); (refine zGo ?_); exact ⟨by (exact zLe), StLe.refl _⟩)); (refine zNp ?_); (refine zGo ?_))
  refine pl_and 7 57 64 (!oth1 c || ((i : Int) == 0)) rfl rfl rfl (fun hb => ?_) (fun hb => ?_) ?_
  ·refine pl_norm rfl ?_
   (refine zGo ?_)
   (refine pl_or 3 60 63 ((i : Int) == 0) rfl rfl rfl (fun hb => ?_) (fun hb => ?_) ?_; (focus ((refine zNp ?_); (refine zGo ?_); exact ⟨by (exact zLe), StLe.refl _⟩)); (focus ((refine zNp ?_); (refine zGo ?_); exact ⟨by (exact zLe), StLe.refl _⟩)); (refine zNp ?_); (refine zGo ?_))
   exact ⟨by (exact zLe), StLe.refl _⟩
  ·refine pl_norm rfl ?_
   (refine zGo ?_)
   exact ⟨by (exact zLe), StLe.refl _⟩
  refine pl_norm rfl ?_
  (refine zGo ?_)
  refine pw_cond rfl (fun h2 => ?_) (fun h2 => ?_)
  ·have h2' : (!let1 c && (!oth1 c || ((i : Int) == 0))) = true := h2
   (refine zGo ?_)
   refine ret1 _ rfl ?_ rfl
   refine congrArg PV.bool ?_
   simp only [Bool.and_eq_true, Bool.not_eq_true', Bool.or_eq_true] at h2'
   rcases h2'.2 with h3 | h3
   ·rw [← hw, vbyte_eq, h2'.1, h3]; simp
   ·have hi0 : i = 0 := by simpa using h3
    rw [← h00 hi0, h2'.1]; rfl
  ·have h2' : (!let1 c && (!oth1 c || ((i : Int) == 0))) = false := h2
   (refine zGo ?_)
   refine ⟨i + 1, ⟨hlt, ?_, fun _ => ?_⟩, by omega, by (exact zLe), StLe.refl _⟩
   ·rw [← hw, vbyte_eq]
    cases h3 : let1 c with
    | true => rfl
    | false =>
     rw [h3] at h2'
     simp only [Bool.not_false, Bool.true_and, Bool.or_eq_false_iff, Bool.not_eq_false'] at h2'
     rw [h2'.1]; rfl
   ·by_cases hi0 : i = 0
    ·rw [← h00 hi0]
     cases h3 : let1 c with
     | true => rfl
     | false => rw [h3, hi0] at h2'; simp at h2'
    ·exact hd (by omega)
 ·simp only [decide_eq_false_iff_not] at h1
  have hie : i = s.length := by omega
  have hpos : 0 < s.length := by
   cases s with
   | nil => exact absurd hh.1.1 (by decide)
   | cons _ _ => simp
  rw [hie, List.drop_length, List.all_nil] at hw
  (refine zGo ?_)
  refine ret1 _ rfl ?_ rfl
  rw [← hw, hd (by omega)]; rfl
abbrev dec (n : Nat) : Str := Lib.decDigits n
theorem dec_lt {n : Nat} (h : n < 10) : dec n = [UInt8.ofNat (48 + n)] := Lib.decDigits_one h
theorem dec_ge {n : Nat} (h : ¬ n < 10) : dec n = dec (n / 10) ++ [UInt8.ofNat (48 + n % 10)] := by rw [dec, Lib.decDigits, dif_neg h]
theorem dec_len : ∀ (k n : Nat), n < 10 ^ (k + 1) → (dec n).length ≤ k + 1
 | 0, n, h => by rw [dec_lt (by omega)]; simp
 | k + 1, n, h => by
  by_cases h1 : n < 10
  ·rw [dec_lt h1]; simp
  ·rw [dec_ge h1, List.length_append, List.length_singleton]
   have h2 : (10 : Nat) ^ (k + 1 + 1) = 10 ^ (k + 1) * 10 := Nat.pow_succ ..
   have := dec_len k (n / 10) (by omega)
   omega
theorem dig_nat (d : Nat) (h : d < 10) : (48 + (d : Int)) = ((UInt8.ofNat (48 + d)).toNat : Int) := by
 rw [UInt8.toNat_ofNat', Nat.mod_eq_of_lt (by omega)]; omega
theorem dig_wrap (d : Nat) (h : d < 10) : IntKind.u8.wrap (48 + (d : Int)) = ((UInt8.ofNat (48 + d)).toNat : Int) := by
 rw [IntWalk.u8_in _ (by omega), dig_nat d h]
theorem c35 : ∀ (k n : Nat), k ≤ 17 → n < 10 ^ (k + 1) → PFun Tryz.prog Gl 35 [.int .i64 n] fun r => r = .str (dec n) := by
 intro k
 induction k with
 | zero =>
  intro n _ hn
  have h10 : n < 10 := by omega
  refine PFun.of hT Tryz.func35 rfl fun B hD => ?_
  refine pw_norm rfl ?_
  rw [dec_lt h10]
  (refine zGo ?_)
  refine pw_cond rfl (fun h => ?_) (fun h => ?_)
  ·(refine zGo ?_)
   (refine pl_op rfl (op_of (v_conv (c := ((UInt8.ofNat (48 + n)).toNat : Int)) hT rfl rfl rfl rfl (dig_wrap n h10)) ?_); (refine zNp ?_))
   (refine zGo ?_)
   (refine pl_op rfl (op_of (v_bstr (bs := [UInt8.ofNat (48 + n)]) hT rfl rfl rfl rfl rfl) ?_); (refine zNp ?_))
   (refine zGo ?_)
   exact ret1 _ rfl rfl rfl
  ·simp only [decide_eq_false_iff_not] at h; omega
 | succ k ih =>
  intro n hk hn
  have hp : (10 : Nat) ^ (k + 1 + 1) = 10 ^ (k + 1) * 10 := Nat.pow_succ ..
  have hp2 : (10 : Nat) ^ (k + 1 + 1) ≤ 10 ^ 18 := Nat.pow_le_pow_right (by omega) (by omega)
  refine PFun.of hT Tryz.func35 rfl fun B hD => ?_
  refine pw_norm rfl ?_
  (refine zGo ?_)
  refine pw_cond rfl (fun h => ?_) (fun h => ?_)
  ·have h10 : n < 10 := by simp only [decide_eq_true_eq] at h; omega
   rw [dec_lt h10]
   (refine zGo ?_)
   (refine pl_op rfl (op_of (v_conv (c := ((UInt8.ofNat (48 + n)).toNat : Int)) hT rfl rfl rfl rfl (dig_wrap n h10)) ?_); (refine zNp ?_))
   (refine zGo ?_)
   (refine pl_op rfl (op_of (v_bstr (bs := [UInt8.ofNat (48 + n)]) hT rfl rfl rfl rfl rfl) ?_); (refine zNp ?_))
   (refine zGo ?_)
   exact ret1 _ rfl rfl rfl
  ·have h10 : ¬ n < 10 := by simp only [decide_eq_false_iff_not] at h; omega
   rw [dec_ge h10]
   have hl := dec_len k (n / 10) (by omega)
   obtain ⟨q, hq⟩ : ∃ q, q = n % 10 := ⟨_, rfl⟩
   rw [← hq]
   (refine zGo ?_)
   refine zDr [[0,1,3,4,5,6,7,8],[2],[9,10]] ?_
   (refine zDgo ?_)
   (refine po_val rfl rfl (v_quo (c := ((n / 10 : Nat) : Int)) rfl rfl rfl (by decide) (by rw [Int.tdiv_eq_ediv_of_nonneg (by omega), IntWalk.i64_in _ (by omega)]; omega)) ?_; refine zDn ?_)
   (refine zDgo ?_)
   (refine po_val rfl rfl (v_rem (c := (q : Int)) rfl rfl rfl (by decide) (by rw [Int.tmod_eq_emod_of_nonneg (by omega)]; omega)) ?_; refine zDn ?_)
   (refine zDgo ?_)
   (refine po_val rfl rfl (v_conv (c := ((UInt8.ofNat (48 + q)).toNat : Int)) hT rfl rfl rfl rfl (dig_wrap q (by omega))) ?_; refine zDn ?_)
   (refine zDgo ?_)
   (refine po_make rfl rfl (fun st' K hK => op_litF hT rfl rfl rfl rfl rfl (by decide) rfl rfl rfl rfl hK) ?_; refine zDn ?_)
   (refine po_val rfl rfl (v_bstr (bs := [UInt8.ofNat (48 + q)]) hT rfl rfl rfl rfl rfl) ?_; refine zDn ?_)
   (refine zDgo ?_)
   (refine po_step rfl rfl (op_fun (ih (n / 10) (by omega) (by omega)) rfl rfl e35 zLe rfl (fun r hr => ?_)); subst hr; refine ⟨rfl, zLok, ?_⟩; refine zDn ?_)
   (refine zDgo ?_)
   (refine po_val rfl rfl (v_concat rfl rfl rfl (by simp; omega)) ?_; refine zDn ?_)
   (refine zDgo ?_)
   (refine zGo ?_)
   exact ret1 _ rfl rfl rfl
theorem c35s (n : Int) (h0 : 0 ≤ n) (h1 : n < 10000) : PFun Tryz.prog Gl 35 [.int .i64 n] fun r => r = .str (dec n.toNat) := by
 have := c35 (Gl := Gl) 3 n.toNat (by omega) (by omega)
 rw [Int.toNat_of_nonneg h0] at this
 exact this
theorem dec_small {n : Nat} (h : n < 10000) : (dec n).length ≤ 4 := dec_len 3 n (by omega)
def oct (a : Nat) (k : Nat) : Nat := a / 2 ^ k % 256
def addrS (a : Nat) : Str := dec (oct a 24) ++ [46] ++ dec (oct a 16) ++ [46] ++ dec (oct a 8) ++ [46] ++ dec (oct a 0)
theorem oct_lt (a k : Nat) : oct a k < 256 := Nat.mod_lt _ (by omega)
theorem fdiv_nat (a k : Nat) : (a : Int).fdiv (2 ^ k) = ((a / 2 ^ k : Nat) : Int) := by
 rw [Int.fdiv_eq_ediv_of_nonneg _ (by have := Nat.two_pow_pos k; exact_mod_cast Nat.zero_le _)]
 norm_cast
theorem u8c (n : Nat) (h : n < 256) : PFun Tryz.prog Gl 35 [.int .i64 (n : Int)] fun r => r = .str (dec n) := c35 2 n (by omega) (by omega)
theorem c81 (a : Nat) (ha : a < 4294967296) : PFun Tryz.prog Gl 34 [.int .u32 (a : Int)] fun r => r = .str (addrS a) := by
 refine PFun.of hT Tryz.func34 rfl fun B hD => ?_
 refine pw_norm rfl ?_
 have l0 : (dec (oct a 0)).length ≤ 4 := dec_small (by have := oct_lt a 0; omega)
 have l1 : (dec (oct a 8)).length ≤ 4 := dec_small (by have := oct_lt a 8; omega)
 have l2 : (dec (oct a 16)).length ≤ 4 := dec_small (by have := oct_lt a 16; omega)
 have l3 : (dec (oct a 24)).length ≤ 4 := dec_small (by have := oct_lt a 24; omega)
 have e24 : ((a / 2 ^ 24 : Nat) : Int) = (oct a 24 : Int) := by unfold oct; omega
 have r16 : ((a / 2 ^ 16 : Nat) : Int).tmod 256 = (oct a 16 : Int) := by rw [Int.tmod_eq_emod_of_nonneg (by omega)]; unfold oct; omega
 have r8 : ((a / 2 ^ 8 : Nat) : Int).tmod 256 = (oct a 8 : Int) := by rw [Int.tmod_eq_emod_of_nonneg (by omega)]; unfold oct; omega
 have r0 : (a : Int).tmod 256 = (oct a 0 : Int) := by rw [Int.tmod_eq_emod_of_nonneg (by omega)]; unfold oct; omega
 have hw : ∀ k, IntKind.i64.wrap (oct a k : Int) = (oct a k : Int) := fun k => by have := oct_lt a k; rw [IntWalk.i64_in _ (by omega)]
 (refine zGo ?_)
 (refine pl_op rfl (op_of (v_shr (c := (oct a 24 : Int)) rfl rfl rfl (by decide) (by rw [← e24]; exact fdiv_nat a 24)) ?_); (refine zNp ?_))
 (refine zGo ?_)
 (refine pl_op rfl (op_of (v_conv (c := (oct a 24 : Int)) hT rfl rfl rfl rfl (hw 24)) ?_); (refine zNp ?_))
 (refine zGo ?_)
 (refine pl_op rfl (op_fun (u8c (oct a 24) (oct_lt a 24)) rfl rfl e35 zLe rfl (fun r hr => ?_)); subst hr; refine ⟨rfl, ?_⟩; (refine zNp ?_))
 (refine zGo ?_)
 (refine pl_op rfl (op_of (v_concat rfl rfl rfl (by simp; omega)) ?_); (refine zNp ?_))
 (refine zGo ?_)
 (refine pl_op rfl (op_of (v_shr (c := ((a / 2 ^ 16 : Nat) : Int)) rfl rfl rfl (by decide) (fdiv_nat a 16)) ?_); (refine zNp ?_))
 (refine zGo ?_)
 (refine pl_op rfl (op_of (v_rem (c := (oct a 16 : Int)) rfl rfl rfl (by decide) r16) ?_); (refine zNp ?_))
 (refine zGo ?_)
 (refine pl_op rfl (op_of (v_conv (c := (oct a 16 : Int)) hT rfl rfl rfl rfl (hw 16)) ?_); (refine zNp ?_))
 (refine zGo ?_)
 (refine pl_op rfl (op_fun (u8c (oct a 16) (oct_lt a 16)) rfl rfl e35 zLe rfl (fun r hr => ?_)); subst hr; refine ⟨rfl, ?_⟩; (refine zNp ?_))
 (refine zGo ?_)
 (refine pl_op rfl (op_of (v_concat rfl rfl rfl (by simp; omega)) ?_); (refine zNp ?_))
 (refine zGo ?_)
 (refine pl_op rfl (op_of (v_concat rfl rfl rfl (by simp; omega)) ?_); (refine zNp ?_))
 (refine zGo ?_)
 (refine pl_op rfl (op_of (v_shr (c := ((a / 2 ^ 8 : Nat) : Int)) rfl rfl rfl (by decide) (fdiv_nat a 8)) ?_); (refine zNp ?_))
 (refine zGo ?_)
 (refine pl_op rfl (op_of (v_rem (c := (oct a 8 : Int)) rfl rfl rfl (by decide) r8) ?_); (refine zNp ?_))
 (refine zGo ?_)
 (refine pl_op rfl (op_of (v_conv (c := (oct a 8 : Int)) hT rfl rfl rfl rfl (hw 8)) ?_); (refine zNp ?_))
 (refine zGo ?_)
 (refine pl_op rfl (op_fun (u8c (oct a 8) (oct_lt a 8)) rfl rfl e35 zLe rfl (fun r hr => ?_)); subst hr; refine ⟨rfl, ?_⟩; (refine zNp ?_))
 (refine zGo ?_)
 (refine pl_op rfl (op_of (v_concat rfl rfl rfl (by simp; omega)) ?_); (refine zNp ?_))
 (refine zGo ?_)
 (refine pl_op rfl (op_of (v_concat rfl rfl rfl (by simp; omega)) ?_); (refine zNp ?_))
 (refine zGo ?_)
 (refine pl_op rfl (op_of (v_rem (c := (oct a 0 : Int)) rfl rfl rfl (by decide) r0) ?_); (refine zNp ?_))
 (refine zGo ?_)
 (refine pl_op rfl (op_of (v_conv (c := (oct a 0 : Int)) hT rfl rfl rfl rfl (hw 0)) ?_); (refine zNp ?_))
 (refine zGo ?_)
 (refine pl_op rfl (op_fun (u8c (oct a 0) (oct_lt a 0)) rfl rfl e35 zLe rfl (fun r hr => ?_)); subst hr; refine ⟨rfl, ?_⟩; (refine zNp ?_))
 (refine zGo ?_)
 (refine pl_op rfl (op_of (v_concat rfl rfl rfl (by simp; omega)) ?_); (refine zNp ?_))
 (refine zGo ?_)
 refine ret1 _ rfl ?_ rfl
 rw [addrS]
def pfxS (p : TPfx) : Str := addrS p.addr.toNat ++ [47] ++ dec p.bits.toNat
theorem addrS_len (a : Nat) : (addrS a).length ≤ 19 := by
 have l0 : (dec (oct a 0)).length ≤ 4 := dec_small (by have := oct_lt a 0; omega)
 have l1 : (dec (oct a 8)).length ≤ 4 := dec_small (by have := oct_lt a 8; omega)
 have l2 : (dec (oct a 16)).length ≤ 4 := dec_small (by have := oct_lt a 16; omega)
 have l3 : (dec (oct a 24)).length ≤ 4 := dec_small (by have := oct_lt a 24; omega)
 simp only [addrS, List.length_append, List.length_singleton]
 omega
theorem c36 (p : TPfx) (hp : PfxIn p) (hv : rvalid p = true) (hb : 0 ≤ p.bits ∧ p.bits ≤ 32) : PFun Tryz.prog Gl 81 [ePfx p] fun r => r = .str (pfxS p) := by
 refine PFun.of hT Tryz.func81 rfl fun B hD => ?_
 refine pw_norm rfl ?_
 have ha : ((p.addr.toNat : Nat) : Int) = p.addr := Int.toNat_of_nonneg hp.1
 have h81 : PFun Tryz.prog Gl 34 [.int .u32 p.addr] fun r => r = .str (addrS p.addr.toNat) := by
  have := c81 (Gl := Gl) p.addr.toNat (by have := hp.2; omega)
  rw [ha] at this
  exact this
 have hl := addrS_len p.addr.toNat
 have hl2 : (dec p.bits.toNat).length ≤ 4 := dec_small (by omega)
 (refine zGo ?_)
 (refine pl_op rfl (op_fun (c53 p) rfl rfl e89 zLe rfl (fun r hr => ?_)); subst hr; refine ⟨rfl, ?_⟩; (refine zNp ?_))
 rw [hv]
 (refine zGo ?_)
 refine zDr [[0,1,4,5],[2],[3],[6],[7,8]] ?_
 (refine zDgo ?_)
 (refine po_step rfl rfl (op_fun (h81) rfl rfl e34 zLe rfl (fun r hr => ?_)); subst hr; refine ⟨rfl, zLok, ?_⟩; refine zDn ?_)
 (refine zDgo ?_)
 (refine po_val rfl rfl (v_concat rfl rfl rfl (by simp; omega)) ?_; refine zDn ?_)
 (refine zDgo ?_)
 (refine po_step rfl rfl (op_fun (c35s p.bits hb.1 (by omega)) rfl rfl e35 zLe rfl (fun r hr => ?_)); subst hr; refine ⟨rfl, zLok, ?_⟩; refine zDn ?_)
 (refine zDgo ?_)
 (refine po_val rfl rfl (v_concat rfl rfl rfl (by simp; omega)) ?_; refine zDn ?_)
 (refine zDgo ?_)
 (refine zGo ?_)
 exact ret1 _ rfl rfl rfl
def joinW : Nat → List Str → Str
 | _, [] => []
 | 0, w :: ws => w ++ joinW 1 ws
 | k + 1, w :: ws => [32] ++ w ++ joinW (k + 2) ws
def lineS (w : List Str) : Str := joinW 0 w ++ [10]
def textS (l : List TLine) : Str := (l.map fun x => lineS x.words).flatten
theorem joinW_at (w : List Str) (k : Nat) (h : k < w.length) : joinW k (w.drop k) = (if k = 0 then [] else [32]) ++ w.getD k [] ++ joinW (k + 1) (w.drop (k + 1)) := by
 rw [List.drop_eq_getElem_cons h, List.getD, List.getElem?_eq_getElem h]
 cases k with
 | zero => simp [joinW]
 | succ k => simp [joinW]
theorem c27 (l : List TLine) (hl : Small l) (hw : ∀ x ∈ l, Small x.words) (hb : Small (textS l)) : PFun Tryz.prog Gl 21 [.sl (l.map eLine)] fun r => r = .str (textS l) := by
 refine PFun.of hT Tryz.func21 rfl fun B hD => ?_
 refine pw_norm rfl ?_
 unfold Small at hl hb
 (refine zGo ?_)
 refine pw_for hD (fun a : Nat × Str => [(3, .str a.2), (4, .int .i64 a.1)]) (fun _ => []) (fun a => a.1 ≤ l.length ∧ a.2 ++ textS (l.drop a.1) = textS l) (fun a => l.length - a.1) (0, []) ⟨Nat.zero_le _, rfl⟩ 0 rfl (fun _ => rfl) (StLe.refl _) (fun _ => rfl) (fun _ => rfl) (by (exact zLe)) ?_
 rintro ⟨i, s⟩ ⟨hi, hs⟩
 dsimp only at hi hs ⊢
 (refine zGo ?_)
 refine pw_cond rfl (fun h => ?_) (fun h => ?_)
 ·simp only [decide_eq_true_eq, List.length_map] at h
  have hlt : i < l.length := by omega
  have hp : (l.map eLine)[i]? = some (eLine l[i]) := by simp [hlt]
  have hwi := hw _ (List.getElem_mem hlt)
  have hd : textS (l.drop i) = lineS (l[i]).words ++ textS (l.drop (i + 1)) := by unfold textS; rw [List.drop_eq_getElem_cons hlt, List.map_cons, List.flatten_cons]
  rw [hd, lineS] at hs
  generalize l[i] = x at hp hwi hs
  unfold Small at hwi
  (refine zGo ?_)
  refine pw_for hD (fun a : Nat × Str => [(3, .str a.2), (5, .int .i64 a.1)]) (fun _ => []) (fun a => a.1 ≤ x.words.length ∧ a.2 ++ (joinW a.1 (x.words.drop a.1) ++ [10] ++ textS (l.drop (i + 1))) = textS l) (fun a => x.words.length - a.1) (0, s) ⟨Nat.zero_le _, hs⟩ 0 rfl (fun _ => rfl) (StLe.refl _) (fun _ => rfl) (fun _ => rfl) (by (exact zLe)) ?_
  rintro ⟨k, u⟩ ⟨hk, hu⟩
  dsimp only at hk hu ⊢
  have hul : u.length ≤ (textS l).length := by rw [← hu]; simp
  (refine zGo ?_)
  (refine pl_op rfl (op_of (v_index (p := eLine x) hT rfl rfl rfl rfl (by omega) (hp) rfl) ?_); (refine zNp ?_))
  (refine zGo ?_)
  refine pw_cond rfl (fun h1 => ?_) (fun h1 => ?_)
  ·simp only [decide_eq_true_eq, List.length_map] at h1
   have hlk : k < x.words.length := by omega
   rw [joinW_at x.words k hlk] at hu
   have hg := str_at x.words k hlk
   generalize x.words.getD k [] = wd at hu hg
   have hul2 : u.length + wd.length + 1 ≤ (textS l).length := by rw [← hu]; simp; omega
   (refine zGo ?_)
   refine pw_cond rfl (fun h2 => ?_) (fun h2 => ?_)
   ·have hk0 : ¬ k = 0 := by simp at h2; omega
    rw [if_neg hk0] at hu
    (refine zGo ?_)
    (refine pl_op rfl (op_of (v_concat rfl rfl rfl (by (try simp); omega)) ?_); (refine zNp ?_))
    (refine zGo ?_)
    (refine pl_op rfl (op_of (v_index (p := eLine x) hT rfl rfl rfl rfl (by omega) (hp) rfl) ?_); (refine zNp ?_))
    (refine zGo ?_)
    (refine pl_op rfl (op_of (v_index (p := .str wd) hT rfl rfl rfl rfl (by omega) (hg) rfl) ?_); (refine zNp ?_))
    (refine zGo ?_)
    (refine pl_op rfl (op_of (v_concat rfl rfl rfl (by (try simp); omega)) ?_); (refine zNp ?_))
    (refine zGo ?_)
    refine ⟨(k + 1, u ++ [32] ++ wd), ⟨hlk, ?_⟩, by show _ - (k + 1) < _ - k; omega, by (exact zLe), StLe.refl _⟩
    rw [← hu]; simp
   ·have hk0 : k = 0 := by simp at h2; omega
    rw [if_pos hk0] at hu
    (refine zGo ?_)
    (refine pl_op rfl (op_of (v_index (p := eLine x) hT rfl rfl rfl rfl (by omega) (hp) rfl) ?_); (refine zNp ?_))
    (refine zGo ?_)
    (refine pl_op rfl (op_of (v_index (p := .str wd) hT rfl rfl rfl rfl (by omega) (hg) rfl) ?_); (refine zNp ?_))
    (refine zGo ?_)
    (refine pl_op rfl (op_of (v_concat rfl rfl rfl (by (try simp); omega)) ?_); (refine zNp ?_))
    (refine zGo ?_)
    refine ⟨(k + 1, u ++ wd), ⟨hlk, ?_⟩, by show _ - (k + 1) < _ - k; omega, by (exact zLe), StLe.refl _⟩
    rw [← hu]; simp
  ·simp only [decide_eq_false_iff_not, List.length_map] at h1
   have hke : k = x.words.length := by omega
   rw [hke, List.drop_length, show joinW x.words.length [] = [] from by cases x.words.length <;> rfl] at hu
   have hul3 : u.length + 1 ≤ (textS l).length := by
    have := congrArg List.length hu
    simp only [List.length_append, List.length_cons, List.length_nil] at this
    omega
   (refine zGo ?_)
   (refine pl_op rfl (op_of (v_concat rfl rfl rfl (by show _ + 1 ≤ _; omega)) ?_); (refine zNp ?_))
   (refine zGo ?_)
   refine ⟨(i + 1, u ++ [10]), ⟨hlt, ?_⟩, by show _ - (i + 1) < _ - i; omega, by (exact zLe), StLe.refl _⟩
   rw [← hu]; simp
 ·simp only [decide_eq_false_iff_not, List.length_map] at h
  have hie : i = l.length := by omega
  have hs' : s = textS l := by rw [← hs, hie, List.drop_length]; simp [textS]
  subst hs'
  (refine zGo ?_)
  exact ret1 _ rfl rfl rfl
instance (s sep : Str) : ConF Tryz.prog Gl 147 [.str s, .str sep] (GM Gl ∧ s.length < 4294967281) (.tup [.str (Lib.cut s sep).1, .str (Lib.cut s sep).2.1, .bool (Lib.cut s sep).2.2]) := ⟨e147, fun h => c128 h.1 s sep h.2⟩
instance (s : Str) : ConF Tryz.prog Gl 68 [.str s] True (.bool (vname s)) := ⟨e68, fun _ => c85 s⟩
instance (s : Str) : ConF Tryz.prog Gl 75 [.str s] True (.bool (vname s)) := ⟨e75, fun _ => c92 s⟩
instance (s : Str) : ConF Tryz.prog Gl 51 [.str s, .int .u8 45] (s.length < 4294967281) (.sl ((parts 45 s).map .str)) := ⟨e51, fun h => c58 s 45 (by unfold Small; omega)⟩
instance (n : Int) : ConF Tryz.prog Gl 35 [.int .i64 n] (0 ≤ n ∧ n < 10000) (.str (dec n.toNat)) := ⟨e35, fun h => c35s n h.1 h.2⟩
def dayNames : List Str := [[109, 111, 110], [116, 117, 101], [119, 101, 100], [116, 104, 117], [102, 114, 105], [115, 97, 116], [115, 117, 110]]
def pair2 (s : Str) : Int := if s.length = 2 ∧ 48 ≤ (s.getD 0 0).toNat ∧ (s.getD 0 0).toNat ≤ 57 ∧ 48 ≤ (s.getD 1 0).toNat ∧ (s.getD 1 0).toNat ≤ 57 then 10 * ((s.getD 0 0).toNat - 48) + ((s.getD 1 0).toNat - 48) else -1
theorem c_pair (s : Str) : PFun Tryz.prog Gl 203 [.str s] fun r => r = .int .i64 (pair2 s) := by
 (refine PFun.of hT Tryz.func203 rfl fun B hD => ?_; refine pw_norm rfl ?_)
 (repeat' (first | (refine zDr [[0,1,2,3,4,5,6,7,8,9,10]] ?_; refine zDn ?_) | refine zS ?_ | refine zD ?_ | refine po_both ?_ ?_ | refine pwt_both ?_ ?_ | refine pwt_fork ?_ | refine pwt_lin ?_ | (refine po_test rfl rfl rfl rfl zB ?_ ?_ <;> intro hb <;> first | exact zX | refine zDn ?_) | refine zq5 ?_ | refine zq6 ?_ | (refine zT ?_ ?_ <;> intro h <;> first | exact zX | refine zNq ?_)))
 all_goals (refine ret1 _ rfl ?_ rfl; refine iE ?_; unfold pair2; split <;> omega)
instance (s : Str) : ConF Tryz.prog Gl 203 [.str s] True (.int .i64 (pair2 s)) := ⟨e203, fun _ => c_pair s⟩
theorem c_two (s : Str) : PFun Tryz.prog Gl 193 [.str s] fun r => r = .int .i64 (pair2 s) := by
 (refine PFun.of hT Tryz.func193 rfl fun B hD => ?_; refine pw_norm rfl ?_)
 (repeat' (first | (refine zDr [[0,1,2,3,4,5,6,7,8,9,10]] ?_; refine zDn ?_) | refine zS ?_ | refine zD ?_ | refine po_both ?_ ?_ | refine pwt_both ?_ ?_ | refine pwt_fork ?_ | refine pwt_lin ?_ | (refine po_test rfl rfl rfl rfl zB ?_ ?_ <;> intro hb <;> first | exact zX | refine zDn ?_) | refine zq5 ?_ | refine zq6 ?_ | (refine zT ?_ ?_ <;> intro h <;> first | exact zX | refine zNq ?_)))
 all_goals (refine ret1 _ rfl ?_ rfl; refine iE ?_; unfold pair2; split <;> omega)
instance (s : Str) : ConF Tryz.prog Gl 193 [.str s] True (.int .i64 (pair2 s)) := ⟨e193, fun _ => c_two s⟩
theorem pair2_range (s : Str) : -1 ≤ pair2 s ∧ pair2 s ≤ 99 := by unfold pair2; split <;> omega
def hm (l r : Str) (f : Bool) : Int := if f = true ∧ 0 ≤ pair2 l ∧ pair2 l ≤ 23 ∧ 0 ≤ pair2 r ∧ pair2 r ≤ 59 then 60 * pair2 l + pair2 r else -1
def clock (s : Str) : Int := if s = [50, 52, 58, 48, 48] then 1440 else hm (Lib.cut s [58]).1 (Lib.cut s [58]).2.1 (Lib.cut s [58]).2.2
theorem clock_range (s : Str) : -1 ≤ clock s ∧ clock s ≤ 1440 := by unfold clock hm; split <;> (try split) <;> omega
theorem c_clock (hG : GM Gl) (s : Str) (hs : s.length < 4294967281) : PFun Tryz.prog Gl 173 [.str s] fun r => r = .int .i64 (clock s) := by
 (refine PFun.of hT Tryz.func173 rfl fun B hD => ?_; refine pw_norm rfl ?_)
 have hl := pair2_range (Lib.cut s [58]).1
 have hr := pair2_range (Lib.cut s [58]).2.1
 (repeat' (first | refine zS ?_ | refine zq5 ?_ | refine zq6 ?_ | (refine zT ?_ ?_ <;> intro h <;> first | exact zX | refine zNq ?_)))
 all_goals first | (refine ret1 _ rfl ?_ rfl; refine iE ?_; unfold clock hm; simp only [*, if_true, if_false]; try (split <;> simp_all <;> omega)) | (refine pl_op rfl ?_; refine op_conG rfl rfl rfl (by exact inferInstance) (by repeat' (first | exact trivial | assumption | apply And.intro | omega)) (by rfl) (by rfl) ?_)
instance (s : Str) : ConF Tryz.prog Gl 173 [.str s] (GM Gl ∧ s.length < 4294967281) (.int .i64 (clock s)) := ⟨e173, fun h => c_clock h.1 s h.2⟩
theorem c_index1 (L : List Str) (v : Str) (hl : Small L) : PFun Tryz.prog Gl 202 [.sl (L.map .str), .str v] fun r => r = .int .i64 (firstAt (v == ·) L) := by
 (refine PFun.of hT Tryz.func202 rfl fun B hD => ?_; refine pw_norm rfl ?_)
 unfold Small at hl
 (repeat' (first | refine zS ?_ | (refine zT ?_ ?_ <;> intro h <;> first | exact zX | refine zNq ?_)))
 refine pw_for hD (fun i : Nat => [(8, .int .i64 i)]) (fun _ => []) (fun i => i ≤ L.length ∧ ∀ (j : Nat) d, j < i → L[j]? = some d → (v == d) = false) (fun i => L.length - i) 0 ⟨by omega, by intro j c h; omega⟩ 0 rfl (fun _ => rfl) (by (exact zLes)) (fun _ => rfl) (fun _ => rfl) (by (exact zLe)) ?_
 rintro i ⟨hi, hno⟩
 (repeat' (first | refine zS ?_ | (refine zT ?_ ?_ <;> intro h <;> first | exact zX | refine zNq ?_)))
 ·have hlt : i < L.length := by omega
  refine ret1 _ rfl ?_ rfl
  rw [firstAt_hit hlt (by rename_i h; rw [h, List.getD, List.getElem?_eq_getElem hlt]; simp) hno]
 ·have hlt : i < L.length := by omega
  refine ⟨i + 1, ⟨by omega, fun j d hj hd => ?_⟩, by omega, by (exact zLe), by (exact zLes)⟩
  rcases Nat.lt_succ_iff_lt_or_eq.1 hj with hj | rfl
  ·exact hno j d hj hd
  ·rename_i h; simp only [List.getD, hd, Option.getD_some] at h; simpa using h
 ·refine ret1 _ rfl ?_ rfl
  rw [firstAt_miss fun j x hj => hno j x (by have := (List.getElem?_eq_some_iff.1 hj).1; omega) hj]
instance (L : List Str) (v : Str) : ConF Tryz.prog Gl 202 [.sl (L.map .str), .str v] (Small L) (.int .i64 (firstAt (v == ·) L)) := ⟨e202, fun h => c_index1 L v h⟩
def dayIx (s : Str) : Int := firstAt (s == ·) dayNames
theorem firstAt_range {α : Type} (p : α → Bool) (l : List α) : -1 ≤ firstAt p l ∧ firstAt p l < l.length := by
 unfold firstAt
 split
 ·rename_i i h
  rw [List.findIdx?_eq_some_iff_getElem] at h
  obtain ⟨h, _⟩ := h
  omega
 ·omega
theorem dayIx_range (s : Str) : -1 ≤ dayIx s ∧ dayIx s ≤ 6 := by
 have := firstAt_range (s == ·) dayNames
 have h7 : dayNames.length = 7 := rfl
 unfold dayIx; omega
def GD (Gl : Glob) : Prop := GRow Gl 0 (dayNames.map .str)
theorem c_dayIndex (hD' : GD Gl) (s : Str) : PFun Tryz.prog Gl 172 [.str s] fun r => r = .int .i64 (dayIx s) := by
 (refine PFun.of hT Tryz.func172 rfl fun B hD => ?_; refine pw_norm rfl ?_)
 (repeat' (first | refine zS ?_ | (refine zT ?_ ?_ <;> intro h <;> first | exact zX | refine zNq ?_)))
 (refine pl_op rfl (op_of (v_gslice hT rfl rfl rfl rfl hD' rfl (by decide) (by decide)) ?_); (refine zNp ?_))
 have hs : Small dayNames := by unfold Small; decide
 (repeat' (first | refine zS ?_ | (refine zT ?_ ?_ <;> intro h <;> first | exact zX | refine zNq ?_)))
 exact ret1 _ rfl rfl rfl
instance (s : Str) : ConF Tryz.prog Gl 172 [.str s] (GD Gl) (.int .i64 (dayIx s)) := ⟨e172, fun h => c_dayIndex h s⟩
theorem c_rdays : PFun Tryz.prog Gl 84 [] fun r => r = .sl (dayNames.map .str) := by
 (refine PFun.of hT Tryz.func84 rfl fun B hD => ?_; refine pw_norm rfl ?_)
 (repeat' (first | refine zS ?_ | (refine zT ?_ ?_ <;> intro h <;> first | exact zX | refine zNq ?_)))
 exact ret1 _ rfl rfl rfl
instance : ConF Tryz.prog Gl 84 [] True (.sl (dayNames.map .str)) := ⟨e84, fun _ => c_rdays⟩
theorem c_rday (s : Str) : PFun Tryz.prog Gl 159 [.str s] fun r => r = .int .i64 (dayIx s) := by
 (refine PFun.of hT Tryz.func159 rfl fun B hD => ?_; refine pw_norm rfl ?_)
 (repeat' (first | refine zS ?_ | (refine zT ?_ ?_ <;> intro h <;> first | exact zX | refine zNq ?_)))
 refine pw_for hD (fun i : Nat => [(4, .int .i64 i)]) (fun _ => []) (fun i => i ≤ 7 ∧ ∀ (j : Nat) d, j < i → dayNames[j]? = some d → (s == d) = false) (fun i => 7 - i) 0 ⟨by omega, by intro j c h; omega⟩ 0 rfl (fun _ => rfl) (by (exact zLes)) (fun _ => rfl) (fun _ => rfl) (by (exact zLe)) ?_
 rintro i ⟨hi, hno⟩
 have h7 : dayNames.length = 7 := rfl
 (repeat' (first | refine zS ?_ | (refine zT ?_ ?_ <;> intro h <;> first | exact zX | refine zNq ?_)))
 ·have hlt : i < dayNames.length := by omega
  refine ret1 _ rfl ?_ rfl
  rename_i h
  rw [dayIx, firstAt_hit hlt (by rw [← h, List.getD, List.getElem?_eq_getElem hlt]; simp) hno]
 ·have hlt : i < dayNames.length := by omega
  refine ⟨i + 1, ⟨by omega, fun j d hj hd => ?_⟩, by omega, by (exact zLe), by (exact zLes)⟩
  rcases Nat.lt_succ_iff_lt_or_eq.1 hj with hj | rfl
  ·exact hno j d hj hd
  ·rename_i h; simp only [List.getD, hd, Option.getD_some] at h; exact beq_eq_false_iff_ne.2 (fun e => h e.symm)
 ·refine ret1 _ rfl ?_ rfl
  rw [dayIx, firstAt_miss fun j x hj => hno j x (by have := (List.getElem?_eq_some_iff.1 hj).1; omega) hj]
instance (s : Str) : ConF Tryz.prog Gl 159 [.str s] True (.int .i64 (dayIx s)) := ⟨e159, fun _ => c_rday s⟩

end
end Go.Proofs.YtkaobkjcjodffaaGreatDoor