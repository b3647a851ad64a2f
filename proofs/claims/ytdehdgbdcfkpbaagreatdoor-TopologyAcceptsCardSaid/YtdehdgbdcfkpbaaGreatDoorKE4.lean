/-
  Contracts of functions, walked over pure values.
-/
import Derived.Test.YtdehdgbdcfkpbaaGreatDoorKP1
import Derived.Test.YtdehdgbdcfkpbaaGreatDoorKP3
namespace Go.Proofs.YtdehdgbdcfkpbaaGreatDoor
open Go Go.Pw
variable {Gl : Glob}
attribute [local irreducible] PW PWL OpP PCalls PWO
set_option maxHeartbeats 20000000

/-! ### the reference's Digits, Read, Number -/
theorem c134 (s : Str) (hl : Small s) : PFun Tryz.prog Gl 134 [.str s] fun r => r = .bool (digitsB s) := by
  refine PFun.of hT Tryz.func134 rfl fun B hD => ?_
  refine pw_norm rfl ?_
  rw [digitsB_eq]
  unfold Small at hl
  (refine zGo ?_)
  refine pw_for hD (fun i : Nat => [(3, .int .i64 i)]) (fun _ => []) (fun i => i ≤ s.length ∧ (s.drop i).any dbad = s.any dbad) (fun i => s.length - i) 0 ⟨Nat.zero_le _, rfl⟩ 0 rfl (fun _ => rfl) (StLe.refl _) (fun _ => rfl) (fun _ => rfl) (by (exact zLe)) ?_
  rintro i ⟨hi, hw⟩
  (refine zGo ?_)
  refine pw_cond rfl (fun h1 => ?_) (fun h1 => ?_)
  · simp only [decide_eq_true_eq] at h1
    have hlt : i < s.length := by omega
    have hg := get_getD hlt
    rw [drop_getD hlt, List.any_cons] at hw
    generalize s.getD i 0 = c at hg hw
    (refine zGo ?_)
    (refine pl_op rfl (op_of (v_indexs (c := c) hT rfl rfl rfl rfl (by omega) (hg)) ?_); (refine zNp ?_))
    (refine zGo ?_)
    (refine pl_or 5 14 19 (decide ((c.toNat : Int) > 57)) rfl rfl rfl (fun hb => ?_) (fun hb => ?_) ?_; (focus ((refine zNp ?_); (refine zGo ?_); exact ⟨by (exact zLe), StLe.refl _⟩)); (focus ((refine zNp ?_); (refine zGo ?_); (refine pl_on rfl rfl (op_of (v_indexs (c := c) hT rfl rfl rfl rfl (by omega) (hg)) ?_); (refine zNp ?_)); (refine zGo ?_); exact ⟨by (exact zLe), StLe.refl _⟩)); (refine zNp ?_); (refine zGo ?_))
    refine pw_cond rfl (fun h2 => ?_) (fun h2 => ?_)
    · have h2' : dbad c = true := h2
      rw [h2', Bool.true_or] at hw
      (refine zGo ?_)
      refine ret1 _ rfl ?_ rfl
      simp [rdig, ← hw]
    · have h2' : dbad c = false := h2
      rw [h2', Bool.false_or] at hw
      (refine zGo ?_)
      exact ⟨i + 1, ⟨hlt, hw⟩, by omega, by (exact zLe), StLe.refl _⟩
  · simp only [decide_eq_false_iff_not] at h1
    have hie : i = s.length := by omega
    rw [hie, List.drop_length, List.any_nil] at hw
    (refine zGo ?_)
    refine pl_and 9 22 31 (((s.length : Int) == 1) || (((s.headD 0).toNat : Int) != 48)) rfl rfl rfl (fun h0 => ?_) (fun h0 => ?_) ?_
    · refine pl_norm rfl ?_
      (refine zGo ?_)
      (refine pl_or 4 26 30 (((s.headD 0).toNat : Int) != 48) rfl rfl rfl (fun hb => ?_) (fun hb => ?_) ?_; (focus ((refine zNp ?_); (refine zGo ?_); exact ⟨by (exact zLe), StLe.refl _⟩)); (focus ((refine zNp ?_); (refine zGo ?_); have hne : ¬ s = [] := (by rintro rfl; simp at h0); (refine pl_on rfl rfl (op_of (v_indexs (c := s.headD 0) hT rfl rfl rfl rfl (by omega) (head_some (by assumption))) ?_); (refine zNp ?_)); (refine zGo ?_); exact ⟨by (exact zLe), StLe.refl _⟩)); (refine zNp ?_); (refine zGo ?_))
      exact ⟨by (exact zLe), StLe.refl _⟩
    · refine pl_norm rfl ?_
      (refine zGo ?_)
      exact ⟨by (exact zLe), StLe.refl _⟩
    refine pl_norm rfl ?_
    (refine zGo ?_)
    refine ret1 _ rfl ?_ rfl
    unfold rdig
    rw [← hw]
    rfl
theorem quo_wrap (a : Int) (h1 : -9223372036854775808 ≤ a) (h2 : a ≤ 9223372036854775807) : IntKind.i64.wrap (a.tdiv 10) = a.tdiv 10 := by
  by_cases h : 0 ≤ a
  · rw [tdiv10 h]; exact wrap_i64 (by omega) (by omega)
  · have : a.tdiv 10 = -((-a) / 10) := by rw [← tdiv10 (by omega : 0 ≤ -a), Int.neg_tdiv, Int.neg_neg]
    rw [this]; exact wrap_i64 (by omega) (by omega)
theorem c136 (s : Str) (most : Int) (hl : Small s) (h0 : 0 ≤ most) (hm : most ≤ 9223372036854775807) : PFun Tryz.prog Gl 136 [.str s, .int .i64 most] fun r => r = .tup [.int .i64 (rread s most).1, .bool (rread s most).2] := by
  refine PFun.of hT Tryz.func136 rfl fun B hD => ?_
  refine pw_norm rfl ?_
  unfold Small at hl
  (refine zGo ?_)
  refine pl_or 9 10 19 (decide ((s.length : Int) > 1) && (((s.headD 0).toNat : Int) == 48)) rfl rfl rfl (fun hb0 => ?_) (fun hb0 => ?_) ?_
  · refine pl_norm rfl ?_
    (refine zGo ?_)
    exact ⟨by (exact zLe), StLe.refl _⟩
  · refine pl_norm rfl ?_
    (refine zGo ?_)
    (refine pl_and 4 14 18 (((s.headD 0).toNat : Int) == 48) rfl rfl rfl (fun hb => ?_) (fun hb => ?_) ?_; (focus ((refine zNp ?_); (refine zGo ?_); (refine pl_on rfl rfl (op_of (v_indexs (c := s.headD 0) hT rfl rfl rfl rfl (by omega) (head_some (by rintro rfl; simp at hb))) ?_); (refine zNp ?_)); (refine zGo ?_); exact ⟨by (exact zLe), StLe.refl _⟩)); (focus ((refine zNp ?_); (refine zGo ?_); exact ⟨by (exact zLe), StLe.refl _⟩)); (refine zNp ?_); (refine zGo ?_))
    exact ⟨by (exact zLe), StLe.refl _⟩
  refine pl_norm rfl ?_
  (refine zGo ?_)
  refine pw_cond rfl (fun h => ?_) (fun h => ?_)
  · have h' : rhead s = true := h
    (refine zGo ?_)
    refine ret1 _ rfl ?_ rfl
    rw [rread, if_pos h']; rfl
  have h' : rhead s = false := h
  have hr : rread s most = readO (rrun most s 0) := by rw [rread, if_neg (by rw [h']; exact Bool.false_ne_true)]
  rw [hr]
  (refine zGo ?_)
  refine pw_for hD (fun a : Nat × Int => [(6, .int .i64 a.2), (7, .int .i64 a.1)]) (fun _ => []) (fun a => rrun most (s.drop a.1) a.2 = rrun most s 0 ∧ a.1 ≤ s.length ∧ 0 ≤ a.2 ∧ a.2 ≤ most) (fun a => s.length - a.1) (0, 0) ⟨rfl, Nat.zero_le _, Int.le_refl _, h0⟩ 0 rfl (fun _ => rfl) (StLe.refl _) (fun _ => rfl) (fun _ => rfl) (by (exact zLe)) ?_
  rintro ⟨i, n⟩ ⟨hw, hi, hn0, hn⟩
  dsimp only at hw hi hn0 hn ⊢
  (refine zGo ?_)
  refine pw_cond rfl (fun h1 => ?_) (fun h1 => ?_)
  · simp only [decide_eq_true_eq] at h1
    have hlt : i < s.length := by omega
    have hg := get_getD hlt
    rw [drop_getD hlt, rrun] at hw
    generalize s.getD i 0 = c at hg hw
    have hc256 := c.toNat_lt
    (refine zGo ?_)
    (refine pl_op rfl (op_of (v_indexs (c := c) hT rfl rfl rfl rfl (by omega) (hg)) ?_); (refine zNp ?_))
    (refine zGo ?_)
    (refine pl_or 5 30 35 (decide ((c.toNat : Int) > 57)) rfl rfl rfl (fun hb => ?_) (fun hb => ?_) ?_; (focus ((refine zNp ?_); (refine zGo ?_); exact ⟨by (exact zLe), StLe.refl _⟩)); (focus ((refine zNp ?_); (refine zGo ?_); (refine pl_on rfl rfl (op_of (v_indexs (c := c) hT rfl rfl rfl rfl (by omega) (hg)) ?_); (refine zNp ?_)); (refine zGo ?_); exact ⟨by (exact zLe), StLe.refl _⟩)); (refine zNp ?_); (refine zGo ?_))
    refine pl_or 11 36 47 (decide (n > (most - ((c.toNat : Int) - 48)).tdiv 10)) rfl rfl rfl (fun hb => ?_) (fun hb => ?_) ?_
    · refine pl_norm rfl ?_
      (refine zGo ?_)
      exact ⟨by (exact zLe), StLe.refl _⟩
    · refine pl_norm rfl ?_
      have hd := dbad_ok (c := c) hb
      (refine zGo ?_)
      (refine pl_on rfl rfl (op_of (v_indexs (c := c) hT rfl rfl rfl rfl (by omega) (hg)) ?_); (refine zNp ?_))
      (refine pl_on rfl rfl (op_of (v_arith rfl rfl rfl rfl (IntWalk.u8_in _ (by omega))) ?_); (refine zNp ?_))
      (refine pl_on rfl rfl (op_of (v_conv (c := (c.toNat : Int) - 48) hT rfl rfl rfl rfl (IntWalk.i64_in _ (by omega))) ?_); (refine zNp ?_))
      (refine zGo ?_)
      (refine pl_on rfl rfl (op_of (v_quo rfl rfl rfl (by decide) (quo_wrap _ (by omega) (by omega))) ?_); (refine zNp ?_))
      (refine zGo ?_)
      exact ⟨by (exact zLe), StLe.refl _⟩
    refine pl_norm rfl ?_
    (refine zGo ?_)
    refine pl_or 8 48 56 (decide (most < (c.toNat : Int) - 48)) rfl rfl rfl (fun hb => ?_) (fun hb => ?_) ?_
    · refine pl_norm rfl ?_
      (refine zGo ?_)
      exact ⟨by (exact zLe), StLe.refl _⟩
    · refine pl_norm rfl ?_
      have hd := dbad_ok (c := c) (Bool.or_eq_false_iff.1 hb).1
      (refine zGo ?_)
      (refine pl_on rfl rfl (op_of (v_indexs (c := c) hT rfl rfl rfl rfl (by omega) (hg)) ?_); (refine zNp ?_))
      (refine pl_on rfl rfl (op_of (v_arith rfl rfl rfl rfl (IntWalk.u8_in _ (by omega))) ?_); (refine zNp ?_))
      (refine pl_on rfl rfl (op_of (v_conv (c := (c.toNat : Int) - 48) hT rfl rfl rfl rfl (IntWalk.i64_in _ (by omega))) ?_); (refine zNp ?_))
      (refine zGo ?_)
      exact ⟨by (exact zLe), StLe.refl _⟩
    refine pl_norm rfl ?_
    (refine zGo ?_)
    refine pw_cond rfl (fun h2 => ?_) (fun h2 => ?_)
    · have h2' : rbad most n c = true := h2
      rw [if_pos h2'] at hw
      (refine zGo ?_)
      refine ret1 _ rfl ?_ rfl
      rw [← hw]; rfl
    · have h2' : rbad most n c = false := h2
      rw [if_neg (by rw [h2']; exact Bool.false_ne_true)] at hw
      have h3 := rbad_ok hn0 h2'
      have hd := dbad_ok h3.1
      (refine zGo ?_)
      (refine pl_op rfl (op_of (v_indexs (c := c) hT rfl rfl rfl rfl (by omega) (hg)) ?_); (refine zNp ?_))
      (refine pl_op rfl (op_of (v_arith rfl rfl rfl rfl (IntWalk.u8_in _ (by omega))) ?_); (refine zNp ?_))
      (refine pl_op rfl (op_of (v_conv (c := (c.toNat : Int) - 48) hT rfl rfl rfl rfl (IntWalk.i64_in _ (by omega))) ?_); (refine zNp ?_))
      (refine zGo ?_)
      exact ⟨(i + 1, 10 * n + ((c.toNat : Int) - 48)), ⟨hw, hlt, by show 0 ≤ 10 * n + ((c.toNat : Int) - 48); omega, h3.2⟩, by show _ - (i + 1) < _ - i; omega, by (exact zLe), StLe.refl _⟩
  · simp only [decide_eq_false_iff_not] at h1
    have hie : i = s.length := by omega
    rw [hie, List.drop_length, rrun] at hw
    (refine zGo ?_)
    refine ret1 _ rfl ?_ rfl
    rw [← hw]; rfl
theorem rread_lt (s : Str) (most : Int) (h0 : 0 ≤ most) : 0 ≤ (rread s most).1 ∧ (rread s most).1 ≤ most := by
  rw [rread_eq s most h0]
  split
  · rename_i h
    simp only [Bool.and_eq_true, decide_eq_true_eq] at h
    exact ⟨Int.natCast_nonneg _, h.2.2⟩
  · exact ⟨Int.le_refl _, h0⟩
theorem c137 (s : Str) (least most : Int) (hl : Small s) (hm : most ≤ 9223372036854775807) : PFun Tryz.prog Gl 137 [.str s, .int .i64 least, .int .i64 most] fun r => r = .tup [.int .i64 (number s least most).1, .bool (number s least most).2] := by
  refine PFun.of hT Tryz.func137 rfl fun B hD => ?_
  refine pw_norm rfl ?_
  rw [number_eq s least most hm, ← digitsB_eq]
  (refine zGo ?_)
  (refine pl_op rfl (op_fun (c134 s hl) rfl rfl e134 zLe rfl (fun r hr => ?_)); subst hr; refine ⟨rfl, ?_⟩; (refine zNp ?_))
  (refine zGo ?_)
  (refine pl_or 3 13 16 (decide (most < 0)) rfl rfl rfl (fun hb => ?_) (fun hb => ?_) ?_; (focus ((refine zNp ?_); (refine zGo ?_); exact ⟨by (exact zLe), StLe.refl _⟩)); (focus ((refine zNp ?_); (refine zGo ?_); exact ⟨by (exact zLe), StLe.refl _⟩)); (refine zNp ?_); (refine zGo ?_))
  refine pw_cond rfl (fun h => ?_) (fun h => ?_)
  · rw [if_pos h]
    (refine zGo ?_)
    exact ret1 _ rfl rfl rfl
  rw [if_neg (by rw [show (!digitsB s || decide (most < 0)) = false from h]; exact Bool.false_ne_true)]
  have hm0 : 0 ≤ most := by have := of_decide_eq_false (Bool.or_eq_false_iff.1 h).2; omega
  (refine zGo ?_)
  (refine pl_op rfl (op_fun (c136 s most hl hm0 hm) rfl rfl e136 zLe rfl (fun r hr => ?_)); subst hr; refine ⟨rfl, ?_⟩; (refine zNp ?_))
  (refine zGo ?_)
  (refine pl_or 4 25 29 (decide ((rread s most).1 < least)) rfl rfl rfl (fun hb => ?_) (fun hb => ?_) ?_; (focus ((refine zNp ?_); (refine zGo ?_); exact ⟨by (exact zLe), StLe.refl _⟩)); (focus ((refine zNp ?_); (refine zGo ?_); exact ⟨by (exact zLe), StLe.refl _⟩)); (refine zNp ?_); (refine zGo ?_))
  refine pw_cond rfl (fun h2 => ?_) (fun h2 => ?_)
  · rw [if_pos h2]
    (refine zGo ?_)
    exact ret1 _ rfl rfl rfl
  rw [if_neg (by rw [show (!(rread s most).2 || decide ((rread s most).1 < least)) = false from h2]; exact Bool.false_ne_true)]
  (refine zGo ?_)
  exact ret1 _ rfl rfl rfl
theorem c121 (s : Str) (least most : Int) (hl : Small s) (hm : most ≤ 9223372036854775807) : PFun Tryz.prog Gl 121 [.str s, .int .i64 least, .int .i64 most] fun r => r = .tup [.int .i64 (tnum s least most).1, .int .i64 (tnum s least most).2] := by
  refine PFun.of hT Tryz.func121 rfl fun B hD => ?_
  refine pw_norm rfl ?_
  unfold tnum
  (refine zGo ?_)
  (refine pl_op rfl (op_fun (c134 s hl) rfl rfl e134 zLe rfl (fun r hr => ?_)); subst hr; refine ⟨rfl, ?_⟩; (refine zNp ?_))
  (refine zGo ?_)
  refine pw_cond rfl (fun h => ?_) (fun h => ?_)
  · rw [if_pos h]
    (refine zGo ?_)
    exact ret1 _ rfl rfl rfl
  rw [if_neg (by rw [h]; exact Bool.false_ne_true)]
  (refine zGo ?_)
  (refine pl_op rfl (op_fun (c137 s least most hl hm) rfl rfl e137 zLe rfl (fun r hr => ?_)); subst hr; refine ⟨rfl, ?_⟩; (refine zNp ?_))
  (refine zGo ?_)
  refine pw_cond rfl (fun h2 => ?_) (fun h2 => ?_)
  · rw [if_pos h2]
    (refine zGo ?_)
    exact ret1 _ rfl rfl rfl
  rw [if_neg (by rw [h2]; exact Bool.false_ne_true)]
  (refine zGo ?_)
  exact ret1 _ rfl rfl rfl
end Go.Proofs.YtdehdgbdcfkpbaaGreatDoor
