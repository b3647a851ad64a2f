/-
  Contracts of functions, walked over pure values.
-/
import Derived.Test.YtdehdgbdcfkpbaaGreatDoorKB7
import Derived.Test.YtdehdgbdcfkpbaaGreatDoorKA2
namespace Go.Proofs.YtdehdgbdcfkpbaaGreatDoor
open Go Go.Pw
variable {Gl : Glob}
attribute [local irreducible] PW PWL OpP PCalls PWO
set_option maxHeartbeats 20000000

/-! ### prefix.Parse -/
def pphead (l r : Str) (f : Bool) : Bool := ((((!f || !(addr l).2) || ((r.length : Int) == 0)) || decide ((r.length : Int) > 2)) || (((r.length : Int) == 2) && (((r.headD 0).toNat : Int) == 48)))
def pfxP2 (l r : Str) (f : Bool) : TPfx × Bool :=
  if pphead l r f then (⟨0, 0⟩, false) else if r.any dbad then (⟨0, 0⟩, false) else if !pvalid ⟨(addr l).1, (dval r : Int)⟩ then (⟨0, 0⟩, false) else (⟨(addr l).1, (dval r : Int)⟩, true)
def pfxParse (s : Str) : TPfx × Bool := pfxP2 (Lib.cut s [47]).1 (Lib.cut s [47]).2.1 (Lib.cut s [47]).2.2
theorem cut_len (s sep : Str) : (Lib.cut s sep).1.length ≤ s.length ∧ (Lib.cut s sep).2.1.length ≤ s.length := by
  unfold Lib.cut
  split <;> simp
  omega
theorem c129' (s : Str) (hl : Small s) : PFun Tryz.prog Gl 129 [.str s] fun r => r = .tup [.int .u32 (addr s).1, .bool (addr s).2] := (c129 s hl).mono fun _ h => h
theorem c104 (hG : GM Gl) (s : Str) (hl : s.length < 4294967281) : PFun Tryz.prog Gl 104 [.str s] fun r => r = .tup [ePfx (pfxParse s).1, .bool (pfxParse s).2] := by
  refine PFun.of hT Tryz.func104 rfl fun B hD => ?_
  refine pw_norm rfl ?_
  have hcl := cut_len s [47]
  have hpp : pfxParse s = pfxP2 (Lib.cut s [47]).1 (Lib.cut s [47]).2.1 (Lib.cut s [47]).2.2 := rfl
  rw [hpp]
  clear hpp
  (refine zGo ?_)
  (refine pl_op rfl (op_fun (c128 hG s [47] hl) rfl rfl e128 zLe rfl (fun r hr => ?_)); subst hr; refine ⟨rfl, ?_⟩; (refine zNp ?_))
  generalize hc : Lib.cut s [47] = c at hcl ⊢
  obtain ⟨l, r, f⟩ := c
  clear hc
  dsimp only at hcl ⊢
  (refine zGo ?_)
  (refine pl_op rfl (op_fun (c129' l (by unfold Small; omega)) rfl rfl e129 zLe rfl (fun r hr => ?_)); subst hr; refine ⟨rfl, ?_⟩; (refine zNp ?_))
  (refine zGo ?_)
  (refine pl_or 3 25 28 (!(addr l).2) rfl rfl rfl (fun hb => ?_) (fun hb => ?_) ?_; (focus ((refine zNp ?_); (refine zGo ?_); exact ⟨by (exact zLe), StLe.refl _⟩)); (focus ((refine zNp ?_); (refine zGo ?_); exact ⟨by (exact zLe), StLe.refl _⟩)); (refine zNp ?_); (refine zGo ?_))
  (refine pl_or 4 29 33 ((r.length : Int) == 0) rfl rfl rfl (fun hb => ?_) (fun hb => ?_) ?_; (focus ((refine zNp ?_); (refine zGo ?_); exact ⟨by (exact zLe), StLe.refl _⟩)); (focus ((refine zNp ?_); (refine zGo ?_); exact ⟨by (exact zLe), StLe.refl _⟩)); (refine zNp ?_); (refine zGo ?_))
  (refine pl_or 4 34 38 (decide ((r.length : Int) > 2)) rfl rfl rfl (fun hb => ?_) (fun hb => ?_) ?_; (focus ((refine zNp ?_); (refine zGo ?_); exact ⟨by (exact zLe), StLe.refl _⟩)); (focus ((refine zNp ?_); (refine zGo ?_); exact ⟨by (exact zLe), StLe.refl _⟩)); (refine zNp ?_); (refine zGo ?_))
  refine pl_or 9 39 48 (((r.length : Int) == 2) && (((r.headD 0).toNat : Int) == 48)) rfl rfl rfl (fun hb => ?_) (fun hb => ?_) ?_
  · refine pl_norm rfl ?_
    (refine zGo ?_)
    exact ⟨by (exact zLe), StLe.refl _⟩
  · refine pl_norm rfl ?_
    (refine zGo ?_)
    (refine pl_and 4 43 47 (((r.headD 0).toNat : Int) == 48) rfl rfl rfl (fun hb => ?_) (fun hb => ?_) ?_; (focus ((refine zNp ?_); (refine zGo ?_); (refine pl_on rfl rfl (op_of (v_indexs (c := r.headD 0) hT rfl rfl rfl rfl (by omega) (head_some (by rintro rfl; simp at hb))) ?_); (refine zNp ?_)); (refine zGo ?_); exact ⟨by (exact zLe), StLe.refl _⟩)); (focus ((refine zNp ?_); (refine zGo ?_); exact ⟨by (exact zLe), StLe.refl _⟩)); (refine zNp ?_); (refine zGo ?_))
    exact ⟨by (exact zLe), StLe.refl _⟩
  refine pl_norm rfl ?_
  (refine zGo ?_)
  refine pw_cond rfl (fun h => ?_) (fun h => ?_)
  · (refine zGo ?_)
    refine ret1 _ rfl ?_ rfl
    have h' : pphead l r f = true := h
    simp only [pfxP2, h', if_true]
    rfl
  have h' : pphead l r f = false := h
  have hh := h'
  simp only [pphead, Bool.or_eq_false_iff, decide_eq_false_iff_not] at hh
  (refine zGo ?_)
  have hr2 : r.length ≤ 2 := by omega
  refine pw_for hD (fun i : Nat => [(9, .int .i64 (dval (r.take i) : Int)), (10, .int .i64 i)]) (fun _ => [.box [.int .u32 0, .int .i64 0]]) (fun i => i ≤ r.length ∧ ∀ (j : Nat) c, j < i → r[j]? = some c → dbad c = false) (fun i => r.length - i) 0 ⟨by omega, by intro j c h; omega⟩ 1 rfl (fun _ => rfl) (StLe.refl _) (fun _ => rfl) (fun _ => rfl) (by (exact zLe)) ?_
  rintro i ⟨hi, hno⟩
  (refine zGo ?_)
  refine pw_cond rfl (fun h2 => ?_) (fun h2 => ?_)
  · simp only [decide_eq_true_eq] at h2
    have hlt : i < r.length := by omega
    (refine zGo ?_)
    (refine pl_op rfl (op_of (v_indexs (c := r[i]) hT rfl rfl rfl rfl (by omega) (by simp [hlt])) ?_); (refine zNp ?_))
    (refine zGo ?_)
    (refine pl_or 5 60 65 (decide ((r[i].toNat : Int) > 57)) rfl rfl rfl (fun hb => ?_) (fun hb => ?_) ?_; (focus ((refine zNp ?_); (refine zGo ?_); exact ⟨by (exact zLe), StLe.refl _⟩)); (focus ((refine zNp ?_); (refine zGo ?_); (refine pl_on rfl rfl (op_of (v_indexs (c := r[i]) hT rfl rfl rfl rfl (by omega) (by simp [hlt])) ?_); (refine zNp ?_)); (refine zGo ?_); exact ⟨by (exact zLe), StLe.refl _⟩)); (refine zNp ?_); (refine zGo ?_))
    refine pw_cond rfl (fun h3 => ?_) (fun h3 => ?_)
    · (refine zGo ?_)
      refine ret1 _ rfl ?_ rfl
      have : r.any dbad = true := List.any_eq_true.2 ⟨r[i], List.getElem_mem hlt, h3⟩
      simp only [pfxP2, h', this, if_true, Bool.false_eq_true, if_false]
      rfl
    · have h3' := h3
      simp only [Bool.or_eq_false_iff, decide_eq_false_iff_not] at h3'
      have hv : dval (r.take i) < 10 ^ 2 := by
        have := dval_lt (r.take i) (fun c hc => by
          obtain ⟨j, hj⟩ := List.mem_iff_getElem?.1 hc
          rw [List.getElem?_take] at hj
          split at hj
          · exact hno j c (by assumption) hj
          · cases hj)
        have h4 : (r.take i).length ≤ 2 := by simp; omega
        exact Nat.lt_of_lt_of_le this (Nat.pow_le_pow_right (by omega) h4)
      (refine zGo ?_)
      (refine pl_op rfl (op_of (v_indexs (c := r[i]) hT rfl rfl rfl rfl (by omega) (by simp [hlt])) ?_); (refine zNp ?_))
      (refine pl_op rfl (op_of (v_arith rfl rfl rfl rfl (IntWalk.u8_in _ (by omega))) ?_); (refine zNp ?_))
      (refine pl_op rfl (op_of (v_conv hT rfl rfl rfl rfl (IntWalk.i64_in _ (by omega))) ?_); (refine zNp ?_))
      (refine zGo ?_)
      have hs : (dval (r.take (i + 1)) : Int) = 10 * (dval (r.take i) : Int) + ((r[i].toNat : Int) - 48) := by
        rw [List.take_succ_eq_append_getElem hlt, dval_snoc]; omega
      refine ⟨i + 1, ⟨by omega, fun j d hj hd => ?_⟩, by omega, ?_, by (exact zLes)⟩
      · rcases Nat.lt_succ_iff_lt_or_eq.1 hj with hj | rfl
        · exact hno j d hj hd
        · rw [List.getElem?_eq_getElem hlt] at hd; cases hd; exact h3
      · simp only [hs]
        (exact zLe)
  · simp only [decide_eq_false_iff_not] at h2
    have hie : i = r.length := by omega
    subst hie
    have hany : r.any dbad = false := List.any_eq_false.2 fun c hc => by
      obtain ⟨j, hj⟩ := List.mem_iff_getElem?.1 hc
      simp [hno j c (by have := (List.getElem?_eq_some_iff.1 hj).1; omega) hj]
    rw [List.take_length]
    (refine zGo ?_)
    (refine pl_op rfl (op_fun (c45 ⟨(addr l).1, (dval r : Int)⟩) rfl rfl e45 zLe rfl (fun r hr => ?_)); subst hr; refine ⟨rfl, ?_⟩; (refine zNp ?_))
    (refine zGo ?_)
    refine pw_cond rfl (fun h3 => ?_) (fun h3 => ?_)
    · (refine zGo ?_)
      refine ret1 _ rfl ?_ rfl
      simp only [pfxP2, h', hany, h3, if_true, Bool.false_eq_true, if_false]
      rfl
    · (refine zGo ?_)
      refine ret1 _ rfl ?_ rfl
      simp only [pfxP2, h', hany, h3, Bool.false_eq_true, if_false]
      rfl
end Go.Proofs.YtdehdgbdcfkpbaaGreatDoor
