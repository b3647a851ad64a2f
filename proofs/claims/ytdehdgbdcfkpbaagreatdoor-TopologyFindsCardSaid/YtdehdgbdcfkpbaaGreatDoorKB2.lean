/-
  Contracts of functions, walked over pure values.
-/
import Derived.Test.YtdehdgbdcfkpbaaGreatDoorKB1
namespace Go.Proofs.YtdehdgbdcfkpbaaGreatDoor
open Go Go.Pw
variable {Gl : Glob}
attribute [local irreducible] PW PWL OpP PCalls PWO
set_option maxHeartbeats 20000000

/-! ### source.ValidName -/
def vhead (s : Str) : Bool := ((((s == []) || decide ((s.length : Int) > 24)) || (s == [97, 110, 121])) || decide (((s.headD 0).toNat : Int) < 97)) || decide (((s.headD 0).toNat : Int) > 122)
def vbyte (c : UInt8) : Bool := !((((!(decide ((c.toNat : Int) ≥ 97) && decide ((c.toNat : Int) ≤ 122)) && !(decide ((c.toNat : Int) ≥ 48) && decide ((c.toNat : Int) ≤ 57))) && ((c.toNat : Int) != 45)) && ((c.toNat : Int) != 95)))
def vname (s : Str) : Bool := !vhead s && s.all vbyte
theorem c85 (s : Str) : PFun Tryz.prog Gl 85 [.str s] fun r => r = .bool (vname s) := by
  refine PFun.of hT Tryz.func85 rfl fun B hD => ?_
  refine pw_norm rfl ?_
  (refine zGo ?_)
  (refine pl_or 4 8 12 (decide ((s.length : Int) > 24)) rfl rfl rfl (fun hb => ?_) (fun hb => ?_) ?_; (focus ((refine zNp ?_); (refine zGo ?_); exact ⟨by (exact zLe), StLe.refl _⟩)); (focus ((refine zNp ?_); (refine zGo ?_); exact ⟨by (exact zLe), StLe.refl _⟩)); (refine zNp ?_); (refine zGo ?_))
  (refine pl_or 3 13 16 (s == [97, 110, 121]) rfl rfl rfl (fun hb => ?_) (fun hb => ?_) ?_; (focus ((refine zNp ?_); (refine zGo ?_); exact ⟨by (exact zLe), StLe.refl _⟩)); (focus ((refine zNp ?_); (refine zGo ?_); exact ⟨by (exact zLe), StLe.refl _⟩)); (refine zNp ?_); (refine zGo ?_))
  (refine pl_or 4 17 21 (decide (((s.headD 0).toNat : Int) < 97)) rfl rfl rfl (fun hb => ?_) (fun hb => ?_) ?_; (focus ((refine zNp ?_); (refine zGo ?_); exact ⟨by (exact zLe), StLe.refl _⟩)); (focus ((refine zNp ?_); (refine zGo ?_); (refine pl_on rfl rfl (op_of (v_indexs (c := s.headD 0) hT rfl rfl rfl rfl (by omega) (head_some (by rintro rfl; simp at hb))) ?_); (refine zNp ?_)); (refine zGo ?_); exact ⟨by (exact zLe), StLe.refl _⟩)); (refine zNp ?_); (refine zGo ?_))
  (refine pl_or 4 22 26 (decide (((s.headD 0).toNat : Int) > 122)) rfl rfl rfl (fun hb => ?_) (fun hb => ?_) ?_; (focus ((refine zNp ?_); (refine zGo ?_); exact ⟨by (exact zLe), StLe.refl _⟩)); (focus ((refine zNp ?_); (refine zGo ?_); (refine pl_on rfl rfl (op_of (v_indexs (c := s.headD 0) hT rfl rfl rfl rfl (by omega) (head_some (by rintro rfl; simp at hb))) ?_); (refine zNp ?_)); (refine zGo ?_); exact ⟨by (exact zLe), StLe.refl _⟩)); (refine zNp ?_); (refine zGo ?_))
  refine pw_cond rfl (fun h => ?_) (fun h => ?_)
  · (refine zGo ?_)
    refine ret1 _ rfl ?_ rfl
    have h' : vhead s = true := h
    simp [vname, h']
  have h' : vhead s = false := h
  have hl : s.length ≤ 24 := by
    have hh := h'
    simp only [vhead, Bool.or_eq_false_iff, decide_eq_false_iff_not] at hh
    omega
  (refine zGo ?_)
  refine pw_for hD (fun i : Nat => [(3, .int .i64 i)]) (fun _ => []) (fun i => i ≤ s.length ∧ ∀ (j : Nat) c, j < i → s[j]? = some c → vbyte c = true) (fun i => s.length - i) 0 ⟨by omega, by intro j c h; omega⟩ 0 rfl (fun _ => rfl) (StLe.refl _) (fun _ => rfl) (fun _ => rfl) (by (exact zLe)) ?_
  rintro i ⟨hi, hno⟩
  (refine zGo ?_)
  refine pw_cond rfl (fun h2 => ?_) (fun h2 => ?_)
  · simp only [decide_eq_true_eq] at h2
    have hlt : i < s.length := by omega
    (refine zGo ?_)
    (refine pl_op rfl (op_of (v_indexs (c := s[i]) hT rfl rfl rfl rfl (by omega) (by simp [hlt])) ?_); (refine zNp ?_))
    (refine zGo ?_)
    (refine pl_and 5 37 42 (decide ((s[i].toNat : Int) ≤ 122)) rfl rfl rfl (fun hb => ?_) (fun hb => ?_) ?_; (focus ((refine zNp ?_); (refine zGo ?_); (refine pl_on rfl rfl (op_of (v_indexs (c := s[i]) hT rfl rfl rfl rfl (by omega) (by simp [hlt])) ?_); (refine zNp ?_)); (refine zGo ?_); exact ⟨by (exact zLe), StLe.refl _⟩)); (focus ((refine zNp ?_); (refine zGo ?_); exact ⟨by (exact zLe), StLe.refl _⟩)); (refine zNp ?_); (refine zGo ?_))
    (refine pl_op rfl (op_of (v_indexs (c := s[i]) hT rfl rfl rfl rfl (by omega) (by simp [hlt])) ?_); (refine zNp ?_))
    (refine zGo ?_)
    (refine pl_and 5 47 52 (decide ((s[i].toNat : Int) ≤ 57)) rfl rfl rfl (fun hb => ?_) (fun hb => ?_) ?_; (focus ((refine zNp ?_); (refine zGo ?_); (refine pl_on rfl rfl (op_of (v_indexs (c := s[i]) hT rfl rfl rfl rfl (by omega) (by simp [hlt])) ?_); (refine zNp ?_)); (refine zGo ?_); exact ⟨by (exact zLe), StLe.refl _⟩)); (focus ((refine zNp ?_); (refine zGo ?_); exact ⟨by (exact zLe), StLe.refl _⟩)); (refine zNp ?_); (refine zGo ?_))
    (refine pl_and 3 55 58 (!(decide ((s[i].toNat : Int) ≥ 48) && decide ((s[i].toNat : Int) ≤ 57))) rfl rfl rfl (fun hb => ?_) (fun hb => ?_) ?_; (focus ((refine zNp ?_); (refine zGo ?_); exact ⟨by (exact zLe), StLe.refl _⟩)); (focus ((refine zNp ?_); (refine zGo ?_); exact ⟨by (exact zLe), StLe.refl _⟩)); (refine zNp ?_); (refine zGo ?_))
    (refine pl_and 5 59 64 ((s[i].toNat : Int) != 45) rfl rfl rfl (fun hb => ?_) (fun hb => ?_) ?_; (focus ((refine zNp ?_); (refine zGo ?_); (refine pl_on rfl rfl (op_of (v_indexs (c := s[i]) hT rfl rfl rfl rfl (by omega) (by simp [hlt])) ?_); (refine zNp ?_)); (refine zGo ?_); exact ⟨by (exact zLe), StLe.refl _⟩)); (focus ((refine zNp ?_); (refine zGo ?_); exact ⟨by (exact zLe), StLe.refl _⟩)); (refine zNp ?_); (refine zGo ?_))
    (refine pl_and 5 65 70 ((s[i].toNat : Int) != 95) rfl rfl rfl (fun hb => ?_) (fun hb => ?_) ?_; (focus ((refine zNp ?_); (refine zGo ?_); (refine pl_on rfl rfl (op_of (v_indexs (c := s[i]) hT rfl rfl rfl rfl (by omega) (by simp [hlt])) ?_); (refine zNp ?_)); (refine zGo ?_); exact ⟨by (exact zLe), StLe.refl _⟩)); (focus ((refine zNp ?_); (refine zGo ?_); exact ⟨by (exact zLe), StLe.refl _⟩)); (refine zNp ?_); (refine zGo ?_))
    refine pw_cond rfl (fun h3 => ?_) (fun h3 => ?_)
    · (refine zGo ?_)
      refine ret1 _ rfl ?_ rfl
      have : s.all vbyte = false := List.all_eq_false.2 ⟨s[i], List.getElem_mem hlt, by unfold vbyte; rw [h3]; simp⟩
      rw [vname, this, Bool.and_false]
    · (refine zGo ?_)
      refine ⟨i + 1, ⟨by omega, fun j d hj hd => ?_⟩, by omega, by (exact zLe), StLe.refl _⟩
      rcases Nat.lt_succ_iff_lt_or_eq.1 hj with hj | rfl
      · exact hno j d hj hd
      · rw [List.getElem?_eq_getElem hlt] at hd; cases hd
        unfold vbyte; rw [h3]; rfl
  · simp only [decide_eq_false_iff_not] at h2
    (refine zGo ?_)
    refine ret1 _ rfl ?_ rfl
    have : s.all vbyte = true := List.all_eq_true.2 fun c hc => by
      obtain ⟨j, hj⟩ := List.mem_iff_getElem?.1 hc
      exact hno j c (by have := (List.getElem?_eq_some_iff.1 hj).1; omega) hj
    rw [vname, this, h']; rfl
end Go.Proofs.YtdehdgbdcfkpbaaGreatDoor
