/-
  Contracts of functions, walked over pure values.
-/
import Derived.Test.YtdehdgbdcfkpbaaGreatDoorKLib
namespace Go.Proofs.YtdehdgbdcfkpbaaGreatDoor
open Go Go.Pw
variable {Gl : Glob}
attribute [local irreducible] PW PWL OpP PCalls PWO

theorem head_some {s : Str} (h : ¬ s = []) : s[0]? = some (s.headD 0) := by cases s with | nil => exact (h rfl).elim | cons a l => rfl
/-! ### source.printable -/
def pbyte (c : UInt8) : Bool := !((c.toNat : Int) != 9 && (decide ((c.toNat : Int) < 32) || decide ((c.toNat : Int) > 126)))
theorem c97 (s : Str) (hl : Small s) : PFun Tryz.prog Gl 97 [.str s] fun r => r = .bool (s.all pbyte) := by
  refine PFun.of hT Tryz.func97 rfl fun B hD => ?_
  refine pw_norm rfl ?_
  unfold Small at hl
  (refine zGo ?_)
  refine pw_for hD (fun i : Nat => [(3, .int .i64 i)]) (fun _ => []) (fun i => i ≤ s.length ∧ ∀ (j : Nat) c, j < i → s[j]? = some c → pbyte c = true) (fun i => s.length - i) 0 ⟨by omega, by intro j c h; omega⟩ 0 rfl (fun _ => rfl) (StLe.refl _) (fun _ => rfl) (fun _ => rfl) (by (exact zLe)) ?_
  rintro i ⟨hi, hno⟩
  (refine zGo ?_)
  refine pw_cond rfl (fun h => ?_) (fun h => ?_)
  · simp only [decide_eq_true_eq] at h
    have hlt : i < s.length := by omega
    (refine zGo ?_)
    (refine pl_op rfl (op_of (v_indexs (c := s[i]) hT rfl rfl rfl rfl (by omega) (by simp [hlt])) ?_); (refine zNp ?_))
    (refine zGo ?_)
    refine pl_and 11 14 25 (decide ((s[i].toNat : Int) < 32) || decide ((s[i].toNat : Int) > 126)) rfl rfl rfl (fun _ => ?_) (fun _ => ?_) ?_
    · refine pl_norm rfl ?_
      (refine zGo ?_)
      (refine pl_on rfl rfl (op_of (v_indexs (c := s[i]) hT rfl rfl rfl rfl (by omega) (by simp [hlt])) ?_); (refine zNp ?_))
      (refine zGo ?_)
      refine pl_or 5 19 24 (decide ((s[i].toNat : Int) > 126)) rfl rfl rfl (fun _ => ?_) (fun _ => ?_) ?_
      · refine pl_norm rfl ?_
        (refine zGo ?_)
        exact ⟨by (exact zLe), StLe.refl _⟩
      · refine pl_norm rfl ?_
        (refine zGo ?_)
        (refine pl_on rfl rfl (op_of (v_indexs (c := s[i]) hT rfl rfl rfl rfl (by omega) (by simp [hlt])) ?_); (refine zNp ?_))
        (refine zGo ?_)
        exact ⟨by (exact zLe), StLe.refl _⟩
      refine pl_norm rfl ?_
      (refine zGo ?_)
      exact ⟨by (exact zLe), StLe.refl _⟩
    · refine pl_norm rfl ?_
      (refine zGo ?_)
      exact ⟨by (exact zLe), StLe.refl _⟩
    refine pl_norm rfl ?_
    (refine zGo ?_)
    refine pw_cond rfl (fun h2 => ?_) (fun h2 => ?_)
    · (refine zGo ?_)
      refine ret1 _ rfl ?_ rfl
      have : s.all pbyte = false := List.all_eq_false.2 ⟨s[i], List.getElem_mem hlt, by simp only [pbyte, h2]; simp⟩
      rw [this]
    · (refine zGo ?_)
      refine ⟨i + 1, ⟨by omega, fun j d hj hd => ?_⟩, by omega, by (exact zLe), StLe.refl _⟩
      rcases Nat.lt_succ_iff_lt_or_eq.1 hj with hj | rfl
      · exact hno j d hj hd
      · rw [List.getElem?_eq_getElem hlt] at hd; cases hd
        simp only [pbyte, h2]; rfl
  · simp only [decide_eq_false_iff_not] at h
    (refine zGo ?_)
    refine ret1 _ rfl ?_ rfl
    have : s.all pbyte = true := List.all_eq_true.2 fun c hc => by
      obtain ⟨j, hj⟩ := List.mem_iff_getElem?.1 hc
      exact hno j c (by have := (List.getElem?_eq_some_iff.1 hj).1; omega) hj
    rw [this]
end Go.Proofs.YtdehdgbdcfkpbaaGreatDoor
