/-
  Contracts of functions, walked over pure values.
-/
import Derived.Test.YtdehdgbdcfkpbaaGreatDoorKEnc
namespace Go.Proofs.YtdehdgbdcfkpbaaGreatDoor
open Go Go.Pw
variable {Gl : Glob}
attribute [local irreducible] PW PWL OpP PCalls

/-- nsgref11.Device -/
theorem c66 (t : Topo) (name : Str) (hl : Small t.devs) : PFun Tryz.prog Gl 66 [eTopo t, .str name] fun r => r = .int .i64 (firstAt (fun d => d.name == name) t.devs) := by
  refine PFun.of hT Tryz.func66 rfl fun B hD => ?_
  refine pw_norm rfl ?_
  (refine zGo ?_)
  refine pw_for hD (fun i : Nat => [(5, .int .i64 i)]) (fun _ => [.box (eTopo t).cells]) (fun i => i ≤ t.devs.length ∧ ∀ (j : Nat) d, j < i → t.devs[j]? = some d → (d.name == name) = false) (fun i => t.devs.length - i) 0 ⟨by omega, by intro j d h; omega⟩ 1 rfl (fun _ => rfl) (StLe.refl _) (fun _ => rfl) (fun _ => rfl) (by (exact zLe)) ?_
  rintro i ⟨hi, hno⟩
  unfold Small at hl
  (refine zGo ?_)
  refine pw_cond rfl (fun h => ?_) (fun h => ?_)
  · simp only [decide_eq_true_eq, List.length_map] at h
    have hlt : i < t.devs.length := by omega
    (refine zGo ?_)
    (refine pl_op rfl (op_of (v_index (p := eDev t.devs[i]) hT rfl rfl rfl rfl (by omega) (by simp [hlt]) rfl) ?_); (refine zNp ?_))
    (refine zGo ?_)
    refine pw_cond rfl (fun h2 => ?_) (fun h2 => ?_)
    · (refine zGo ?_)
      refine ret1 _ rfl ?_ rfl
      rw [firstAt_hit hlt h2 hno]
    · (refine zGo ?_)
      (refine zGo ?_)
      refine ⟨i + 1, ⟨by omega, fun j d hj hd => ?_⟩, by omega, by (exact zLe), StLe.refl _⟩
      rcases Nat.lt_succ_iff_lt_or_eq.1 hj with hj | rfl
      · exact hno j d hj hd
      · rw [List.getElem?_eq_getElem hlt] at hd; cases hd; exact h2
  · simp only [decide_eq_false_iff_not, List.length_map] at h
    (refine zGo ?_)
    refine ret1 _ rfl ?_ rfl
    rw [firstAt_miss fun j x hj => hno j x (by have := (List.getElem?_eq_some_iff.1 hj).1; omega) hj]
end Go.Proofs.YtdehdgbdcfkpbaaGreatDoor
