/-
 Contracts of functions, walked over pure values.
-/
import Derived.Test.YtkaobkjcjodffaaGreatDoorTK6
import Derived.Test.YtkaobkjcjodffaaGreatDoorSPwBox
import Derived.Test.YtkaobkjcjodffaaGreatDoorSPwApX
set_option maxHeartbeats 20000000
set_option maxRecDepth 100000
namespace Go.Proofs.YtkaobkjcjodffaaGreatDoor
open Go Go.Pw
variable {Gl : Glob}
attribute [local irreducible] PW PWL OpP PCalls PWO PWT bothT
theorem c_contains (l : List TRng) (v : Int) (hl : l.length < 4294967296) : PFun Tryz.prog Gl 158 [.sl (l.map eRng), .int .u32 v] fun r => r = .bool (memB l v) := by
 (refine PFun.of hT Tryz.func158 rfl fun B hD => ?_; refine pw_norm rfl ?_)
 (repeat' (first | refine zS ?_ | refine zq5 ?_ | refine zq6 ?_ | (refine zT ?_ ?_ <;> intro h <;> first | exact zX | refine zNq ?_)))
 refine pw_for hD (fun i : Nat => [(5, .int .i64 i)]) (fun _ => []) (fun i => i ≤ l.length ∧ memB l v = memB (l.drop i) v) (fun i => l.length - i) 0 ⟨Nat.zero_le _, rfl⟩ 0 rfl (fun _ => rfl) zLes (fun _ => rfl) (fun _ => rfl) zLe ?_
 rintro i ⟨hi, hm⟩
 have hst : i < l.length → memB (l.drop i) v = ((decide ((l.getD i default).lo ≤ v) && decide (v ≤ (l.getD i default).hi)) || memB (l.drop (i + 1)) v) := fun h => by
  rw [List.drop_eq_getElem_cons h, List.getD, List.getElem?_eq_getElem h]; rfl
 (repeat' (first | refine zS ?_ | refine zq5 ?_ | refine zq6 ?_ | (refine zT ?_ ?_ <;> intro h <;> first | exact zX | refine zNq ?_)))
 ·rw [hm, hst (by omega), decide_eq_true h.1, decide_eq_true h.2]
  exact ret2 _ rfl rfl rfl
 ·refine ⟨i + 1, ⟨by omega, ?_⟩, by omega, zLe, zLes⟩
  rw [hm, hst (by omega)]
  have : (decide ((l.getD i default).lo ≤ v) && decide (v ≤ (l.getD i default).hi)) = false := by
   rw [Bool.eq_false_iff, ne_eq, Bool.and_eq_true, decide_eq_true_eq, decide_eq_true_eq]; exact h
  rw [this, Bool.false_or]
 ·rw [hm, List.drop_eq_nil_of_le (by omega)]
  exact ret2 _ rfl rfl rfl
instance (l : List TRng) (v : Int) : ConF Tryz.prog Gl 158 [.sl (l.map eRng), .int .u32 v] (l.length < 4294967296) (.bool (memB l v)) := ⟨e158, fun h => c_contains l v h⟩
theorem c_rvalid (l : List TRng) (top : Int) (hl : l.length < 4294967296) (hin : ∀ r ∈ l, RIn r) : PFun Tryz.prog Gl 125 [.sl (l.map eRng), .int .u32 top] fun r => r = .bool (ivalid l top) := by
 (refine PFun.of hT Tryz.func125 rfl fun B hD => ?_; refine pw_norm rfl ?_)
 (repeat' (first | refine zS ?_ | refine zq5 ?_ | refine zq6 ?_ | (refine zT ?_ ?_ <;> intro h <;> first | exact zX | refine zNq ?_)))
 refine pw_for hD (fun i : Nat => [(5, .int .i64 i)]) (fun _ => []) (fun i => i ≤ l.length ∧ ∀ j, j < i → chk top l j) (fun i => l.length - i) 0 ⟨Nat.zero_le _, fun j h => by omega⟩ 0 rfl (fun _ => rfl) zLes (fun _ => rfl) (fun _ => rfl) zLe ?_
 rintro i ⟨hi, hc⟩
 have hx : ∀ k, RIn (l.getD k default) := fun k => by
  rw [List.getD]
  cases e : l[k]? with
  | none => exact ⟨by decide, by decide⟩
  | some x => exact hin x (List.mem_of_getElem? e)
 have hx0 := hx i
 have hx1 := hx (i - 1)
 unfold RIn at hx0 hx1
 (repeat' (first | (refine zDr [[0,1,2,3,4,5,6,7,8,9,10,11,12,13,14,15,16,17,18,19,20,21,22,23,24,25,26,27,28,29,30,31,32,33,34,35,36,37,38,39,40]] ?_; refine zDn ?_) | refine zS ?_ | refine zD ?_ | refine po_both ?_ ?_ | refine pwt_both ?_ ?_ | refine pwt_fork ?_ | refine pwt_lin ?_ | (refine po_test rfl rfl rfl rfl zB ?_ ?_ <;> intro hb <;> first | exact zX | refine zDn ?_) | refine zq5 ?_ | refine zq6 ?_ | (refine zT ?_ ?_ <;> intro h <;> first | exact zX | refine zNq ?_)))
 ·have : ivalid l top = false := by unfold ivalid; rw [decide_eq_false_iff_not]; intro hh; have := hh i (by omega); unfold chk at this; omega
  rw [this]; exact ret2 _ rfl rfl rfl
 ·have : ivalid l top = false := by unfold ivalid; rw [decide_eq_false_iff_not]; intro hh; have := hh i (by omega); unfold chk at this; omega
  rw [this]; exact ret2 _ rfl rfl rfl
 ·have : ivalid l top = false := by unfold ivalid; rw [decide_eq_false_iff_not]; intro hh; have := hh i (by omega); unfold chk at this; omega
  rw [this]; exact ret2 _ rfl rfl rfl
 ·refine ⟨i + 1, ⟨by omega, fun j hj => ?_⟩, by omega, zLe, zLes⟩
  rcases Nat.lt_succ_iff_lt_or_eq.1 hj with hj | rfl
  ·exact hc j hj
  ·unfold chk; omega
 ·refine ⟨i + 1, ⟨by omega, fun j hj => ?_⟩, by omega, zLe, zLes⟩
  rcases Nat.lt_succ_iff_lt_or_eq.1 hj with hj | rfl
  ·exact hc j hj
  ·unfold chk; omega
 ·have : ivalid l top = true := by unfold ivalid; rw [decide_eq_true_eq]; exact fun j hj => hc j (by omega)
  rw [this]; exact ret2 _ rfl rfl rfl
instance (l : List TRng) (top : Int) : ConF Tryz.prog Gl 125 [.sl (l.map eRng), .int .u32 top] (l.length < 4294967296 ∧ ∀ r ∈ l, RIn r) (.bool (ivalid l top)) := ⟨e125, fun h => c_rvalid l top h.1 h.2⟩
abbrev eU64 (v : Int) : PV := .int .u64 v
theorem c_insert (l : List Int) (v top : Int) (hl : l.length < 4294967296) (_hv : 0 ≤ v ∧ v < 4294967297) (ht : 0 ≤ top ∧ top < 4294967296) : PFun Tryz.prog Gl 192 [.sl (l.map eU64), .int .u64 v, .int .u32 top] fun r => r = .sl ((ins l v top).map eU64) := by
 (refine PFun.of hT Tryz.func192 rfl fun B hD => ?_; refine pw_norm rfl ?_)
 unfold ins
 (repeat' (first | refine zS ?_ | refine zq5 ?_ | refine zq6 ?_ | (refine zT ?_ ?_ <;> intro h <;> first | exact zX | refine zNq ?_)))
 ·rw [if_pos h]
  exact ret2 _ rfl rfl rfl
 rw [if_neg h]
 refine pw_for hD (fun i : Nat => [(7, .int .i64 i)]) (fun _ => []) (fun i => i ≤ l.length ∧ ∀ j, j < i → l.getD j 0 < v) (fun i => l.length - i) 0 ⟨Nat.zero_le _, fun j h => by omega⟩ 0 rfl (fun _ => rfl) zLes (fun _ => rfl) (fun _ => rfl) zLe ?_
 rintro i ⟨hi, hc⟩
 (repeat' (first | refine zS ?_ | refine zq5 ?_ | refine zq6 ?_ | (refine zT ?_ ?_ <;> intro h <;> first | exact zX | refine zNq ?_)))
 ·refine ⟨i + 1, ⟨by omega, fun j hj => ?_⟩, by omega, zLe, zLes⟩
  rcases Nat.lt_succ_iff_lt_or_eq.1 hj with hj | rfl
  ·exact hc j hj
  ·exact h.2
 ·rename_i h1
  rw [ins1_at l v i hi hc (fun hh q => h1 ⟨by omega, q⟩), if_pos ⟨by omega, h.2⟩]
  exact ret2 _ rfl rfl rfl
 ·rename_i h1
  rw [ins1_at l v i hi hc (fun hh q => h1 ⟨by omega, q⟩), if_neg (by rintro ⟨q1, q2⟩; exact h ⟨by omega, q2⟩)]
  have hl1 : (l.take i).length = i := by rw [List.length_take]; omega
  have hl2 : (l.drop i).length = l.length - i := List.length_drop ..
  refine zDr [[1,2,3,5,6,8,9,10],[0,4,7,11],[12]] ?_
  refine zDn ?_
  refine zD ?_
  (refine po_step rfl rfl (op_litm hT rfl rfl rfl rfl rfl (by decide) rfl rfl rfl rfl ⟨zLok, ?_⟩); refine zDn ?_)
  (refine po_step rfl rfl (op_appendX (b := 8) hT rfl rfl rfl rfl (by simp) rfl (by first | rfl | (simp only [List.all_map]; exact List.all_eq_true.2 fun _ _ => rfl)) (by first | rfl | (simp only [List.all_map]; exact List.all_eq_true.2 fun _ _ => rfl)) (by simp; omega) (fun cap1 hcap => ⟨(by (repeat (first | exact True.intro | refine ⟨.inr rfl, ?_⟩ | refine ⟨.inl (by decide +kernel), ?_⟩))), ?_⟩)); (first | refine po_norm rfl ?_ | refine po_normE rfl ?_))
  (refine po_step rfl rfl (op_appendX (b := 8) hT rfl rfl rfl rfl (by simp) rfl (by first | rfl | (simp only [List.all_map]; exact List.all_eq_true.2 fun _ _ => rfl)) (by first | rfl | (simp only [List.all_map]; exact List.all_eq_true.2 fun _ _ => rfl)) (by simp; omega) (fun cap2 hcap => ⟨(by (repeat (first | exact True.intro | refine ⟨.inr rfl, ?_⟩ | refine ⟨.inl (by decide +kernel), ?_⟩))), ?_⟩)); (first | refine po_norm rfl ?_ | refine po_normE rfl ?_))
  (refine po_step rfl rfl (op_appendX (b := 8) hT rfl rfl rfl rfl (by simp) rfl (by first | rfl | (simp only [List.all_map]; exact List.all_eq_true.2 fun _ _ => rfl)) (by first | rfl | (simp only [List.all_map]; exact List.all_eq_true.2 fun _ _ => rfl)) (by simp; omega) (fun cap3 hcap => ⟨(by (repeat (first | exact True.intro | refine ⟨.inr rfl, ?_⟩ | refine ⟨.inl (by decide +kernel), ?_⟩))), ?_⟩)); (first | refine po_norm rfl ?_ | refine po_normE rfl ?_))
  refine zD ?_
  (repeat' (first | refine zS ?_ | refine zq5 ?_ | refine zq6 ?_ | (refine zT ?_ ?_ <;> intro h <;> first | exact zX | refine zNq ?_)))
  refine ret0 _ (.sl ([] ++ (l.take i).map eU64 ++ [.int .u64 v] ++ (l.drop i).map eU64)) rfl ?_ (.inr (.inr (.inr (.inl ⟨_, _, _, _, _, _, rfl, rfl, rfl, by simp; omega, rfl⟩)))) rfl
  simp
instance (l : List Int) (v top : Int) : ConF Tryz.prog Gl 192 [.sl (l.map eU64), .int .u64 v, .int .u32 top] (l.length < 4294967296 ∧ (0 ≤ v ∧ v < 4294967297) ∧ 0 ≤ top ∧ top < 4294967296) (.sl ((ins l v top).map eU64)) := ⟨e192, fun h => c_insert l v top h.1 h.2.1 h.2.2⟩
end Go.Proofs.YtkaobkjcjodffaaGreatDoor
