/-
 The texts of the sanity check, reckoned by the kernel.
-/
import Derived.Test.YtkaobkjcjodffaaGreatDoorBK17
import Derived.KernelRfl
import Derived.Test.YtkaobkjcjodffaaGreatDoorBM7
set_option maxHeartbeats 20000000
set_option maxRecDepth 100000
namespace Go.Proofs.YtkaobkjcjodffaaGreatDoor
open Go Go.Pw
section
variable {Gl : Glob}
attribute [local irreducible] PW PWL OpP PCalls PWO vname vDefs vStm wOkB wFormat PWT bothT
instance iValidDefs (l : List TDef) (sv : Bool) : ConF Tryz.prog Gl 67 [.sl (l.map eDef), .bool sv] (l.length < 1000000 ∧ ∀ d ∈ l, d.items.length < 1000000) (.bool (vDefs l sv)) := ⟨e67, fun h => c_validDefs l sv h.1 h.2⟩
theorem all_getD {α : Type} [Inhabited α] {p : α → Bool} {l : List α} {k : Nat} (hk : ¬ k < l.length) (h : ∀ j, j < k → p (l.getD j default) = true) : l.all p = true := List.all_eq_true.2 fun x hx => by
 obtain ⟨n, hn⟩ := List.mem_iff_getElem?.1 hx
 have := h n (by have := (List.getElem?_eq_some_iff.1 hn).1; omega)
 rwa [List.getD, hn] at this
theorem c_iValid (hD' : GD Gl) (i : TInt) (hb : IBig i) (hi : ∀ d ∈ i.windows, d.active.length < 100000 ∧ ∀ r ∈ d.active, RIn r) : PFun Tryz.prog Gl 29 [eIntent i] fun r => r = .bool (iValid i) := by
 (refine PFun.of hT Tryz.func29 rfl fun B hD => ?_; refine pw_norm rfl ?_)
 have h1 := hb.groups
 have h2 := hb.services
 have h3 := hb.windows
 have h4 := hb.stms
 have h5 := hb.pubs
 have h6 := hb.hids
 have h7 := hb.gitems
 have h8 := hb.sitems
 have hsm : Small i.windows := by unfold Small; omega
 have h11 : ∀ k, (i.windows.getD k default).active.length < 100000 ∧ ∀ r ∈ (i.windows.getD k default).active, RIn r := fun k => by
  rw [List.getD]
  cases e : i.windows[k]? with
  | none => exact ⟨by decide, fun r hr => by cases hr⟩
  | some x => exact hi x (List.mem_of_getElem? e)
 unfold iValid
 generalize hS : (((((vDefs i.groups false && vDefs i.services true) && decide (i.windows.length ≤ 32)) && decide (i.stms.length ≤ 64)) && decide (i.pubs.length ≤ 16)) && decide (i.hids.length ≤ 8)) = S
 have hSi : S = true ↔ ((((vDefs i.groups false = true ∧ vDefs i.services true = true) ∧ i.windows.length ≤ 32) ∧ i.stms.length ≤ 64) ∧ i.pubs.length ≤ 16) ∧ i.hids.length ≤ 8 := by
  rw [← hS]
  simp only [Bool.and_eq_true, decide_eq_true_eq]
 (repeat' (first | refine zS ?_ | refine zq5 ?_ | refine zq6 ?_ | (refine zT ?_ ?_ <;> intro h <;> first | exact zX | refine zNq ?_)))
 ·have e : S = false := by
   rw [Bool.eq_false_iff]
   intro q
   obtain ⟨⟨⟨⟨⟨a, b⟩, c⟩, d⟩, e⟩, f⟩ := hSi.1 q
   rcases h with ((((h | h) | h) | h) | h) | h
   ·exact h a
   ·exact h b
   ·omega
   ·omega
   ·omega
   ·omega
  rw [e, Bool.false_and]
  exact ret2 _ rfl rfl rfl
 have e : S = true := hSi.2 ⟨⟨⟨⟨⟨Decidable.not_not.1 fun a => h (.inl (.inl (.inl (.inl (.inl a))))), Decidable.not_not.1 fun a => h (.inl (.inl (.inl (.inl (.inr a)))))⟩, by omega⟩, by omega⟩, by omega⟩, by omega⟩
 rw [e, Bool.true_and]
 clear hSi hS h e
 refine pw_for hD (fun k : Nat => [(49, .int .i64 k)]) (fun _ => [.box [.sl (i.groups.map eDef), .sl (i.services.map eDef), .sl (i.windows.map eWin), .sl (i.stms.map eStm), .sl (i.pubs.map ePub), .sl (i.hids.map eHid)]]) (fun k => k ≤ i.windows.length ∧ ∀ j, j < k → wWin i.windows j = true) (fun k => i.windows.length - k) 0 ⟨Nat.zero_le _, fun j h => by omega⟩ 1 rfl (fun _ => rfl) zLes (fun _ => rfl) (fun _ => rfl) zLe ?_
 rintro k ⟨hk, hkc⟩
 obtain ⟨h11, h12⟩ := h11 k
 (repeat' (first | refine zS ?_ | refine zq5 ?_ | refine zq6 ?_ | (refine zT ?_ ?_ <;> intro h <;> first | exact zX | refine zNq ?_)))
 ·have e : wWin i.windows k = false := by
   unfold wWin
   rcases h with (h | h) | h
   ·rw [show wOkB (i.windows.getD k default).active = false by simpa using h, Bool.and_false]
   ·rw [show vname (i.windows.getD k default).name = false by simpa using h]; rfl
   ·rw [decide_eq_false (show ¬ firstAt (fun x : TWin => x.name == (i.windows.getD k default).name) i.windows = k from h), Bool.and_false, Bool.false_and]
  rw [show (List.range i.windows.length).all (wWin i.windows) = false from List.all_eq_false.2 ⟨k, List.mem_range.2 (by omega), by rw [e]; decide⟩]
  simp only [Bool.false_and]
  exact ret2 _ rfl rfl rfl
 ·refine ⟨k + 1, ⟨by omega, fun j hj => ?_⟩, by omega, zLe, zLes⟩
  rcases Nat.lt_succ_iff_lt_or_eq.1 hj with hj | rfl
  ·exact hkc j hj
  ·unfold wWin
   rw [Decidable.not_not.1 fun q => h (.inl (.inr q)), decide_eq_true (show firstAt (fun x : TWin => x.name == (i.windows.getD j default).name) i.windows = j from Decidable.not_not.1 fun q => h (.inr q)), Decidable.not_not.1 fun q => h (.inl (.inl q))]
   rfl
 rw [show (List.range i.windows.length).all (wWin i.windows) = true from List.all_eq_true.2 fun j hj => hkc j (by have := List.mem_range.1 hj; omega), Bool.true_and]
 clear h11 h12
 refine pw_for hD (fun k : Nat => [(81, .int .i64 k)]) (fun _ => [.box [.sl (i.groups.map eDef), .sl (i.services.map eDef), .sl (i.windows.map eWin), .sl (i.stms.map eStm), .sl (i.pubs.map ePub), .sl (i.hids.map eHid)]]) (fun k => k ≤ i.pubs.length ∧ ∀ j, j < k → vPub (i.pubs.getD j default) = true) (fun k => i.pubs.length - k) 0 ⟨Nat.zero_le _, fun j h => by omega⟩ 1 rfl (fun _ => rfl) zLes (fun _ => rfl) (fun _ => rfl) zLe ?_
 rintro k ⟨hk, hkc⟩
 (repeat' (first | refine zS ?_ | refine zq5 ?_ | refine zq6 ?_ | (refine zT ?_ ?_ <;> intro h <;> first | exact zX | refine zNq ?_)))
 ·have e : ¬ vPub (i.pubs.getD k default) = true := fun q => by
   unfold vPub at q
   simp only [Bool.and_eq_true, Bool.or_eq_true, decide_eq_true_eq, beq_iff_eq] at q
   obtain ⟨⟨⟨a, b⟩, c⟩, d⟩ := q
   rcases h with ((h | h) | h) | h
   ·omega
   ·exact h b
   ·exact h c
   ·exact h d
  rw [show i.pubs.all vPub = false from List.all_eq_false.2 ⟨_, getD_memD (by omega), e⟩]
  simp only [Bool.false_and, Bool.and_false]
  exact ret2 _ rfl rfl rfl
 ·refine ⟨k + 1, ⟨by omega, fun j hj => ?_⟩, by omega, zLe, zLes⟩
  rcases Nat.lt_succ_iff_lt_or_eq.1 hj with hj | rfl
  ·exact hkc j hj
  ·unfold vPub
   simp only [Bool.and_eq_true, Bool.or_eq_true, decide_eq_true_eq, beq_iff_eq]
   refine ⟨⟨⟨by omega, by omega⟩, by omega⟩, Decidable.not_not.1 fun q => h (.inr q)⟩
 rw [show i.pubs.all vPub = true from all_getD (by omega) hkc]
 refine pw_for hD (fun k : Nat => [(117, .int .i64 k)]) (fun _ => [.box [.sl (i.groups.map eDef), .sl (i.services.map eDef), .sl (i.windows.map eWin), .sl (i.stms.map eStm), .sl (i.pubs.map ePub), .sl (i.hids.map eHid)]]) (fun k => k ≤ i.hids.length ∧ ∀ j, j < k → vHid (i.hids.getD j default) = true) (fun k => i.hids.length - k) 0 ⟨Nat.zero_le _, fun j h => by omega⟩ 1 rfl (fun _ => rfl) zLes (fun _ => rfl) (fun _ => rfl) zLe ?_
 rintro k ⟨hk, hkc⟩
 (repeat' (first | refine zS ?_ | refine zq5 ?_ | refine zq6 ?_ | (refine zT ?_ ?_ <;> intro h <;> first | exact zX | refine zNq ?_)))
 ·have e : ¬ vHid (i.hids.getD k default) = true := fun q => by
   unfold vHid at q
   simp only [Bool.and_eq_true, decide_eq_true_eq] at q
   obtain ⟨⟨a, b⟩, ⟨c, d⟩, e⟩ := q
   rcases h with (((h | h) | h) | h) | h
   ·exact h a
   ·exact h b
   ·omega
   ·omega
   ·omega
  rw [show i.hids.all vHid = false from List.all_eq_false.2 ⟨_, getD_memD (by omega), e⟩]
  simp only [Bool.and_false]
  exact ret2 _ rfl rfl rfl
 ·refine ⟨k + 1, ⟨by omega, fun j hj => ?_⟩, by omega, zLe, zLes⟩
  rcases Nat.lt_succ_iff_lt_or_eq.1 hj with hj | rfl
  ·exact hkc j hj
  ·unfold vHid
   simp only [Bool.and_eq_true, decide_eq_true_eq]
   exact ⟨⟨Decidable.not_not.1 fun q => h (.inl (.inl (.inl (.inl q)))), Decidable.not_not.1 fun q => h (.inl (.inl (.inl (.inr q))))⟩, ⟨by omega, by omega⟩, by omega⟩
 rw [show i.hids.all vHid = true from all_getD (by omega) hkc]
 (repeat' (first | refine zS ?_ | refine zq5 ?_ | refine zq6 ?_ | (refine zT ?_ ?_ <;> intro h <;> first | exact zX | refine zNq ?_)))
 refine ret2 _ rfl ?_ rfl
 rw [firstAt_all, Bool.and_true, Bool.and_true]
end
section
def saneI1 : Str := [115, 101, 114, 118, 105, 99, 101, 32, 119, 101, 98, 32, 61, 32, 116, 99, 112, 32, 56, 48, 32, 44, 32, 116, 99, 112, 32, 52, 52, 51] ++ [10] ++ [97, 108, 108, 111, 119, 32, 97, 110, 121, 32, 45, 62, 32, 115, 101, 114, 118, 101, 114, 115, 32, 119, 101, 98, 32, 101, 120, 99, 101, 112, 116, 32, 103, 117, 101, 115, 116, 115, 32, 45, 62, 32, 97, 110, 121, 32, 118, 105, 97, 32, 105, 112, 115, 32, 100, 117, 114, 105, 110, 103, 32, 119, 111, 114, 107, 32, 112, 114, 105, 111, 114, 105, 116, 121, 32, 53]
def saneI2 : Str := [115, 101, 114, 118, 105, 99, 101, 32, 120, 32, 61, 32, 112, 114, 111, 116, 111, 32, 54]
def saneStm : TStm := ⟨true, [], [115, 101, 114, 118, 101, 114, 115], [119, 101, 98], true, [103, 117, 101, 115, 116, 115], [], [105, 112, 115], [119, 111, 114, 107], 5⟩
def saneI : TInt := ⟨[], [⟨[119, 101, 98], [⟨4, [], pfx0, 6, ⟨80, 80⟩⟩, ⟨4, [], pfx0, 6, ⟨443, 443⟩⟩]⟩], [], [saneStm], [], []⟩
theorem saneI1_is : iParse saneI1 = (saneI, 0, 0) := by kernel_rfl
theorem saneI2_is : iParse saneI2 = (int0, 1, 2) := by kernel_rfl
variable {Gl : Glob}
attribute [local irreducible] PW PWL OpP PCalls PWO iParse iValid PWT bothT
theorem saneI_valid : iValid saneI = true := by kernel_rfl
theorem saneI_big : IBig saneI := ⟨by decide, by decide, by decide, by decide, by decide, by decide, by decide, by decide, by decide⟩
theorem c_sane (hG : GM Gl) (hD' : GD Gl) : PFun Tryz.prog Gl 18 [] fun r => r = .bool true := by
 (refine PFun.of hT Tryz.func18 rfl fun B hD => ?_; refine pw_norm rfl ?_)
 (repeat' (first | refine zS ?_ | refine zq5 ?_ | refine zq6 ?_ | (refine zT ?_ ?_ <;> intro h <;> first | exact zX | refine zNq ?_)))
 (refine pl_op rfl (op_fun (c_iParse hG hD' saneI1) rfl rfl e19 zLe rfl (fun r hr => ?_)); subst hr; refine ⟨rfl, ?_⟩; (refine zNp ?_))
 rw [saneI1_is]
 (repeat' (first | refine zS ?_ | refine zq5 ?_ | refine zq6 ?_ | (refine zT ?_ ?_ <;> intro h <;> first | exact zX | refine zNq ?_)))
 (refine pl_op rfl (op_fun (c_iParse hG hD' saneI2) rfl rfl e19 zLe rfl (fun r hr => ?_)); subst hr; refine ⟨rfl, ?_⟩; (refine zNp ?_))
 rw [saneI2_is]
 (repeat' (first | refine zS ?_ | refine zq5 ?_ | refine zq6 ?_ | (refine zT ?_ ?_ <;> intro h <;> first | exact zX | refine zNq ?_)))
 (refine pl_op rfl (op_of (v_index (p := eStm saneStm) hT rfl rfl rfl rfl (by omega) (rfl) rfl) ?_); (refine zNp ?_))
 (repeat' (first | refine zS ?_ | refine zq5 ?_ | refine zq6 ?_ | (refine zT ?_ ?_ <;> intro h <;> first | exact zX | refine zNq ?_)))
 (refine pl_on rfl rfl (op_fun (c_iValid hD' saneI saneI_big (fun d h => by cases h)) rfl rfl e29 zLe rfl (fun r hr => ?_)); subst hr; refine ⟨rfl, ?_⟩; (refine zNp ?_))
 rw [saneI_valid]
 (repeat' (first | refine zS ?_ | refine zq5 ?_ | refine zq6 ?_ | (refine zT ?_ ?_ <;> intro h <;> first | exact zX | refine zNq ?_)))
 exact ret2 _ rfl rfl rfl
instance iSane : ConF Tryz.prog Gl 18 [] (GM Gl ∧ GD Gl) (.bool true) := ⟨e18, fun h => c_sane h.1 h.2⟩

end
end Go.Proofs.YtkaobkjcjodffaaGreatDoor