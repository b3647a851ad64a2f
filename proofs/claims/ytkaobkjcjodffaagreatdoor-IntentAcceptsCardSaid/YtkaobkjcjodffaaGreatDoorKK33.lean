/-
 Contracts of functions, walked over pure values.
-/
import Derived.Test.YtkaobkjcjodffaaGreatDoorKM6
import Derived.Test.YtkaobkjcjodffaaGreatDoorKK3
import Derived.Test.YtkaobkjcjodffaaGreatDoorKK13
import Derived.Test.YtkaobkjcjodffaaGreatDoorJPwCopy
set_option maxHeartbeats 20000000
set_option maxRecDepth 100000
namespace Go.Proofs.YtkaobkjcjodffaaGreatDoor
open Go Go.Pw
section
variable {Gl : Glob}
attribute [local irreducible] PW PWL OpP PCalls PWO vname PWT
def okName (s : Str) : Bool := (s == []) || vname s
theorem c_emptyOrName (s : Str) : PFun Tryz.prog Gl 121 [.str s] fun r => r = .bool (okName s) := by
 (refine PFun.of hT Tryz.func121 rfl fun B hD => ?_; refine pw_norm rfl ?_)
 (repeat' (first | refine zS ?_ | refine zq5 ?_ | refine zq6 ?_ | (refine zT ?_ ?_ <;> intro h <;> first | exact zX | refine zNq ?_)))
 exact ret2 _ rfl rfl rfl
instance iEmptyOrName (s : Str) : ConF Tryz.prog Gl 121 [.str s] True (.bool (okName s)) := ⟨e121, fun _ => c_emptyOrName s⟩
theorem c_optional (s : Str) : PFun Tryz.prog Gl 124 [.str s] fun r => r = .bool (okName s) := by
 (refine PFun.of hT Tryz.func124 rfl fun B hD => ?_; refine pw_norm rfl ?_)
 (repeat' (first | refine zS ?_ | refine zq5 ?_ | refine zq6 ?_ | (refine zT ?_ ?_ <;> intro h <;> first | exact zX | refine zNq ?_)))
 exact ret2 _ rfl rfl rfl
instance iOptional (s : Str) : ConF Tryz.prog Gl 124 [.str s] True (.bool (okName s)) := ⟨e124, fun _ => c_optional s⟩
theorem c_port (n : Int) : PFun Tryz.prog Gl 79 [.int .i64 n] fun r => r = .bool (decide (n ≥ 0) && decide (n ≤ 65535)) := by
 (refine PFun.of hT Tryz.func79 rfl fun B hD => ?_; refine pw_norm rfl ?_)
 (repeat' (first | refine zS ?_ | refine zq5 ?_ | refine zq6 ?_ | (refine zT ?_ ?_ <;> intro h <;> first | exact zX | refine zNq ?_)))
 exact ret2 _ rfl rfl rfl
instance iPort (n : Int) : ConF Tryz.prog Gl 79 [.int .i64 n] True (.bool (decide (n ≥ 0) && decide (n ≤ 65535))) := ⟨e79, fun _ => c_port n⟩
def nameS (s : Str) : Str := if s = [] then [97, 110, 121] else s
theorem c_name (s : Str) : PFun Tryz.prog Gl 86 [.str s] fun r => r = .str (nameS s) := by
 (refine PFun.of hT Tryz.func86 rfl fun B hD => ?_; refine pw_norm rfl ?_)
 unfold nameS
 (repeat' (first | refine zS ?_ | (refine zT ?_ ?_ <;> intro h <;> first | exact zX | refine zNq ?_)))
 ·rw [if_pos h]; exact ret2 _ rfl rfl rfl
 ·rw [if_neg h]; exact ret2 _ rfl rfl rfl
instance iName (s : Str) : ConF Tryz.prog Gl 86 [.str s] True (.str (nameS s)) := ⟨e86, fun _ => c_name s⟩
theorem c_anyOr (s : Str) : PFun Tryz.prog Gl 110 [.str s] fun r => r = .str (nameS s) := by
 (refine PFun.of hT Tryz.func110 rfl fun B hD => ?_; refine pw_norm rfl ?_)
 unfold nameS
 (repeat' (first | refine zS ?_ | (refine zT ?_ ?_ <;> intro h <;> first | exact zX | refine zNq ?_)))
 ·rw [if_pos h]; exact ret2 _ rfl rfl rfl
 ·rw [if_neg h]; exact ret2 _ rfl rfl rfl
instance iAnyOr (s : Str) : ConF Tryz.prog Gl 110 [.str s] True (.str (nameS s)) := ⟨e110, fun _ => c_anyOr s⟩
attribute [local irreducible] okName
def stmNames (s : TStm) : List Str := [s.src, s.dst, s.service, s.cls, s.during, s.exSrc, s.exDst]
def stmRest (s : TStm) : Bool := (((s.permit || s.cls == []) && (s.excepted || (s.exSrc == [] && s.exDst == []))) && decide (s.prio ≥ 0)) && decide (s.prio ≤ 1000)
def vStm (s : TStm) : Bool := (stmNames s).all okName && stmRest s
theorem stmRest_alt (s : TStm) : ((((s.excepted || (s.exSrc == [] && s.exDst == [])) && (s.permit || s.cls == [])) && decide (s.prio ≥ 0)) && decide (s.prio ≤ 1000)) = stmRest s := by
 unfold stmRest
 rw [Bool.and_comm (s.excepted || (s.exSrc == [] && s.exDst == []))]
theorem c_rValidStm (s : TStm) : PFun Tryz.prog Gl 78 [eStm s] fun r => r = .bool (vStm s) := by
 (refine PFun.of hT Tryz.func78 rfl fun B hD => ?_; refine pw_norm rfl ?_)
 unfold vStm
 (repeat' (first | refine zS ?_ | refine zq5 ?_ | refine zq6 ?_ | (refine zT ?_ ?_ <;> intro h <;> first | exact zX | refine zNq ?_)))
 ·have e : (stmNames s).all okName = false := by
   rw [List.all_eq_false]
   rcases h with (((((h | h) | h) | h) | h) | h) | h
   ·exact ⟨_, by simp [stmNames], h⟩
   ·exact ⟨_, by simp [stmNames], h⟩
   ·exact ⟨_, by simp [stmNames], h⟩
   ·exact ⟨_, by simp [stmNames], h⟩
   ·exact ⟨_, by simp [stmNames], h⟩
   ·exact ⟨_, by simp [stmNames], h⟩
   ·exact ⟨_, by simp [stmNames], h⟩
  rw [e]
  exact ret2 _ rfl rfl rfl
 ·have e : (stmNames s).all okName = true := by
   simp only [not_or, Decidable.not_not] at h
   obtain ⟨⟨⟨⟨⟨⟨a, b⟩, c⟩, d⟩, e⟩, f⟩, g⟩ := h
   simp [stmNames, a, b, c, d, e, f, g]
  rw [e, Bool.true_and]
  exact ret2 _ rfl rfl rfl
instance iRValidStm (s : TStm) : ConF Tryz.prog Gl 78 [eStm s] True (.bool (vStm s)) := ⟨e78, fun _ => c_rValidStm s⟩
theorem c_validStm (s : TStm) : PFun Tryz.prog Gl 73 [eStm s] fun r => r = .bool (vStm s) := by
 (refine PFun.of hT Tryz.func73 rfl fun B hD => ?_; refine pw_norm rfl ?_)
 unfold vStm
 (repeat' (first | refine zS ?_ | refine zq5 ?_ | refine zq6 ?_ | (refine zT ?_ ?_ <;> intro h <;> first | exact zX | refine zNq ?_)))
 rw [show [PV.str s.src, .str s.dst, .str s.service, .str s.cls, .str s.during, .str s.exSrc, .str s.exDst] = (stmNames s).map PV.str from rfl]
 have hl : (stmNames s).length = 7 := rfl
 refine pw_for hD (fun i : Nat => [(22, .int .i64 i)]) (fun _ => [.box [.bool s.permit, .str s.src, .str s.dst, .str s.service, .bool s.excepted, .str s.exSrc, .str s.exDst, .str s.cls, .str s.during, .int .i64 s.prio]]) (fun i => i ≤ 7 ∧ ∀ j, j < i → okName ((stmNames s).getD j []) = true) (fun i => 7 - i) 0 ⟨by omega, fun j h => by omega⟩ 1 rfl (fun _ => rfl) (by (exact zLes)) (fun _ => rfl) (fun _ => rfl) (by (exact zLe)) ?_
 rintro i ⟨hi, hc⟩
 generalize hL : stmNames s = L at hl hc ⊢
 have hl2 : (L.map PV.str).length = 7 := by rw [List.length_map]; exact hl
 (repeat' (first | refine zS ?_ | refine zq5 ?_ | refine zq6 ?_ | (refine zT ?_ ?_ <;> intro h <;> first | exact zX | refine zNq ?_)))
 ·have e : L.all okName = false := by
   rw [List.all_eq_false]
   refine ⟨L.getD i [], ?_, h⟩
   rw [List.getD, List.getElem?_eq_getElem (by omega)]
   exact List.getElem_mem _
  rw [e]
  exact ret2 _ rfl rfl rfl
 ·refine ⟨i + 1, ⟨by omega, fun j hj => ?_⟩, by omega, by (exact zLe), by (exact zLes)⟩
  rcases Nat.lt_succ_iff_lt_or_eq.1 hj with hj | rfl
  ·exact hc j hj
  ·exact Decidable.not_not.1 h
 ·have e : L.all okName = true := List.all_eq_true.2 fun x hx => by
   obtain ⟨j, hj⟩ := List.mem_iff_getElem?.1 hx
   have := hc j (by have := (List.getElem?_eq_some_iff.1 hj).1; omega)
   rwa [List.getD, hj] at this
  rw [e, Bool.true_and, ← stmRest_alt]
  exact ret2 _ rfl rfl rfl
instance iValidStm (s : TStm) : ConF Tryz.prog Gl 73 [eStm s] True (.bool (vStm s)) := ⟨e73, fun _ => c_validStm s⟩
end
section
variable {Gl : Glob}
attribute [local irreducible] PW PWL OpP PCalls PWO vname wParse wFormat PWT
theorem firstAt_step {α : Type} [Inhabited α] (p : α → Bool) (l : List α) {i : Nat} (hi : i < l.length) (hno : ∀ j, j < i → p (l.getD j default) = false) (h : p (l.getD i default) = true) : firstAt p l = i := by
 have e : l.getD i default = l[i] := by rw [List.getD, List.getElem?_eq_getElem hi]; rfl
 rw [e] at h
 exact firstAt_hit hi h fun j d hj hd => by
  have := hno j hj
  rwa [List.getD, hd] at this
theorem firstAt_none {α : Type} [Inhabited α] (p : α → Bool) (l : List α) (hno : ∀ j, j < l.length → p (l.getD j default) = false) : firstAt p l = -1 := firstAt_miss fun j x hj => by
 have := hno j (List.getElem?_eq_some_iff.1 hj).1
 rwa [List.getD, hj] at this
theorem c_rFind (l : List TDef) (name : Str) (hl : l.length < 4294967296) : PFun Tryz.prog Gl 122 [.sl (l.map eDef), .str name] fun r => r = .int .i64 (firstAt (fun d => d.name == name) l) := by
 (refine PFun.of hT Tryz.func122 rfl fun B hD => ?_; refine pw_norm rfl ?_)
 (repeat' (first | refine zS ?_ | (refine zT ?_ ?_ <;> intro h <;> first | exact zX | refine zNq ?_)))
 refine pw_for hD (fun i : Nat => [(5, .int .i64 i)]) (fun _ => []) (fun i => i ≤ l.length ∧ ∀ j, j < i → ((l.getD j default).name == name) = false) (fun i => l.length - i) 0 ⟨Nat.zero_le _, fun j h => by omega⟩ 0 rfl (fun _ => rfl) (by (exact zLes)) (fun _ => rfl) (fun _ => rfl) (by (exact zLe)) ?_
 rintro i ⟨hi, hno⟩
 (repeat' (first | refine zS ?_ | (refine zT ?_ ?_ <;> intro h <;> first | exact zX | refine zNq ?_)))
 ·rw [firstAt_step _ l (by omega) hno (by rw [beq_iff_eq]; exact h)]
  exact ret2 _ rfl rfl rfl
 ·refine ⟨i + 1, ⟨by omega, fun j hj => ?_⟩, by omega, by (exact zLe), by (exact zLes)⟩
  rcases Nat.lt_succ_iff_lt_or_eq.1 hj with hj | rfl
  ·exact hno j hj
  ·rw [beq_eq_false_iff_ne]; exact h
 ·rw [firstAt_none _ l fun j hj => hno j (by omega)]
  exact ret2 _ rfl rfl rfl
instance (l : List TDef) (name : Str) : ConF Tryz.prog Gl 122 [.sl (l.map eDef), .str name] (l.length < 4294967296) (.int .i64 (firstAt (fun d => d.name == name) l)) := ⟨e122, fun h => c_rFind l name h⟩
theorem c_rFindW (l : List TWin) (name : Str) (hl : l.length < 4294967296) : PFun Tryz.prog Gl 76 [.sl (l.map eWin), .str name] fun r => r = .int .i64 (firstAt (fun d => d.name == name) l) := by
 (refine PFun.of hT Tryz.func76 rfl fun B hD => ?_; refine pw_norm rfl ?_)
 (repeat' (first | refine zS ?_ | (refine zT ?_ ?_ <;> intro h <;> first | exact zX | refine zNq ?_)))
 refine pw_for hD (fun i : Nat => [(5, .int .i64 i)]) (fun _ => []) (fun i => i ≤ l.length ∧ ∀ j, j < i → ((l.getD j default).name == name) = false) (fun i => l.length - i) 0 ⟨Nat.zero_le _, fun j h => by omega⟩ 0 rfl (fun _ => rfl) (by (exact zLes)) (fun _ => rfl) (fun _ => rfl) (by (exact zLe)) ?_
 rintro i ⟨hi, hno⟩
 (repeat' (first | refine zS ?_ | (refine zT ?_ ?_ <;> intro h <;> first | exact zX | refine zNq ?_)))
 ·rw [firstAt_step _ l (by omega) hno (by rw [beq_iff_eq]; exact h)]
  exact ret2 _ rfl rfl rfl
 ·refine ⟨i + 1, ⟨by omega, fun j hj => ?_⟩, by omega, by (exact zLe), by (exact zLes)⟩
  rcases Nat.lt_succ_iff_lt_or_eq.1 hj with hj | rfl
  ·exact hno j hj
  ·rw [beq_eq_false_iff_ne]; exact h
 ·rw [firstAt_none _ l fun j hj => hno j (by omega)]
  exact ret2 _ rfl rfl rfl
instance (l : List TWin) (name : Str) : ConF Tryz.prog Gl 76 [.sl (l.map eWin), .str name] (l.length < 4294967296) (.int .i64 (firstAt (fun d => d.name == name) l)) := ⟨e76, fun h => c_rFindW l name h⟩
end
section
variable {Gl : Glob}
attribute [local irreducible] PW PWL OpP PCalls PWO vname vItem PWT
def dHead (l : List TDef) (i : Nat) : Bool := ((vname (l.getD i default).name && decide (firstAt (fun x : TDef => x.name == (l.getD i default).name) l = i)) && decide (1 ≤ (l.getD i default).items.length)) && decide ((l.getD i default).items.length ≤ 16)
def dOk (l : List TDef) (sv : Bool) (i : Nat) : Bool := dHead l i && (l.getD i default).items.all fun x => vItem x sv
def vDefs (l : List TDef) (sv : Bool) : Bool := decide (l.length ≤ 32) && (List.range l.length).all (dOk l sv)
instance iRValidItem (x : TItem) (g : Bool) : ConF Tryz.prog Gl 123 [.agg [.int .i64 x.kind, .str x.name, .int .u32 x.pfx.addr, .int .i64 x.pfx.bits, .int .i64 x.proto, .int .u32 x.ports.lo, .int .u32 x.ports.hi], .bool g] (ItIn x) (.bool (vItem x (!g))) := ⟨e123, fun h => c_rValidItem x g h⟩
theorem getD_memD {α : Type} [Inhabited α] {L : List α} {k : Nat} (h : k < L.length) : L.getD k default ∈ L := by
 rw [List.getD, List.getElem?_eq_getElem h]; exact List.getElem_mem h
theorem dHead_iff (l : List TDef) (i : Nat) : dHead l i = true ↔ ¬ (((¬ vname (l.getD i default).name = true ∨ ¬ firstAt (fun x : TDef => x.name == (l.getD i default).name) l = i) ∨ ((l.getD i default).items.length : Int) < 1) ∨ ((l.getD i default).items.length : Int) > 16) := by
 unfold dHead
 simp only [Bool.and_eq_true, decide_eq_true_eq]
 constructor
 ·rintro ⟨⟨⟨a, b⟩, c⟩, d⟩ (((q | q) | q) | q)
  ·exact q a
  ·exact q b
  ·omega
  ·omega
 ·intro q
  refine ⟨⟨⟨Decidable.not_not.1 fun a => q (.inl (.inl (.inl a))), Decidable.not_not.1 fun a => q (.inl (.inl (.inr a)))⟩, Decidable.not_not.1 fun a => q (.inl (.inr (by omega)))⟩, Decidable.not_not.1 fun a => q (.inr (by omega))⟩
theorem dOk_fail {l : List TDef} {sv : Bool} {i : Nat} (hi : i < l.length) (h : dOk l sv i = false) : (List.range l.length).all (dOk l sv) = false :=
 List.all_eq_false.2 ⟨i, List.mem_range.2 hi, by rw [h]; decide⟩
theorem c_rValidDefs (l : List TDef) (g : Bool) (hl : l.length < 1000000) (hi : ∀ d ∈ l, d.items.length < 1000000) (hx : ∀ d ∈ l, ∀ x ∈ d.items, ItIn x) : PFun Tryz.prog Gl 74 [.sl (l.map eDef), .bool g] fun r => r = .bool (vDefs l (!g)) := by
 (refine PFun.of hT Tryz.func74 rfl fun B hD => ?_; refine pw_norm rfl ?_)
 have hat : ∀ i, (l.getD i default).items.length < 1000000 := fun i => by
  rw [List.getD]
  cases h : l[i]? with
  | none => exact (by decide : (0 : Nat) < 1000000)
  | some x => exact hi x (List.mem_of_getElem? h)
 have hxt : ∀ i k, ItIn ((l.getD i default).items.getD k default) := fun i k => by
  rw [List.getD, List.getD]
  cases h : l[i]? with
  | none =>
   show ItIn ((([] : List TItem)[k]?).getD default)
   rw [List.getElem?_nil]
   exact ⟨⟨Int.le_refl 0, by decide⟩, Int.le_refl 0⟩
  | some x =>
   show ItIn ((x.items[k]?).getD default)
   cases h2 : x.items[k]? with
   | none => exact ⟨⟨Int.le_refl 0, by decide⟩, Int.le_refl 0⟩
   | some y => exact hx x (List.mem_of_getElem? h) y (List.mem_of_getElem? h2)
 unfold vDefs
 (repeat' (first | refine zS ?_ | refine zq5 ?_ | refine zq6 ?_ | (refine zT ?_ ?_ <;> intro h <;> first | exact zX | refine zNq ?_)))
 ·rw [decide_eq_false (by omega), Bool.false_and]
  exact ret2 _ rfl rfl rfl
 rw [decide_eq_true (by omega), Bool.true_and]
 refine pw_for hD (fun i : Nat => [(5, .int .i64 i)]) (fun _ => []) (fun i => i ≤ l.length ∧ ∀ j, j < i → dOk l (!g) j = true) (fun i => l.length - i) 0 ⟨Nat.zero_le _, fun j h => by omega⟩ 0 rfl (fun _ => rfl) (by (exact zLes)) (fun _ => rfl) (fun _ => rfl) (by (exact zLe)) ?_
 rintro i ⟨hi, hc⟩
 have hat := hat i
 (repeat' (first | refine zS ?_ | refine zD ?_ | refine po_both ?_ ?_ | refine pwt_both ?_ ?_ | refine pwt_fork ?_ | refine pwt_lin ?_ | (refine po_test rfl rfl rfl rfl zB ?_ ?_ <;> intro hb <;> first | exact zX | refine zDn ?_) | refine zq5 ?_ | refine zq6 ?_ | (refine zT ?_ ?_ <;> intro h <;> first | exact zX | refine zNq ?_)))
 ·have e : dOk l (!g) i = false := by
   unfold dOk
   rw [show dHead l i = false from by rw [Bool.eq_false_iff]; exact fun q => (dHead_iff l i).1 q h, Bool.false_and]
  rw [dOk_fail (by omega) e]
  exact ret2 _ rfl rfl rfl
 ·have hh : dHead l i = true := (dHead_iff l i).2 h
  refine pw_for hD (fun k : Nat => [(6, .int .i64 k)]) (fun _ => []) (fun k => k ≤ (l.getD i default).items.length ∧ ∀ j, j < k → vItem ((l.getD i default).items.getD j default) (!g) = true) (fun k => (l.getD i default).items.length - k) 0 ⟨Nat.zero_le _, fun j h => by omega⟩ 0 rfl (fun _ => rfl) (by (exact zLes)) (fun _ => rfl) (fun _ => rfl) (by (exact zLe)) ?_
  rintro k ⟨hk, hkc⟩
  have hxt := hxt i k
  (repeat' (first | refine zS ?_ | refine zD ?_ | refine po_both ?_ ?_ | refine pwt_both ?_ ?_ | refine pwt_fork ?_ | refine pwt_lin ?_ | (refine po_test rfl rfl rfl rfl zB ?_ ?_ <;> intro hb <;> first | exact zX | refine zDn ?_) | refine zq5 ?_ | refine zq6 ?_ | (refine zT ?_ ?_ <;> intro h <;> first | exact zX | refine zNq ?_)))
  ·have e : dOk l (!g) i = false := by
    unfold dOk
    have : ((l.getD i default).items.all fun x => vItem x (!g)) = false := by
     rw [List.all_eq_false]
     exact ⟨_, getD_memD (by omega), h⟩
    rw [this, Bool.and_false]
   rw [dOk_fail (by omega) e]
   exact ret2 _ rfl rfl rfl
  ·refine ⟨k + 1, ⟨by omega, fun j hj => ?_⟩, by omega, by (exact zLe), by (exact zLes)⟩
   rcases Nat.lt_succ_iff_lt_or_eq.1 hj with hj | rfl
   ·exact hkc j hj
   ·exact Decidable.not_not.1 h
  ·refine ⟨i + 1, ⟨by omega, fun j hj => ?_⟩, by omega, by (exact zLe), by (exact zLes)⟩
   rcases Nat.lt_succ_iff_lt_or_eq.1 hj with hj | rfl
   ·exact hc j hj
   ·unfold dOk
    rw [hh, Bool.true_and]
    refine List.all_eq_true.2 fun x hx => ?_
    obtain ⟨n, hn⟩ := List.mem_iff_getElem?.1 hx
    have := hkc n (by have := (List.getElem?_eq_some_iff.1 hn).1; omega)
    rwa [List.getD, hn] at this
 ·rw [show (List.range l.length).all (dOk l (!g)) = true from List.all_eq_true.2 fun j hj => hc j (by have := List.mem_range.1 hj; omega)]
  exact ret2 _ rfl rfl rfl
end
section
variable {Gl : Glob}
attribute [local irreducible] PW PWL OpP PCalls PWO vname wParse PWT
theorem wPut_mod (d : Nat) {o : List Str} (r : TRng) (h : o.length = 0 ∨ o.length % 3 = 2) : (wPut d o r).length % 3 = 2 := by
 unfold wPut wItem
 rw [List.length_append]
 split
 ·simp only [List.length_append, List.length_cons, List.length_nil]; omega
 ·simp only [List.length_cons, List.length_nil]; omega
theorem wPuts_mod (d : Nat) : ∀ (xs : List TRng) (o : List Str), (o.length = 0 ∨ o.length % 3 = 2) → ((xs.foldl (wPut d) o).length = 0 ∨ (xs.foldl (wPut d) o).length % 3 = 2)
 | [], _, h => h
 | x :: xs, _, h => wPuts_mod d xs _ (.inr (wPut_mod d x h))
theorem wDays_mod (l : List TRng) : ∀ n : Nat, (wDays l n).length = 0 ∨ (wDays l n).length % 3 = 2
 | 0 => .inl rfl
 | n + 1 => by rw [wDays_succ]; exact wPuts_mod n _ _ (wDays_mod l n)
theorem wPut_grow (d : Nat) (o : List Str) (r : TRng) : o.length + 2 ≤ (wPut d o r).length := by
 unfold wPut wItem
 rw [List.length_append]
 split
 ·simp only [List.length_append, List.length_cons, List.length_nil]; omega
 ·simp only [List.length_cons, List.length_nil]; omega
theorem wPuts_grow (d : Nat) : ∀ (xs : List TRng) (o : List Str), o.length ≤ (xs.foldl (wPut d) o).length
 | [], o => Nat.le_refl _
 | x :: xs, o => by
  have := wPuts_grow d xs (wPut d o x)
  have := wPut_grow d o x
  simp only [List.foldl_cons]
  omega
theorem wDays_grow (l : List TRng) (n : Nat) : ∀ k : Nat, (wDays l n).length ≤ (wDays l (n + k)).length
 | 0 => Nat.le_refl _
 | k + 1 => by
  have := wDays_grow l n k
  rw [← Nat.add_assoc, wDays_succ]
  exact Nat.le_trans this (wPuts_grow _ _ _)
theorem wDays_pos {l : List TRng} (hc : Can l) (h0 : l ≠ []) (hin : ∀ r ∈ l, RIn r) (ht : ∀ r ∈ l, r.hi ≤ 10079) : 0 < (wDays l 7).length := by
 obtain ⟨r, l', rfl⟩ := List.exists_cons_of_ne_nil h0
 have hr : r ∈ r :: l' := List.mem_cons_self ..
 have h1 := hin r hr
 have h2 := ht r hr
 have h3 := hc.le r hr
 unfold RIn at h1
 have hm : mem (wDay (r :: l') (r.lo / 1440).toNat) r.lo := (isect_mem _ _ _).2 ⟨⟨r, hr, Int.le_refl _, h3⟩, ⟨_, List.mem_singleton_self _, by unfold dayAll; dsimp only; omega, by unfold dayAll; dsimp only; omega⟩⟩
 obtain ⟨q, hq, _⟩ := hm
 generalize hd : (r.lo / 1440).toNat = d at hq
 have hd7 : d < 7 := by omega
 have hp : 0 < (wDays (r :: l') (d + 1)).length := by
  rw [wDays_succ]
  cases hw : wDay (r :: l') d with
  | nil => rw [hw] at hq; cases hq
  | cons x xs =>
   have := wPuts_grow d xs (wPut d (wDays (r :: l') d) x)
   have := wPut_grow d (wDays (r :: l') d) x
   simp only [List.foldl_cons]
   omega
 have := wDays_grow (r :: l') (d + 1) (6 - d)
 rw [show d + 1 + (6 - d) = 7 by omega] at this
 omega
theorem wOkB_eq (l : List TRng) (hin : ∀ r ∈ l, RIn r) : (ivalid l 10079 && decide (((wFormat l).length : Int) ≤ 47)) = wOkB l := by
 unfold wOkB wFormat
 cases hi : ivalid l 10079
 ·simp
 ·obtain ⟨hc, ht⟩ := can_ivalid hi
  by_cases h0 : l = []
  ·simp [h0]
  ·have h1 := wDays_pos hc h0 hin ht
   have h2 := wDays_mod l 7
   simp only [if_true, if_neg h0, Bool.true_and]
   have : (decide (((wDays l 7).length : Int) > 0)) = true := decide_eq_true (by omega)
   rw [this, Bool.true_and]
   exact decide_eq_decide.2 (by omega)
theorem c_rWritten (l : List TRng) (hl : l.length < 100000) (hin : ∀ r ∈ l, RIn r) : PFun Tryz.prog Gl 77 [.sl (l.map eRng)] fun r => r = .bool (wOkB l) := by
 rw [← wOkB_eq l hin]
 (refine PFun.of hT Tryz.func77 rfl fun B hD => ?_; refine pw_norm rfl ?_)
 (repeat' (first | refine zS ?_ | refine zq5 ?_ | refine zq6 ?_ | (refine zT ?_ ?_ <;> intro h <;> first | exact zX | refine zNq ?_)))
 exact ret2 _ rfl rfl rfl
instance (l : List TRng) : ConF Tryz.prog Gl 77 [.sl (l.map eRng)] (l.length < 100000 ∧ ∀ r ∈ l, RIn r) (.bool (wOkB l)) := ⟨e77, fun h => c_rWritten l h.1 h.2⟩
attribute [local irreducible] wOkB
end
section
variable {Gl : Glob}
attribute [local irreducible] PW PWL OpP PCalls PWO PWT
structure IBig (t : TInt) : Prop where
 groups : t.groups.length < 1000000
 services : t.services.length < 1000000
 windows : t.windows.length < 1000000
 stms : t.stms.length < 1000000
 pubs : t.pubs.length < 1000000
 hids : t.hids.length < 1000000
 gitems : ∀ d ∈ t.groups, d.items.length < 1000000
 sitems : ∀ d ∈ t.services, d.items.length < 1000000
 active : ∀ d ∈ t.windows, d.active.length < 1000000
theorem c_sameDefs (l : List TDef) (hl : l.length < 1000000) (hi : ∀ d ∈ l, d.items.length < 1000000) : PFun Tryz.prog Gl 53 [.sl (l.map eDef), .sl (l.map eDef)] fun r => r = .bool true := by
 (refine PFun.of hT Tryz.func53 rfl fun B hD => ?_; refine pw_norm rfl ?_)
 have hat : ∀ i, (l.getD i default).items.length < 1000000 := fun i => by
  rw [List.getD]
  cases h : l[i]? with
  | none => exact (by decide : (0 : Nat) < 1000000)
  | some x => exact hi x (List.mem_of_getElem? h)
 (repeat' (first | refine zS ?_ | refine zq5 ?_ | refine zq6 ?_ | (refine zT ?_ ?_ <;> intro h <;> first | exact zX | refine zNq ?_)))
 refine pw_for hD (fun i : Nat => [(5, .int .i64 i)]) (fun _ => []) (fun i => i ≤ l.length) (fun i => l.length - i) 0 (Nat.zero_le _) 0 rfl (fun _ => rfl) (by (exact zLes)) (fun _ => rfl) (fun _ => rfl) (by (exact zLe)) ?_
 intro i hi
 have hat := hat i
 (repeat' (first | (refine zDr [[0,1,2,3,4,5,6,7,8,9,10,11,12,13,14,15,16]] ?_; refine zDn ?_) | (refine zDr [[0,1,2,3,4,5,6,7,8,9,10,11,12,13,14,15,16,17,18,19,20,21,22,23,24,25]] ?_; refine zDn ?_) | refine zS ?_ | refine zD ?_ | refine po_both ?_ ?_ | refine pwt_both ?_ ?_ | refine pwt_fork ?_ | refine pwt_lin ?_ | (refine po_test rfl rfl rfl rfl zB ?_ ?_ <;> intro hb <;> first | exact zX | refine zDn ?_) | refine zq5 ?_ | refine zq6 ?_ | (refine zT ?_ ?_ <;> intro h <;> first | exact zX | refine zNq ?_)))
 ·exact (hb rfl).elim
 ·refine pw_for hD (fun k : Nat => [(6, .int .i64 k)]) (fun _ => []) (fun k => k ≤ (l.getD i default).items.length) (fun k => (l.getD i default).items.length - k) 0 (Nat.zero_le _) 0 rfl (fun _ => rfl) (by (exact zLes)) (fun _ => rfl) (fun _ => rfl) (by (exact zLe)) ?_
  intro k hk
  (repeat' (first | (refine zDr [[0,1,2,3,4,5,6,7,8,9,10,11,12,13,14,15,16]] ?_; refine zDn ?_) | (refine zDr [[0,1,2,3,4,5,6,7,8,9,10,11,12,13,14,15,16,17,18,19,20,21,22,23,24,25]] ?_; refine zDn ?_) | refine zS ?_ | refine zD ?_ | refine po_both ?_ ?_ | refine pwt_both ?_ ?_ | refine pwt_fork ?_ | refine pwt_lin ?_ | (refine po_test rfl rfl rfl rfl zB ?_ ?_ <;> intro hb <;> first | exact zX | refine zDn ?_) | refine zq5 ?_ | refine zq6 ?_ | (refine zT ?_ ?_ <;> intro h <;> first | exact zX | refine zNq ?_)))
  ·simp at h
  ·exact ⟨k + 1, by omega, by omega, by (exact zLe), by (exact zLes)⟩
  ·exact ⟨i + 1, by omega, by omega, by (exact zLe), by (exact zLes)⟩
 ·exact ret2 _ rfl rfl rfl
instance (l : List TDef) : ConF Tryz.prog Gl 53 [.sl (l.map eDef), .sl (l.map eDef)] (l.length < 1000000 ∧ ∀ d ∈ l, d.items.length < 1000000) (.bool true) := ⟨e53, fun h => c_sameDefs l h.1 h.2⟩
theorem c_same (t : TInt) (hb : IBig t) : PFun Tryz.prog Gl 22 [eIntent t, eIntent t] fun r => r = .bool true := by
 (refine PFun.of hT Tryz.func22 rfl fun B hD => ?_; refine pw_norm rfl ?_)
 have h1 := hb.groups
 have h2 := hb.services
 have h3 := hb.windows
 have h4 := hb.stms
 have h5 := hb.pubs
 have h6 := hb.hids
 have h7 := hb.gitems
 have h8 := hb.sitems
 have h9 : ∀ i, (t.windows.getD i default).active.length < 1000000 := fun i => by
  rw [List.getD]
  cases h : t.windows[i]? with
  | none => exact (by decide : (0 : Nat) < 1000000)
  | some x => exact hb.active x (List.mem_of_getElem? h)
 (repeat' (first | refine zS ?_ | refine zq5 ?_ | refine zq6 ?_ | (refine zT ?_ ?_ <;> intro h <;> first | exact zX | refine zNq ?_)))
 refine pw_for hD (fun i : Nat => [(5, .int .i64 i)]) (fun _ => [.box [.sl (t.groups.map eDef), .sl (t.services.map eDef), .sl (t.windows.map eWin), .sl (t.stms.map eStm), .sl (t.pubs.map ePub), .sl (t.hids.map eHid)], .box [.sl (t.groups.map eDef), .sl (t.services.map eDef), .sl (t.windows.map eWin), .sl (t.stms.map eStm), .sl (t.pubs.map ePub), .sl (t.hids.map eHid)]]) (fun i => i ≤ t.windows.length) (fun i => t.windows.length - i) 0 (Nat.zero_le _) 2 rfl (fun _ => rfl) (by (exact zLes)) (fun _ => rfl) (fun _ => rfl) (by (exact zLe)) ?_
 intro i hi
 have h9 := h9 i
 (repeat' (first | (refine zDr [[0,1,2,3,4,5,6,7,8,9,10]] ?_; refine zDn ?_) | (refine pw_drawF [(0, true), (1, true), (2, true), (3, true), (4, true), (5, true), (6, true), (7, true), (8, true), (9, true)] 10 [(11, false), (12, false), (13, false)] 11 [(10, false), (12, false), (13, false)] hmix (by decide +kernel) ?_; refine zDn ?_) | refine zS ?_ | refine zD ?_ | refine po_both ?_ ?_ | refine pwt_both ?_ ?_ | refine pwt_fork ?_ | refine pwt_lin ?_ | (refine po_test rfl rfl rfl rfl zB ?_ ?_ <;> intro hb <;> first | exact zX | refine zDn ?_) | refine zq5 ?_ | refine zq6 ?_ | (refine zT ?_ ?_ <;> intro h <;> first | exact zX | refine zNq ?_)))
 ·exact ((h.elim (fun q => q rfl) fun q => q rfl)).elim
 ·refine pw_for hD (fun k : Nat => [(8, .int .i64 k)]) (fun _ => [.box [.sl (t.groups.map eDef), .sl (t.services.map eDef), .sl (t.windows.map eWin), .sl (t.stms.map eStm), .sl (t.pubs.map ePub), .sl (t.hids.map eHid)], .box [.sl (t.groups.map eDef), .sl (t.services.map eDef), .sl (t.windows.map eWin), .sl (t.stms.map eStm), .sl (t.pubs.map ePub), .sl (t.hids.map eHid)], .box [.str (t.windows.getD i default).name, .sl ((t.windows.getD i default).active.map eRng)], .box [.str (t.windows.getD i default).name, .sl ((t.windows.getD i default).active.map eRng)]]) (fun k => k ≤ (t.windows.getD i default).active.length) (fun k => (t.windows.getD i default).active.length - k) 0 (Nat.zero_le _) 4 rfl (fun _ => rfl) (by (exact zLes)) (fun _ => rfl) (fun _ => rfl) (by (exact zLe)) ?_
  intro k hk
  (repeat' (first | (refine zDr [[0,1,2,3,4,5,6,7,8,9,10]] ?_; refine zDn ?_) | (refine pw_drawF [(0, true), (1, true), (2, true), (3, true), (4, true), (5, true), (6, true), (7, true), (8, true), (9, true)] 10 [(11, false), (12, false), (13, false)] 11 [(10, false), (12, false), (13, false)] hmix (by decide +kernel) ?_; refine zDn ?_) | refine zS ?_ | refine zD ?_ | refine po_both ?_ ?_ | refine pwt_both ?_ ?_ | refine pwt_fork ?_ | refine pwt_lin ?_ | (refine po_test rfl rfl rfl rfl zB ?_ ?_ <;> intro hb <;> first | exact zX | refine zDn ?_) | refine zq5 ?_ | refine zq6 ?_ | (refine zT ?_ ?_ <;> intro h <;> first | exact zX | refine zNq ?_)))
  ·simp at h
  ·exact ⟨k + 1, by omega, by omega, by (exact zLe), by (exact zLes)⟩
  ·exact ⟨i + 1, by omega, by omega, by (exact zLe), by (exact zLes)⟩
 ·exact ((h.elim (fun q => q rfl) fun q => q rfl)).elim
 ·refine pw_for hD (fun k : Nat => [(8, .int .i64 k)]) (fun _ => [.box [.sl (t.groups.map eDef), .sl (t.services.map eDef), .sl (t.windows.map eWin), .sl (t.stms.map eStm), .sl (t.pubs.map ePub), .sl (t.hids.map eHid)], .box [.sl (t.groups.map eDef), .sl (t.services.map eDef), .sl (t.windows.map eWin), .sl (t.stms.map eStm), .sl (t.pubs.map ePub), .sl (t.hids.map eHid)], .box [.str (t.windows.getD i default).name, .sl ((t.windows.getD i default).active.map eRng)], .box [.str (t.windows.getD i default).name, .sl ((t.windows.getD i default).active.map eRng)]]) (fun k => k ≤ (t.windows.getD i default).active.length) (fun k => (t.windows.getD i default).active.length - k) 0 (Nat.zero_le _) 4 rfl (fun _ => rfl) (by (exact zLes)) (fun _ => rfl) (fun _ => rfl) (by (exact zLe)) ?_
  intro k hk
  (repeat' (first | (refine zDr [[0,1,2,3,4,5,6,7,8,9,10]] ?_; refine zDn ?_) | (refine pw_drawF [(0, true), (1, true), (2, true), (3, true), (4, true), (5, true), (6, true), (7, true), (8, true), (9, true)] 10 [(11, false), (12, false), (13, false)] 11 [(10, false), (12, false), (13, false)] hmix (by decide +kernel) ?_; refine zDn ?_) | refine zS ?_ | refine zD ?_ | refine po_both ?_ ?_ | refine pwt_both ?_ ?_ | refine pwt_fork ?_ | refine pwt_lin ?_ | (refine po_test rfl rfl rfl rfl zB ?_ ?_ <;> intro hb <;> first | exact zX | refine zDn ?_) | refine zq5 ?_ | refine zq6 ?_ | (refine zT ?_ ?_ <;> intro h <;> first | exact zX | refine zNq ?_)))
  ·simp at h
  ·exact ⟨k + 1, by omega, by omega, by (exact zLe), by (exact zLes)⟩
  ·exact ⟨i + 1, by omega, by omega, by (exact zLe), by (exact zLes)⟩
 refine pw_for hD (fun i : Nat => [(9, .int .i64 i)]) (fun _ => [.box [.sl (t.groups.map eDef), .sl (t.services.map eDef), .sl (t.windows.map eWin), .sl (t.stms.map eStm), .sl (t.pubs.map ePub), .sl (t.hids.map eHid)], .box [.sl (t.groups.map eDef), .sl (t.services.map eDef), .sl (t.windows.map eWin), .sl (t.stms.map eStm), .sl (t.pubs.map ePub), .sl (t.hids.map eHid)]]) (fun i => i ≤ t.stms.length) (fun i => t.stms.length - i) 0 (Nat.zero_le _) 2 rfl (fun _ => rfl) (by (exact zLes)) (fun _ => rfl) (fun _ => rfl) (by (exact zLe)) ?_
 intro i hi
 (repeat' (first | (refine zDr [[0,1,2,3,4,5,6,7,8,9,10]] ?_; refine zDn ?_) | (refine pw_drawF [(0, true), (1, true), (2, true), (3, true), (4, true), (5, true), (6, true), (7, true), (8, true), (9, true)] 10 [(11, false), (12, false), (13, false)] 11 [(10, false), (12, false), (13, false)] hmix (by decide +kernel) ?_; refine zDn ?_) | refine zS ?_ | refine zD ?_ | refine po_both ?_ ?_ | refine pwt_both ?_ ?_ | refine pwt_fork ?_ | refine pwt_lin ?_ | (refine po_test rfl rfl rfl rfl zB ?_ ?_ <;> intro hb <;> first | exact zX | refine zDn ?_) | refine zq5 ?_ | refine zq6 ?_ | (refine zT ?_ ?_ <;> intro h <;> first | exact zX | refine zNq ?_)))
 ·simp at h
 ·exact ⟨i + 1, by omega, by omega, by (exact zLe), by (exact zLes)⟩
 refine pw_for hD (fun i : Nat => [(10, .int .i64 i)]) (fun _ => [.box [.sl (t.groups.map eDef), .sl (t.services.map eDef), .sl (t.windows.map eWin), .sl (t.stms.map eStm), .sl (t.pubs.map ePub), .sl (t.hids.map eHid)], .box [.sl (t.groups.map eDef), .sl (t.services.map eDef), .sl (t.windows.map eWin), .sl (t.stms.map eStm), .sl (t.pubs.map ePub), .sl (t.hids.map eHid)]]) (fun i => i ≤ t.pubs.length) (fun i => t.pubs.length - i) 0 (Nat.zero_le _) 2 rfl (fun _ => rfl) (by (exact zLes)) (fun _ => rfl) (fun _ => rfl) (by (exact zLe)) ?_
 intro i hi
 (repeat' (first | (refine zDr [[0,1,2,3,4,5,6,7,8,9,10]] ?_; refine zDn ?_) | (refine pw_drawF [(0, true), (1, true), (2, true), (3, true), (4, true), (5, true), (6, true), (7, true), (8, true), (9, true)] 10 [(11, false), (12, false), (13, false)] 11 [(10, false), (12, false), (13, false)] hmix (by decide +kernel) ?_; refine zDn ?_) | refine zS ?_ | refine zD ?_ | refine po_both ?_ ?_ | refine pwt_both ?_ ?_ | refine pwt_fork ?_ | refine pwt_lin ?_ | (refine po_test rfl rfl rfl rfl zB ?_ ?_ <;> intro hb <;> first | exact zX | refine zDn ?_) | refine zq5 ?_ | refine zq6 ?_ | (refine zT ?_ ?_ <;> intro h <;> first | exact zX | refine zNq ?_)))
 ·simp at h
 ·exact ⟨i + 1, by omega, by omega, by (exact zLe), by (exact zLes)⟩
 refine pw_for hD (fun i : Nat => [(11, .int .i64 i)]) (fun _ => [.box [.sl (t.groups.map eDef), .sl (t.services.map eDef), .sl (t.windows.map eWin), .sl (t.stms.map eStm), .sl (t.pubs.map ePub), .sl (t.hids.map eHid)], .box [.sl (t.groups.map eDef), .sl (t.services.map eDef), .sl (t.windows.map eWin), .sl (t.stms.map eStm), .sl (t.pubs.map ePub), .sl (t.hids.map eHid)]]) (fun i => i ≤ t.hids.length) (fun i => t.hids.length - i) 0 (Nat.zero_le _) 2 rfl (fun _ => rfl) (by (exact zLes)) (fun _ => rfl) (fun _ => rfl) (by (exact zLe)) ?_
 intro i hi
 (repeat' (first | (refine zDr [[0,1,2,3,4,5,6,7,8,9,10]] ?_; refine zDn ?_) | (refine pw_drawF [(0, true), (1, true), (2, true), (3, true), (4, true), (5, true), (6, true), (7, true), (8, true), (9, true)] 10 [(11, false), (12, false), (13, false)] 11 [(10, false), (12, false), (13, false)] hmix (by decide +kernel) ?_; refine zDn ?_) | refine zS ?_ | refine zD ?_ | refine po_both ?_ ?_ | refine pwt_both ?_ ?_ | refine pwt_fork ?_ | refine pwt_lin ?_ | (refine po_test rfl rfl rfl rfl zB ?_ ?_ <;> intro hb <;> first | exact zX | refine zDn ?_) | refine zq5 ?_ | refine zq6 ?_ | (refine zT ?_ ?_ <;> intro h <;> first | exact zX | refine zNq ?_)))
 ·simp at h
 ·exact ⟨i + 1, by omega, by omega, by (exact zLe), by (exact zLes)⟩
 exact ret2 _ rfl rfl rfl

end
end Go.Proofs.YtkaobkjcjodffaaGreatDoor