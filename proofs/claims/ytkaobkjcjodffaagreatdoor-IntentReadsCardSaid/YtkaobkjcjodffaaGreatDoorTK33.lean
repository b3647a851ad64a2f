/-
 Contracts of functions, walked over pure values.
-/
import Derived.Test.YtkaobkjcjodffaaGreatDoorTC6
import Derived.Test.YtkaobkjcjodffaaGreatDoorSPwApX
import Derived.Test.YtkaobkjcjodffaaGreatDoorSPwCopy
import Derived.Test.YtkaobkjcjodffaaGreatDoorTK3
import Derived.Test.YtkaobkjcjodffaaGreatDoorTK13
import Derived.Test.YtkaobkjcjodffaaGreatDoorTM6
import Derived.Test.YtkaobkjcjodffaaGreatDoorTG2
set_option maxHeartbeats 20000000
set_option maxRecDepth 100000
namespace Go.Proofs.YtkaobkjcjodffaaGreatDoor
open Go Go.Pw
section
variable {Gl : Glob}
attribute [local irreducible] PW PWL OpP PCalls PWO vname PWT bothT
def okName (s : Str) : Bool := (s == []) || vname s
theorem c_emptyOrName (s : Str) : PFun Tryz.prog Gl 121 [.str s] fun r => r = .bool (okName s) := by
 (refine PFun.of hT Tryz.func121 rfl fun B hD => ?_; refine pw_norm rfl ?_)
 (repeat' (first | refine zS ?_ | refine zq5 ?_ | refine zq6 ?_ | (refine zT ?_ ?_ <;> intro h <;> first | exact zX | refine zNq ?_)))
 exact ret2 _ rfl rfl rfl
instance iEmptyOrName (s : Str) : ConF Tryz.prog Gl 121 [.str s] True (.bool (okName s)) := ⟨e121, fun _ => c_emptyOrName s⟩
theorem c_optional (s : Str) : PFun Tryz.prog Gl 124 [.str s] fun r => r = .bool (okName s) := by
 (refine PFun.of hT Tryz.func124 rfl fun B hD => ?_; refine pw_norm rfl ?_)
 (repeat' (first | refine zS ?_ | refine zq5 ?_ | refine zq6 ?_ | (refine zT ?_ ?_ <;> intro h <;> first | exact zX | refine zNq ?_)))
 exact ret2 _ rfl rfl rfl
instance iOptional (s : Str) : ConF Tryz.prog Gl 124 [.str s] True (.bool (okName s)) := ⟨e124, fun _ => c_optional s⟩
theorem c_port (n : Int) : PFun Tryz.prog Gl 79 [.int .i64 n] fun r => r = .bool (decide (n ≥ 0) && decide (n ≤ 65535)) := by
 (refine PFun.of hT Tryz.func79 rfl fun B hD => ?_; refine pw_norm rfl ?_)
 (repeat' (first | refine zS ?_ | refine zq5 ?_ | refine zq6 ?_ | (refine zT ?_ ?_ <;> intro h <;> first | exact zX | refine zNq ?_)))
 exact ret2 _ rfl rfl rfl
instance iPort (n : Int) : ConF Tryz.prog Gl 79 [.int .i64 n] True (.bool (decide (n ≥ 0) && decide (n ≤ 65535))) := ⟨e79, fun _ => c_port n⟩
def nameS (s : Str) : Str := if s = [] then [97, 110, 121] else s
theorem c_name (s : Str) : PFun Tryz.prog Gl 86 [.str s] fun r => r = .str (nameS s) := by
 (refine PFun.of hT Tryz.func86 rfl fun B hD => ?_; refine pw_norm rfl ?_)
 unfold nameS
 (repeat' (first | refine zS ?_ | (refine zT ?_ ?_ <;> intro h <;> first | exact zX | refine zNq ?_)))
 ·rw [if_pos h]; exact ret2 _ rfl rfl rfl
 ·rw [if_neg h]; exact ret2 _ rfl rfl rfl
instance iName (s : Str) : ConF Tryz.prog Gl 86 [.str s] True (.str (nameS s)) := ⟨e86, fun _ => c_name s⟩
theorem c_anyOr (s : Str) : PFun Tryz.prog Gl 110 [.str s] fun r => r = .str (nameS s) := by
 (refine PFun.of hT Tryz.func110 rfl fun B hD => ?_; refine pw_norm rfl ?_)
 unfold nameS
 (repeat' (first | refine zS ?_ | (refine zT ?_ ?_ <;> intro h <;> first | exact zX | refine zNq ?_)))
 ·rw [if_pos h]; exact ret2 _ rfl rfl rfl
 ·rw [if_neg h]; exact ret2 _ rfl rfl rfl
instance iAnyOr (s : Str) : ConF Tryz.prog Gl 110 [.str s] True (.str (nameS s)) := ⟨e110, fun _ => c_anyOr s⟩
attribute [local irreducible] okName
def stmNames (s : TStm) : List Str := [s.src, s.dst, s.service, s.cls, s.during, s.exSrc, s.exDst]
def stmRest (s : TStm) : Bool := (((s.permit || s.cls == []) && (s.excepted || (s.exSrc == [] && s.exDst == []))) && decide (s.prio ≥ 0)) && decide (s.prio ≤ 1000)
def vStm (s : TStm) : Bool := (stmNames s).all okName && stmRest s
theorem stmRest_alt (s : TStm) : ((((s.excepted || (s.exSrc == [] && s.exDst == [])) && (s.permit || s.cls == [])) && decide (s.prio ≥ 0)) && decide (s.prio ≤ 1000)) = stmRest s := by
 unfold stmRest
 rw [Bool.and_comm (s.excepted || (s.exSrc == [] && s.exDst == []))]
theorem c_rValidStm (s : TStm) : PFun Tryz.prog Gl 78 [eStm s] fun r => r = .bool (vStm s) := by
 (refine PFun.of hT Tryz.func78 rfl fun B hD => ?_; refine pw_norm rfl ?_)
 unfold vStm
 (repeat' (first | refine zS ?_ | refine zq5 ?_ | refine zq6 ?_ | (refine zT ?_ ?_ <;> intro h <;> first | exact zX | refine zNq ?_)))
 ·have e : (stmNames s).all okName = false := by
   rw [List.all_eq_false]
   rcases h with (((((h | h) | h) | h) | h) | h) | h
   ·exact ⟨_, by simp [stmNames], h⟩
   ·exact ⟨_, by simp [stmNames], h⟩
   ·exact ⟨_, by simp [stmNames], h⟩
   ·exact ⟨_, by simp [stmNames], h⟩
   ·exact ⟨_, by simp [stmNames], h⟩
   ·exact ⟨_, by simp [stmNames], h⟩
   ·exact ⟨_, by simp [stmNames], h⟩
  rw [e]
  exact ret2 _ rfl rfl rfl
 ·have e : (stmNames s).all okName = true := by
   simp only [not_or, Decidable.not_not] at h
   obtain ⟨⟨⟨⟨⟨⟨a, b⟩, c⟩, d⟩, e⟩, f⟩, g⟩ := h
   simp [stmNames, a, b, c, d, e, f, g]
  rw [e, Bool.true_and]
  exact ret2 _ rfl rfl rfl
instance iRValidStm (s : TStm) : ConF Tryz.prog Gl 78 [eStm s] True (.bool (vStm s)) := ⟨e78, fun _ => c_rValidStm s⟩
theorem c_validStm (s : TStm) : PFun Tryz.prog Gl 73 [eStm s] fun r => r = .bool (vStm s) := by
 (refine PFun.of hT Tryz.func73 rfl fun B hD => ?_; refine pw_norm rfl ?_)
 unfold vStm
 (repeat' (first | refine zS ?_ | refine zq5 ?_ | refine zq6 ?_ | (refine zT ?_ ?_ <;> intro h <;> first | exact zX | refine zNq ?_)))
 rw [show [PV.str s.src, .str s.dst, .str s.service, .str s.cls, .str s.during, .str s.exSrc, .str s.exDst] = (stmNames s).map PV.str from rfl]
 have hl : (stmNames s).length = 7 := rfl
 refine pw_for hD (fun i : Nat => [(22, .int .i64 i)]) (fun _ => [.box [.bool s.permit, .str s.src, .str s.dst, .str s.service, .bool s.excepted, .str s.exSrc, .str s.exDst, .str s.cls, .str s.during, .int .i64 s.prio]]) (fun i => i ≤ 7 ∧ ∀ j, j < i → okName ((stmNames s).getD j []) = true) (fun i => 7 - i) 0 ⟨by omega, fun j h => by omega⟩ 1 rfl (fun _ => rfl) zLes (fun _ => rfl) (fun _ => rfl) zLe ?_
 rintro i ⟨hi, hc⟩
 generalize hL : stmNames s = L at hl hc ⊢
 have hl2 : (L.map PV.str).length = 7 := by rw [List.length_map]; exact hl
 (repeat' (first | refine zS ?_ | refine zq5 ?_ | refine zq6 ?_ | (refine zT ?_ ?_ <;> intro h <;> first | exact zX | refine zNq ?_)))
 ·have e : L.all okName = false := by
   rw [List.all_eq_false]
   refine ⟨L.getD i [], ?_, h⟩
   rw [List.getD, List.getElem?_eq_getElem (by omega)]
   exact List.getElem_mem _
  rw [e]
  exact ret2 _ rfl rfl rfl
 ·refine ⟨i + 1, ⟨by omega, fun j hj => ?_⟩, by omega, zLe, zLes⟩
  rcases Nat.lt_succ_iff_lt_or_eq.1 hj with hj | rfl
  ·exact hc j hj
  ·exact Decidable.not_not.1 h
 ·have e : L.all okName = true := List.all_eq_true.2 fun x hx => by
   obtain ⟨j, hj⟩ := List.mem_iff_getElem?.1 hx
   have := hc j (by have := (List.getElem?_eq_some_iff.1 hj).1; omega)
   rwa [List.getD, hj] at this
  rw [e, Bool.true_and, ← stmRest_alt]
  exact ret2 _ rfl rfl rfl
instance iValidStm (s : TStm) : ConF Tryz.prog Gl 73 [eStm s] True (.bool (vStm s)) := ⟨e73, fun _ => c_validStm s⟩
end
section
variable {Gl : Glob}
attribute [local irreducible] PW PWL OpP PCalls PWO PWT bothT
def eInt3 (t : TInt) : PV := .agg [.sl (t.groups.map eDef), .sl (t.services.map eDef), .sl (t.windows.map eWin), .any, .any, .any]
def tdev0 : TDev := ⟨[], 0, false, false, []⟩
def prios5 : List Int := [0, 0, 1, 5, 1000]
structure GStm (x : Topo) (i : TInt) (s : TStm) : Prop where
 src : s.src = [] ∨ ∃ d ∈ i.groups, s.src = d.name
 dst : s.dst = [] ∨ ∃ d ∈ i.groups, s.dst = d.name
 service : s.service = [] ∨ ∃ d ∈ i.services, s.service = d.name
 exc : (s.excepted = true ∧ (s.exSrc = [] ∨ ∃ d ∈ i.groups, s.exSrc = d.name) ∧ (s.exDst = [] ∨ ∃ d ∈ i.groups, s.exDst = d.name)) ∨ (s.excepted = false ∧ s.exSrc = [] ∧ s.exDst = [])
 cls : s.cls = [] ∨ (s.permit = true ∧ ∃ d ∈ x.devs, s.cls = d.cls)
 during : s.during = [] ∨ ∃ d ∈ i.windows, s.during = d.name
 prio : s.prio ∈ prios5
def stmC (s : TStm) : List PV := [.bool s.permit, .str s.src, .str s.dst, .str s.service, .bool s.excepted, .str s.exSrc, .str s.exDst, .str s.cls, .str s.during, .int .i64 s.prio]
theorem c_gStatement (l : List Int) (hl : Tp l) (i : Nat) (hi : i ≤ l.length) (x : Topo) (t : TInt) (h1 : t.groups.length < 900) (h2 : t.services.length < 900) (h3 : t.windows.length < 900) (h4 : x.devs.length < 900) :
  Gen Gl 40 [eTopo x, eInt3 t] l i fun r => ∃ s : TStm, GStm x t s ∧ r = eStm s := by
 refine PCalls.of hT Tryz.func40 rfl 1 (Nat.le_refl _) fun B hD => ?_
 refine pw_norm rfl ?_
 (repeat' (first | refine zS ?_ | refine zq5 ?_ | refine zq6 ?_ | (refine zT ?_ ?_ <;> intro h <;> first | exact zX | refine zNq ?_)))
 refine pw_joinX hD (fun a : Nat × Bool × Str × Str × Str => a.1 ≤ l.length ∧ (a.2.2.1 = [] ∨ ∃ d ∈ t.groups, a.2.2.1 = d.name) ∧ (a.2.2.2.1 = [] ∨ ∃ d ∈ t.groups, a.2.2.2.1 = d.name) ∧ (a.2.2.2.2 = [] ∨ ∃ d ∈ t.services, a.2.2.2.2 = d.name)) (fun _ => [(7, .ptr 4 0)])
  (fun a => [tape l a.1, .box (eTopo x).cells, .box (eInt3 t).cells, .box (stmC ⟨false, [], [], [], false, [], [], [], [], 0⟩), .box (stmC ⟨a.2.1, a.2.2.1, a.2.2.2.1, a.2.2.2.2, false, [], [], [], [], 0⟩)]) 5 rfl (fun _ => rfl) (fun _ => rfl) (fun _ => rfl) ?_ ?_
 ·(refine pw_drawT (.fork [(0, true), (3, true), (4, true), (5, true), (7, true), (8, true), (9, true), (11, true), (12, true), (13, true)] 1 (.fork [(2, true)] 6 (.fork [] 10 (.fork [] 14 (.lin [(15, true), (16, false), (17, false)]) 16 (.lin [(14, false), (15, true), (17, false)])) 16 (.lin [(10, false), (14, false), (15, true), (17, false)])) 16 (.lin [(6, false), (10, false), (14, false), (15, true), (17, false)])) 16 (.lin [(1, false), (2, true), (6, false), (10, false), (14, false), (15, true), (17, false)])) hmix (by decide +kernel) ?_; refine pwt_fork ?_)
  refine zDn ?_
  repeat' (first | refine zD ?_ | refine po_both ?_ ?_ | refine pwt_both ?_ ?_ | refine pwt_fork ?_ | refine pwt_lin ?_ | (refine po_step rfl rfl (op_call [0] rfl rfl e17 (by decide) rfl rfl rfl zLe zLes (c13n l hl _ (by assumption) 3 (by decide) (by decide)) (fun r s hq => ?_)); obtain ⟨j, ⟨m, hm, rfl⟩, hj, rfl⟩ := hq; refine ⟨rfl, rfl, zLok, ?_⟩; refine zDn ?_) | (refine po_step rfl rfl (op_call [0] rfl rfl e88 (by decide) rfl rfl rfl zLe zLes (c_gPick l hl _ (by assumption) _ (by assumption)) (fun r s hq => ?_)); obtain ⟨j, ⟨s, hs, rfl⟩, hj, rfl⟩ := hq; refine ⟨rfl, rfl, zLok, ?_⟩; refine zDn ?_))
  all_goals
   rename_i ja hja jb s1 hs1 hjb jc s2 hs2 hjc
   exact ⟨(j, decide ((m : Int) > 0), s1, s2, s), ⟨hj, hs1, hs2, hs⟩, zLe, zLes⟩
 rintro ⟨j, pm, s1, s2, s3⟩ ⟨hj, hs1, hs2, hs3⟩
 dsimp only at hj hs1 hs2 hs3 ⊢
 unfold stmC
 refine zNq ?_
 (repeat' (first | refine zS ?_ | refine zq5 ?_ | refine zq6 ?_))
 (refine pl_op rfl (zCl [0] e17 (c13n l hl j hj 5 (by decide) (by decide)) (fun r s hq => ?_)); obtain ⟨j1, ⟨m1, hm1, rfl⟩, hj1, rfl⟩ := hq; refine ⟨rfl, rfl, ?_⟩; (refine zNp ?_))
 (repeat' (first | refine zS ?_ | refine zq5 ?_ | refine zq6 ?_))
 refine pw_joinX hD (fun a : Nat × Bool × Str × Str => a.1 ≤ l.length ∧ ((a.2.1 = true ∧ (a.2.2.1 = [] ∨ ∃ d ∈ t.groups, a.2.2.1 = d.name) ∧ (a.2.2.2 = [] ∨ ∃ d ∈ t.groups, a.2.2.2 = d.name)) ∨ (a.2.1 = false ∧ a.2.2.1 = [] ∧ a.2.2.2 = []))) (fun _ => [(27, .any)])
  (fun a => [tape l a.1, .box (eTopo x).cells, .box (eInt3 t).cells, .box (stmC ⟨false, [], [], [], false, [], [], [], [], 0⟩), .box (stmC ⟨pm, s1, s2, s3, a.2.1, a.2.2.1, a.2.2.2, [], [], 0⟩)]) 5 rfl (fun _ => rfl) (fun _ => rfl) (fun _ => rfl) ?_ ?_
 ·refine zT ?_ ?_ <;> intro h <;> refine zNq ?_
  ·(repeat' (first | refine zS ?_ | refine zq5 ?_ | refine zq6 ?_))
   refine zDr [[0,1,2,4,5,6,8],[3,7,9],[10],[11],[12],[13]] ?_
   refine zDn ?_
   refine zD ?_
   (refine po_step rfl rfl (zCl [0] e88 (c_gPick l hl j1 hj1 t.groups h1) (fun r s hq => ?_)); obtain ⟨j2, ⟨e1, he1, rfl⟩, hj2, rfl⟩ := hq; refine ⟨rfl, rfl, zLok, ?_⟩; refine zDn ?_)
   (refine po_step rfl rfl (zCl [0] e88 (c_gPick l hl j2 hj2 t.groups h1) (fun r s hq => ?_)); obtain ⟨j3, ⟨e2, he2, rfl⟩, hj3, rfl⟩ := hq; refine ⟨rfl, rfl, zLok, ?_⟩; refine zDn ?_)
   refine zD ?_
   exact ⟨(j3, true, e1, e2), ⟨hj3, .inl ⟨rfl, he1, he2⟩⟩, zLe, zLes⟩
  ·(repeat' (first | refine zS ?_ | refine zq5 ?_ | refine zq6 ?_))
   exact ⟨(j1, false, [], []), ⟨hj1, .inr ⟨rfl, rfl, rfl⟩⟩, zLe, zLes⟩
 rintro ⟨j, ex, e1, e2⟩ ⟨hj, hex⟩
 dsimp only at hj hex ⊢
 unfold stmC
 refine zNq ?_
 (repeat' (first | refine zS ?_ | refine zq5 ?_ | refine zq6 ?_))
 (refine pl_op rfl (zCl [0] e17 (c13 l hl j hj (x.devs.length : Int) (by omega)) (fun r s hq => ?_)); obtain ⟨m, j1, rfl, hm0, hm1, hj1, rfl⟩ := hq; refine ⟨rfl, rfl, ?_⟩; (refine zNp ?_))
 obtain ⟨m, rfl⟩ : ∃ n : Nat, m = (n : Int) := ⟨m.toNat, by omega⟩
 (repeat (first | refine pl_pure hT rfl ?_ | (refine pl_op rfl (op_storeF hT rfl rfl rfl rfl rfl rfl rfl rfl (Nat.le_of_ble_eq_true rfl) ?_); (first | refine pl_norm rfl ?_ | refine pl_normE rfl ?_))))
 refine pl_nil ?_
 refine zNq ?_
 refine pw_joinX hD (fun a : Nat × Str => a.1 ≤ l.length ∧ (a.2 = [] ∨ (pm = true ∧ ∃ d ∈ x.devs, a.2 = d.cls))) (fun _ => [])
  (fun a => [tape l a.1, .box (eTopo x).cells, .box (eInt3 t).cells, .box (stmC ⟨false, [], [], [], false, [], [], [], [], 0⟩), .box (stmC ⟨pm, s1, s2, s3, ex, e1, e2, a.2, [], 0⟩)]) 5 rfl (fun _ => rfl) (fun _ => rfl) (fun _ => rfl) ?_ ?_
 ·cases pm
  ·(repeat' (first | refine zS ?_ | refine zq5 ?_ | refine zq6 ?_))
   exact ⟨(j1, []), ⟨hj1, .inl rfl⟩, zLe, zLes⟩
  ·(repeat' (first | refine zS ?_ | refine zq5 ?_ | refine zq6 ?_))
   (refine pl_on rfl rfl (zCl [0] e17 (c13n l hl j1 hj1 4 (by decide) (by decide)) (fun r s hq => ?_)); obtain ⟨j2, ⟨m2, hm2, rfl⟩, hj2, rfl⟩ := hq; refine ⟨rfl, rfl, ?_⟩; (refine zNp ?_))
   (repeat' (first | refine zS ?_ | refine zq5 ?_ | refine zq6 ?_))
   refine zT ?_ ?_ <;> intro h <;> refine zNq ?_
   ·have hml : m < x.devs.length := by omega
    (repeat' (first | refine zS ?_ | refine zq5 ?_ | refine zq6 ?_))
    (refine pl_op rfl (op_of (v_index (p := eDev (x.devs.getD m tdev0)) hT rfl rfl rfl rfl (by omega) (lit_at eDev x.devs m tdev0 hml) rfl) ?_); (refine zNp ?_))
    (repeat' (first | refine zS ?_ | refine zq5 ?_ | refine zq6 ?_))
    exact ⟨(j2, (x.devs.getD m tdev0).cls), ⟨hj2, .inr ⟨rfl, _, getD_mem hml, rfl⟩⟩, zLe, zLes⟩
   ·(repeat' (first | refine zS ?_ | refine zq5 ?_ | refine zq6 ?_))
    exact ⟨(j2, []), ⟨hj2, .inl rfl⟩, zLe, zLes⟩
 rintro ⟨j', cls⟩ ⟨hj', hcls⟩
 dsimp only at hj' hcls ⊢
 unfold stmC
 refine zNq ?_
 refine pw_seq ?_
 refine pw_joinX hD (fun a : Nat × Str => a.1 ≤ l.length ∧ (a.2 = [] ∨ ∃ d ∈ t.windows, a.2 = d.name)) (fun _ => [])
  (fun a => [tape l a.1, .box (eTopo x).cells, .box (eInt3 t).cells, .box (stmC ⟨false, [], [], [], false, [], [], [], [], 0⟩), .box (stmC ⟨pm, s1, s2, s3, ex, e1, e2, cls, a.2, 0⟩)]) 5 rfl (fun _ => rfl) (fun _ => rfl) (fun _ => rfl) ?_ ?_
 ·(repeat' (first | refine zS ?_ | refine zq5 ?_ | refine zq6 ?_))
  refine pl_split 69 rfl (fun hw => ?_) (fun hw => ?_)
  ·have hw0 : 0 < t.windows.length := by simpa using hw
   (repeat' (first | refine zS ?_ | refine zq5 ?_ | refine zq6 ?_))
   (refine pl_on rfl rfl (zCl [0] e17 (c13n l hl j' hj' 3 (by decide) (by decide)) (fun r s hq => ?_)); obtain ⟨j2, ⟨m2, hm2, rfl⟩, hj2, rfl⟩ := hq; refine ⟨rfl, rfl, ?_⟩; (refine zNp ?_))
   (repeat' (first | refine zS ?_ | refine zq5 ?_ | refine zq6 ?_))
   refine zT ?_ ?_ <;> intro h <;> refine zNq ?_
   ·(repeat' (first | refine zS ?_ | refine zq5 ?_ | refine zq6 ?_))
    refine zDr [[0,1,2,3,4,5],[6],[7,8,9,10],[11]] ?_
    refine zDn ?_
    refine zD ?_
    (refine po_step rfl rfl (zCl [0] e17 (c13n l hl j2 hj2 t.windows.length hw0 (by omega)) (fun r s hq => ?_)); obtain ⟨j3, ⟨m3, hm3, rfl⟩, hj3, rfl⟩ := hq; refine ⟨rfl, rfl, zLok, ?_⟩; refine zDn ?_)
    (refine po_val rfl rfl (v_index (p := eWin (t.windows.getD m3 default)) hT rfl rfl rfl rfl (by omega) (lit_at eWin t.windows m3 default hm3) rfl) ?_; refine zDn ?_)
    refine zD ?_
    exact ⟨(j3, (t.windows.getD m3 default).name), ⟨hj3, .inr ⟨_, getD_mem hm3, rfl⟩⟩, zLe, zLes⟩
   ·(repeat' (first | refine zS ?_ | refine zq5 ?_ | refine zq6 ?_))
    exact ⟨(j2, []), ⟨hj2, .inl rfl⟩, zLe, zLes⟩
  ·(repeat' (first | refine zS ?_ | refine zq5 ?_ | refine zq6 ?_))
   exact ⟨(j', []), ⟨hj', .inl rfl⟩, zLe, zLes⟩
 rintro ⟨j2, during⟩ ⟨hj2, hdur⟩
 dsimp only at hj2 hdur ⊢
 unfold stmC
 refine zNq ?_
 (repeat' (first | refine zS ?_ | refine zq5 ?_ | refine zq6 ?_))
 (refine pl_op rfl (zCl [0] e17 (c13n l hl j2 hj2 5 (by decide) (by decide)) (fun r s hq => ?_)); obtain ⟨j3, ⟨m3, hm3, rfl⟩, hj3, rfl⟩ := hq; refine ⟨rfl, rfl, ?_⟩; (refine zNp ?_))
 (repeat' (first | refine zS ?_ | refine zq5 ?_ | refine zq6 ?_))
 (refine pl_op rfl (op_of (v_index (p := .int .i64 (prios5.getD m3 0)) hT rfl rfl rfl rfl (by omega) (lit_at (.int .i64) prios5 m3 0 hm3) rfl) ?_); (refine zNp ?_))
 (repeat' (first | refine zS ?_ | refine zq5 ?_ | refine zq6 ?_))
 exact ⟨_, _, _, rfl, ⟨j3, ⟨⟨pm, s1, s2, s3, ex, e1, e2, cls, during, prios5.getD m3 0⟩, ⟨hs1, hs2, hs3, hex, hcls, hdur, getD_mem hm3⟩, rfl⟩, hj3, rfl⟩, .inr (.inl rfl), ⟨.inr (.inl rfl), trivial⟩, rfl, rfl⟩
attribute [local irreducible] vname wParse wFormat
theorem firstAt_step {α : Type} [Inhabited α] (p : α → Bool) (l : List α) {i : Nat} (hi : i < l.length) (hno : ∀ j, j < i → p (l.getD j default) = false) (h : p (l.getD i default) = true) : firstAt p l = i := by
 have e : l.getD i default = l[i] := by rw [List.getD, List.getElem?_eq_getElem hi]; rfl
 rw [e] at h
 exact firstAt_hit hi h fun j d hj hd => by
  have := hno j hj
  rwa [List.getD, hd] at this
theorem firstAt_none {α : Type} [Inhabited α] (p : α → Bool) (l : List α) (hno : ∀ j, j < l.length → p (l.getD j default) = false) : firstAt p l = -1 := firstAt_miss fun j x hj => by
 have := hno j (List.getElem?_eq_some_iff.1 hj).1
 rwa [List.getD, hj] at this
theorem c_rFind (l : List TDef) (name : Str) (hl : l.length < 4294967296) : PFun Tryz.prog Gl 122 [.sl (l.map eDef), .str name] fun r => r = .int .i64 (firstAt (fun d => d.name == name) l) := by
 (refine PFun.of hT Tryz.func122 rfl fun B hD => ?_; refine pw_norm rfl ?_)
 (repeat' (first | refine zS ?_ | (refine zT ?_ ?_ <;> intro h <;> first | exact zX | refine zNq ?_)))
 refine pw_for hD (fun i : Nat => [(5, .int .i64 i)]) (fun _ => []) (fun i => i ≤ l.length ∧ ∀ j, j < i → ((l.getD j default).name == name) = false) (fun i => l.length - i) 0 ⟨Nat.zero_le _, fun j h => by omega⟩ 0 rfl (fun _ => rfl) zLes (fun _ => rfl) (fun _ => rfl) zLe ?_
 rintro i ⟨hi, hno⟩
 (repeat' (first | refine zS ?_ | (refine zT ?_ ?_ <;> intro h <;> first | exact zX | refine zNq ?_)))
 ·rw [firstAt_step _ l (by omega) hno (by rw [beq_iff_eq]; exact h)]
  exact ret2 _ rfl rfl rfl
 ·refine ⟨i + 1, ⟨by omega, fun j hj => ?_⟩, by omega, zLe, zLes⟩
  rcases Nat.lt_succ_iff_lt_or_eq.1 hj with hj | rfl
  ·exact hno j hj
  ·rw [beq_eq_false_iff_ne]; exact h
 ·rw [firstAt_none _ l fun j hj => hno j (by omega)]
  exact ret2 _ rfl rfl rfl
instance (l : List TDef) (name : Str) : ConF Tryz.prog Gl 122 [.sl (l.map eDef), .str name] (l.length < 4294967296) (.int .i64 (firstAt (fun d => d.name == name) l)) := ⟨e122, fun h => c_rFind l name h⟩
theorem c_rFindW (l : List TWin) (name : Str) (hl : l.length < 4294967296) : PFun Tryz.prog Gl 76 [.sl (l.map eWin), .str name] fun r => r = .int .i64 (firstAt (fun d => d.name == name) l) := by
 (refine PFun.of hT Tryz.func76 rfl fun B hD => ?_; refine pw_norm rfl ?_)
 (repeat' (first | refine zS ?_ | (refine zT ?_ ?_ <;> intro h <;> first | exact zX | refine zNq ?_)))
 refine pw_for hD (fun i : Nat => [(5, .int .i64 i)]) (fun _ => []) (fun i => i ≤ l.length ∧ ∀ j, j < i → ((l.getD j default).name == name) = false) (fun i => l.length - i) 0 ⟨Nat.zero_le _, fun j h => by omega⟩ 0 rfl (fun _ => rfl) zLes (fun _ => rfl) (fun _ => rfl) zLe ?_
 rintro i ⟨hi, hno⟩
 (repeat' (first | refine zS ?_ | (refine zT ?_ ?_ <;> intro h <;> first | exact zX | refine zNq ?_)))
 ·rw [firstAt_step _ l (by omega) hno (by rw [beq_iff_eq]; exact h)]
  exact ret2 _ rfl rfl rfl
 ·refine ⟨i + 1, ⟨by omega, fun j hj => ?_⟩, by omega, zLe, zLes⟩
  rcases Nat.lt_succ_iff_lt_or_eq.1 hj with hj | rfl
  ·exact hno j hj
  ·rw [beq_eq_false_iff_ne]; exact h
 ·rw [firstAt_none _ l fun j hj => hno j (by omega)]
  exact ret2 _ rfl rfl rfl
instance (l : List TWin) (name : Str) : ConF Tryz.prog Gl 76 [.sl (l.map eWin), .str name] (l.length < 4294967296) (.int .i64 (firstAt (fun d => d.name == name) l)) := ⟨e76, fun h => c_rFindW l name h⟩
end
section
variable {Gl : Glob}
attribute [local irreducible] PW PWL OpP PCalls PWO vname vItem PWT bothT
def dHead (l : List TDef) (i : Nat) : Bool := ((vname (l.getD i default).name && decide (firstAt (fun x : TDef => x.name == (l.getD i default).name) l = i)) && decide (1 ≤ (l.getD i default).items.length)) && decide ((l.getD i default).items.length ≤ 16)
def dOk (l : List TDef) (sv : Bool) (i : Nat) : Bool := dHead l i && (l.getD i default).items.all fun x => vItem x sv
def vDefs (l : List TDef) (sv : Bool) : Bool := decide (l.length ≤ 32) && (List.range l.length).all (dOk l sv)
instance iRValidItem (x : TItem) (g : Bool) : ConF Tryz.prog Gl 123 [.agg [.int .i64 x.kind, .str x.name, .int .u32 x.pfx.addr, .int .i64 x.pfx.bits, .int .i64 x.proto, .int .u32 x.ports.lo, .int .u32 x.ports.hi], .bool g] (ItIn x) (.bool (vItem x (!g))) := ⟨e123, fun h => c_rValidItem x g h⟩
theorem getD_memD {α : Type} [Inhabited α] {L : List α} {k : Nat} (h : k < L.length) : L.getD k default ∈ L := by
 rw [List.getD, List.getElem?_eq_getElem h]; exact List.getElem_mem h
theorem dHead_iff (l : List TDef) (i : Nat) : dHead l i = true ↔ ¬ (((¬ vname (l.getD i default).name = true ∨ ¬ firstAt (fun x : TDef => x.name == (l.getD i default).name) l = i) ∨ ((l.getD i default).items.length : Int) < 1) ∨ ((l.getD i default).items.length : Int) > 16) := by
 unfold dHead
 simp only [Bool.and_eq_true, decide_eq_true_eq]
 constructor
 ·rintro ⟨⟨⟨a, b⟩, c⟩, d⟩ (((q | q) | q) | q)
  ·exact q a
  ·exact q b
  ·omega
  ·omega
 ·intro q
  refine ⟨⟨⟨Decidable.not_not.1 fun a => q (.inl (.inl (.inl a))), Decidable.not_not.1 fun a => q (.inl (.inl (.inr a)))⟩, Decidable.not_not.1 fun a => q (.inl (.inr (by omega)))⟩, Decidable.not_not.1 fun a => q (.inr (by omega))⟩
theorem dOk_fail {l : List TDef} {sv : Bool} {i : Nat} (hi : i < l.length) (h : dOk l sv i = false) : (List.range l.length).all (dOk l sv) = false :=
 List.all_eq_false.2 ⟨i, List.mem_range.2 hi, by rw [h]; decide⟩
theorem c_rValidDefs (l : List TDef) (g : Bool) (hl : l.length < 1000000) (hi : ∀ d ∈ l, d.items.length < 1000000) (hx : ∀ d ∈ l, ∀ x ∈ d.items, ItIn x) : PFun Tryz.prog Gl 74 [.sl (l.map eDef), .bool g] fun r => r = .bool (vDefs l (!g)) := by
 (refine PFun.of hT Tryz.func74 rfl fun B hD => ?_; refine pw_norm rfl ?_)
 have hat : ∀ i, (l.getD i default).items.length < 1000000 := fun i => by
  rw [List.getD]
  cases h : l[i]? with
  | none => exact (by decide : (0 : Nat) < 1000000)
  | some x => exact hi x (List.mem_of_getElem? h)
 have hxt : ∀ i k, ItIn ((l.getD i default).items.getD k default) := fun i k => by
  rw [List.getD, List.getD]
  cases h : l[i]? with
  | none =>
   show ItIn ((([] : List TItem)[k]?).getD default)
   rw [List.getElem?_nil]
   exact ⟨⟨Int.le_refl 0, by decide⟩, Int.le_refl 0⟩
  | some x =>
   show ItIn ((x.items[k]?).getD default)
   cases h2 : x.items[k]? with
   | none => exact ⟨⟨Int.le_refl 0, by decide⟩, Int.le_refl 0⟩
   | some y => exact hx x (List.mem_of_getElem? h) y (List.mem_of_getElem? h2)
 unfold vDefs
 (repeat' (first | refine zS ?_ | refine zq5 ?_ | refine zq6 ?_ | (refine zT ?_ ?_ <;> intro h <;> first | exact zX | refine zNq ?_)))
 ·rw [decide_eq_false (by omega), Bool.false_and]
  exact ret2 _ rfl rfl rfl
 rw [decide_eq_true (by omega), Bool.true_and]
 refine pw_for hD (fun i : Nat => [(5, .int .i64 i)]) (fun _ => []) (fun i => i ≤ l.length ∧ ∀ j, j < i → dOk l (!g) j = true) (fun i => l.length - i) 0 ⟨Nat.zero_le _, fun j h => by omega⟩ 0 rfl (fun _ => rfl) zLes (fun _ => rfl) (fun _ => rfl) zLe ?_
 rintro i ⟨hi, hc⟩
 have hat := hat i
 (repeat' (first | refine zS ?_ | refine zD ?_ | refine po_both ?_ ?_ | refine pwt_both ?_ ?_ | refine pwt_fork ?_ | refine pwt_lin ?_ | (refine po_test rfl rfl rfl rfl zB ?_ ?_ <;> intro hb <;> first | exact zX | refine zDn ?_) | refine zq5 ?_ | refine zq6 ?_ | (refine zT ?_ ?_ <;> intro h <;> first | exact zX | refine zNq ?_)))
 ·have e : dOk l (!g) i = false := by
   unfold dOk
   rw [show dHead l i = false from by rw [Bool.eq_false_iff]; exact fun q => (dHead_iff l i).1 q h, Bool.false_and]
  rw [dOk_fail (by omega) e]
  exact ret2 _ rfl rfl rfl
 ·have hh : dHead l i = true := (dHead_iff l i).2 h
  refine pw_for hD (fun k : Nat => [(6, .int .i64 k)]) (fun _ => []) (fun k => k ≤ (l.getD i default).items.length ∧ ∀ j, j < k → vItem ((l.getD i default).items.getD j default) (!g) = true) (fun k => (l.getD i default).items.length - k) 0 ⟨Nat.zero_le _, fun j h => by omega⟩ 0 rfl (fun _ => rfl) zLes (fun _ => rfl) (fun _ => rfl) zLe ?_
  rintro k ⟨hk, hkc⟩
  have hxt := hxt i k
  (repeat' (first | refine zS ?_ | refine zD ?_ | refine po_both ?_ ?_ | refine pwt_both ?_ ?_ | refine pwt_fork ?_ | refine pwt_lin ?_ | (refine po_test rfl rfl rfl rfl zB ?_ ?_ <;> intro hb <;> first | exact zX | refine zDn ?_) | refine zq5 ?_ | refine zq6 ?_ | (refine zT ?_ ?_ <;> intro h <;> first | exact zX | refine zNq ?_)))
  ·have e : dOk l (!g) i = false := by
    unfold dOk
    have : ((l.getD i default).items.all fun x => vItem x (!g)) = false := by
     rw [List.all_eq_false]
     exact ⟨_, getD_memD (by omega), h⟩
    rw [this, Bool.and_false]
   rw [dOk_fail (by omega) e]
   exact ret2 _ rfl rfl rfl
  ·refine ⟨k + 1, ⟨by omega, fun j hj => ?_⟩, by omega, zLe, zLes⟩
   rcases Nat.lt_succ_iff_lt_or_eq.1 hj with hj | rfl
   ·exact hkc j hj
   ·exact Decidable.not_not.1 h
  ·refine ⟨i + 1, ⟨by omega, fun j hj => ?_⟩, by omega, zLe, zLes⟩
   rcases Nat.lt_succ_iff_lt_or_eq.1 hj with hj | rfl
   ·exact hc j hj
   ·unfold dOk
    rw [hh, Bool.true_and]
    refine List.all_eq_true.2 fun x hx => ?_
    obtain ⟨n, hn⟩ := List.mem_iff_getElem?.1 hx
    have := hkc n (by have := (List.getElem?_eq_some_iff.1 hn).1; omega)
    rwa [List.getD, hn] at this
 ·rw [show (List.range l.length).all (dOk l (!g)) = true from List.all_eq_true.2 fun j hj => hc j (by have := List.mem_range.1 hj; omega)]
  exact ret2 _ rfl rfl rfl
end
section
variable {Gl : Glob}
attribute [local irreducible] PW PWL OpP PCalls PWO PWT bothT
theorem c_copyDefs (l : List TDef) (hl : l.length ≤ 1000000) (hi : ∀ d ∈ l, d.items.length ≤ 1000000) : PCalls Tryz.prog Gl 107 [.sl (l.map eDef)] [] fun r s => ∃ c, r = .msl 2 0 0 (l.map eDef).length c ∧ s = [.arr 2 (l.map eDef) c] := by
 refine PCalls.of hT Tryz.func107 rfl 1 (Nat.zero_le _) fun B hD => ?_
 refine pw_norm rfl ?_
 (try refine zS ?_)
 refine pw_ghost 2 ?_
 refine zNq ?_
 refine pw_for hD (fun a : Nat × Nat => [(3, .msl 2 0 0 ((l.take a.1).map eDef).length a.2), (4, .int .i64 a.1)]) (fun a => [.arr 2 ((l.take a.1).map eDef) a.2]) (fun a => a.1 ≤ l.length) (fun a => l.length - a.1) (0, 0) (Nat.zero_le _) 1 rfl (fun _ => rfl) zLes (fun _ => rfl) (fun _ => rfl) zLe ?_
 rintro ⟨k, c⟩ hk
 dsimp only at hk ⊢
 refine zNq ?_
 (try refine zS ?_)
 refine zT ?_ ?_ <;> intro h <;> refine zNq ?_
 ·have hlt : k < l.length := by omega
  have hid := hi _ (getD_memD hlt)
  have e1 : (l.take (k + 1)).map eDef = (l.take k).map eDef ++ [eDef (l.getD k default)] := by
   rw [List.take_succ_eq_append_getElem hlt, List.map_append, List.getD, List.getElem?_eq_getElem hlt]; rfl
  (try refine zS ?_)
  refine zDr [[0,1,2,3,4,5,7,8,9,10,11],[6,12],[13,14],[15],[16]] ?_
  refine zDn ?_
  (refine zDgo ?_)
  (refine po_val rfl rfl (v_index (p := eDef (l.getD k default)) hT rfl rfl rfl rfl (by omega) (lit_at eDef l k default hlt) rfl) ?_; refine zDn ?_)
  (refine zDgo ?_)
  (refine po_val rfl rfl (v_index (p := eDef (l.getD k default)) hT rfl rfl rfl rfl (by omega) (lit_at eDef l k default hlt) rfl) ?_; refine zDn ?_)
  (refine zDgo ?_)
  (refine po_step rfl rfl (op_litm hT rfl rfl rfl rfl rfl (by decide) rfl rfl rfl rfl ⟨zLok, ?_⟩); refine zDn ?_)
  (refine po_step rfl rfl (op_appendF (b := 56) hT rfl rfl rfl rfl (by simp) rfl (by first | rfl | (simp only [List.all_map]; exact List.all_eq_true.2 fun _ _ => rfl)) (by first | rfl | (simp only [List.all_map]; exact List.all_eq_true.2 fun _ _ => rfl)) (by simp only [List.length_map, List.length_nil]; omega) ⟨(by (repeat (first | exact True.intro | refine ⟨.inr rfl, ?_⟩ | refine ⟨.inl (by decide +kernel), ?_⟩))), ?_⟩); (first | refine po_norm rfl ?_ | refine po_normE rfl ?_))
  refine zD ?_
  (refine po_step rfl rfl (op_append (b := 40) hT rfl rfl rfl rfl rfl rfl (.inl (Nat.zero_lt_succ _)) rfl rfl (by simp only [List.length_map, List.length_take, List.length_cons, List.length_nil]; omega) (fun c1 _ hcap => ⟨zLok, ?_⟩)); refine zDn ?_)
  refine zD ?_
  (refine pw_mv 0 3 hD rfl rfl rfl rfl rfl ?_; refine pw_norm rfl ?_)
  (try refine zS ?_)
  refine ⟨(k + 1, c1), hlt, by dsimp only; omega, ?_, ?_⟩
  all_goals simp only [e1, List.length_append]
  ·(exact zLe)
  ·(exact zLes)
 ·obtain rfl : k = l.length := by omega
  rw [List.take_length]
  (try refine zS ?_)
  exact ⟨_, _, _, rfl, ⟨c, rfl, rfl⟩, .inr (.inl rfl), ⟨.inr (.inl rfl), trivial⟩, rfl, rfl⟩
structure IBig (t : TInt) : Prop where
 groups : t.groups.length < 1000000
 services : t.services.length < 1000000
 windows : t.windows.length < 1000000
 stms : t.stms.length < 1000000
 pubs : t.pubs.length < 1000000
 hids : t.hids.length < 1000000
 gitems : ∀ d ∈ t.groups, d.items.length < 1000000
 sitems : ∀ d ∈ t.services, d.items.length < 1000000
 active : ∀ d ∈ t.windows, d.active.length < 1000000

end
end Go.Proofs.YtkaobkjcjodffaaGreatDoor