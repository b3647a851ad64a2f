/-
 Plain laws of valid topologies: the reference's answer is the program's; no address belongs to two edges.
 Plain laws of the lines of a topology: what a valid topology is like, the lines of its text, and how long they are.
 Plain laws of numbers and prefixes: what is written is read back.
 Plain laws of lines: a text of lines is read back as its lines.
-/
import Derived.Test.YtkaobkjcjodffaaGreatDoorBK43F
import Derived.Test.YtkaobkjcjodffaaGreatDoorAPwEq
import Derived.Test.YtkaobkjcjodffaaGreatDoorBLib
import Derived.Test.YtkaobkjcjodffaaGreatDoorBB6
import Derived.Test.YtkaobkjcjodffaaGreatDoorBE4
import Derived.Test.YtkaobkjcjodffaaGreatDoorBE3
import Derived.Test.YtkaobkjcjodffaaGreatDoorBP1
import Derived.Test.YtkaobkjcjodffaaGreatDoorBK11
set_option maxHeartbeats 20000000
set_option maxRecDepth 100000
namespace Go.Proofs.YtkaobkjcjodffaaGreatDoor
open Go Go.Pw
section
variable {Gl : Glob}
attribute [local irreducible] PW PWL OpP PCalls PWO PWT bothT
structure IBig (t : TInt) : Prop where
 groups : t.groups.length < 1000000
 services : t.services.length < 1000000
 windows : t.windows.length < 1000000
 stms : t.stms.length < 1000000
 pubs : t.pubs.length < 1000000
 hids : t.hids.length < 1000000
 gitems : ∀ d ∈ t.groups, d.items.length < 1000000
 sitems : ∀ d ∈ t.services, d.items.length < 1000000
 active : ∀ d ∈ t.windows, d.active.length < 1000000
theorem c_sameDefs (l : List TDef) (hl : l.length < 1000000) (hi : ∀ d ∈ l, d.items.length < 1000000) : PFun Tryz.prog Gl 53 [.sl (l.map eDef), .sl (l.map eDef)] fun r => r = .bool true := by
 (refine PFun.of hT Tryz.func53 rfl fun B hD => ?_; refine pw_norm rfl ?_)
 have hat : ∀ i, (l.getD i default).items.length < 1000000 := fun i => by
  rw [List.getD]
  cases h : l[i]? with
  | none => exact (by decide : (0 : Nat) < 1000000)
  | some x => exact hi x (List.mem_of_getElem? h)
 (repeat' (first | refine zS ?_ | refine zq5 ?_ | refine zq6 ?_ | (refine zT ?_ ?_ <;> intro h <;> first | exact zX | refine zNq ?_)))
 refine pw_for hD (fun i : Nat => [(5, .int .i64 i)]) (fun _ => []) (fun i => i ≤ l.length) (fun i => l.length - i) 0 (Nat.zero_le _) 0 rfl (fun _ => rfl) zLes (fun _ => rfl) (fun _ => rfl) zLe ?_
 intro i hi
 have hat := hat i
 (repeat' (first | (refine zDr [[0,1,2,3,4,5,6,7,8,9,10,11,12,13,14,15,16]] ?_; refine zDn ?_) | (refine zDr [[0,1,2,3,4,5,6,7,8,9,10,11,12,13,14,15,16,17,18,19,20,21,22,23,24,25]] ?_; refine zDn ?_) | refine zS ?_ | refine zD ?_ | refine po_both ?_ ?_ | refine pwt_both ?_ ?_ | refine pwt_fork ?_ | refine pwt_lin ?_ | (refine po_test rfl rfl rfl rfl zB ?_ ?_ <;> intro hb <;> first | exact zX | refine zDn ?_) | refine zq5 ?_ | refine zq6 ?_ | (refine zT ?_ ?_ <;> intro h <;> first | exact zX | refine zNq ?_)))
 ·exact (hb rfl).elim
 ·refine pw_for hD (fun k : Nat => [(6, .int .i64 k)]) (fun _ => []) (fun k => k ≤ (l.getD i default).items.length) (fun k => (l.getD i default).items.length - k) 0 (Nat.zero_le _) 0 rfl (fun _ => rfl) zLes (fun _ => rfl) (fun _ => rfl) zLe ?_
  intro k hk
  (repeat' (first | (refine zDr [[0,1,2,3,4,5,6,7,8,9,10,11,12,13,14,15,16]] ?_; refine zDn ?_) | (refine zDr [[0,1,2,3,4,5,6,7,8,9,10,11,12,13,14,15,16,17,18,19,20,21,22,23,24,25]] ?_; refine zDn ?_) | refine zS ?_ | refine zD ?_ | refine po_both ?_ ?_ | refine pwt_both ?_ ?_ | refine pwt_fork ?_ | refine pwt_lin ?_ | (refine po_test rfl rfl rfl rfl zB ?_ ?_ <;> intro hb <;> first | exact zX | refine zDn ?_) | refine zq5 ?_ | refine zq6 ?_ | (refine zT ?_ ?_ <;> intro h <;> first | exact zX | refine zNq ?_)))
  ·simp at h
  ·exact ⟨k + 1, by omega, by omega, zLe, zLes⟩
  ·exact ⟨i + 1, by omega, by omega, zLe, zLes⟩
 ·exact ret2 _ rfl rfl rfl
instance (l : List TDef) : ConF Tryz.prog Gl 53 [.sl (l.map eDef), .sl (l.map eDef)] (l.length < 1000000 ∧ ∀ d ∈ l, d.items.length < 1000000) (.bool true) := ⟨e53, fun h => c_sameDefs l h.1 h.2⟩
theorem c_same (t : TInt) (hb : IBig t) : PFun Tryz.prog Gl 22 [eIntent t, eIntent t] fun r => r = .bool true := by
 (refine PFun.of hT Tryz.func22 rfl fun B hD => ?_; refine pw_norm rfl ?_)
 have h1 := hb.groups
 have h2 := hb.services
 have h3 := hb.windows
 have h4 := hb.stms
 have h5 := hb.pubs
 have h6 := hb.hids
 have h7 := hb.gitems
 have h8 := hb.sitems
 have h9 : ∀ i, (t.windows.getD i default).active.length < 1000000 := fun i => by
  rw [List.getD]
  cases h : t.windows[i]? with
  | none => exact (by decide : (0 : Nat) < 1000000)
  | some x => exact hb.active x (List.mem_of_getElem? h)
 (repeat' (first | refine zS ?_ | refine zq5 ?_ | refine zq6 ?_ | (refine zT ?_ ?_ <;> intro h <;> first | exact zX | refine zNq ?_)))
 refine pw_for hD (fun i : Nat => [(5, .int .i64 i)]) (fun _ => [.box [.sl (t.groups.map eDef), .sl (t.services.map eDef), .sl (t.windows.map eWin), .sl (t.stms.map eStm), .sl (t.pubs.map ePub), .sl (t.hids.map eHid)], .box [.sl (t.groups.map eDef), .sl (t.services.map eDef), .sl (t.windows.map eWin), .sl (t.stms.map eStm), .sl (t.pubs.map ePub), .sl (t.hids.map eHid)]]) (fun i => i ≤ t.windows.length) (fun i => t.windows.length - i) 0 (Nat.zero_le _) 2 rfl (fun _ => rfl) zLes (fun _ => rfl) (fun _ => rfl) zLe ?_
 intro i hi
 have h9 := h9 i
 (repeat' (first | (refine zDr [[0,1,2,3,4,5,6,7,8,9,10]] ?_; refine zDn ?_) | (refine pw_drawF [(0, true), (1, true), (2, true), (3, true), (4, true), (5, true), (6, true), (7, true), (8, true), (9, true)] 10 [(11, false), (12, false), (13, false)] 11 [(10, false), (12, false), (13, false)] hmix (by decide +kernel) ?_; refine zDn ?_) | refine zS ?_ | refine zD ?_ | refine po_both ?_ ?_ | refine pwt_both ?_ ?_ | refine pwt_fork ?_ | refine pwt_lin ?_ | (refine po_test rfl rfl rfl rfl zB ?_ ?_ <;> intro hb <;> first | exact zX | refine zDn ?_) | refine zq5 ?_ | refine zq6 ?_ | (refine zT ?_ ?_ <;> intro h <;> first | exact zX | refine zNq ?_)))
 ·exact ((h.elim (fun q => q rfl) fun q => q rfl)).elim
 ·refine pw_for hD (fun k : Nat => [(8, .int .i64 k)]) (fun _ => [.box [.sl (t.groups.map eDef), .sl (t.services.map eDef), .sl (t.windows.map eWin), .sl (t.stms.map eStm), .sl (t.pubs.map ePub), .sl (t.hids.map eHid)], .box [.sl (t.groups.map eDef), .sl (t.services.map eDef), .sl (t.windows.map eWin), .sl (t.stms.map eStm), .sl (t.pubs.map ePub), .sl (t.hids.map eHid)], .box [.str (t.windows.getD i default).name, .sl ((t.windows.getD i default).active.map eRng)], .box [.str (t.windows.getD i default).name, .sl ((t.windows.getD i default).active.map eRng)]]) (fun k => k ≤ (t.windows.getD i default).active.length) (fun k => (t.windows.getD i default).active.length - k) 0 (Nat.zero_le _) 4 rfl (fun _ => rfl) zLes (fun _ => rfl) (fun _ => rfl) zLe ?_
  intro k hk
  (repeat' (first | (refine zDr [[0,1,2,3,4,5,6,7,8,9,10]] ?_; refine zDn ?_) | (refine pw_drawF [(0, true), (1, true), (2, true), (3, true), (4, true), (5, true), (6, true), (7, true), (8, true), (9, true)] 10 [(11, false), (12, false), (13, false)] 11 [(10, false), (12, false), (13, false)] hmix (by decide +kernel) ?_; refine zDn ?_) | refine zS ?_ | refine zD ?_ | refine po_both ?_ ?_ | refine pwt_both ?_ ?_ | refine pwt_fork ?_ | refine pwt_lin ?_ | (refine po_test rfl rfl rfl rfl zB ?_ ?_ <;> intro hb <;> first | exact zX | refine zDn ?_) | refine zq5 ?_ | refine zq6 ?_ | (refine zT ?_ ?_ <;> intro h <;> first | exact zX | refine zNq ?_)))
  ·simp at h
  ·exact ⟨k + 1, by omega, by omega, zLe, zLes⟩
  ·exact ⟨i + 1, by omega, by omega, zLe, zLes⟩
 ·exact ((h.elim (fun q => q rfl) fun q => q rfl)).elim
 ·refine pw_for hD (fun k : Nat => [(8, .int .i64 k)]) (fun _ => [.box [.sl (t.groups.map eDef), .sl (t.services.map eDef), .sl (t.windows.map eWin), .sl (t.stms.map eStm), .sl (t.pubs.map ePub), .sl (t.hids.map eHid)], .box [.sl (t.groups.map eDef), .sl (t.services.map eDef), .sl (t.windows.map eWin), .sl (t.stms.map eStm), .sl (t.pubs.map ePub), .sl (t.hids.map eHid)], .box [.str (t.windows.getD i default).name, .sl ((t.windows.getD i default).active.map eRng)], .box [.str (t.windows.getD i default).name, .sl ((t.windows.getD i default).active.map eRng)]]) (fun k => k ≤ (t.windows.getD i default).active.length) (fun k => (t.windows.getD i default).active.length - k) 0 (Nat.zero_le _) 4 rfl (fun _ => rfl) zLes (fun _ => rfl) (fun _ => rfl) zLe ?_
  intro k hk
  (repeat' (first | (refine zDr [[0,1,2,3,4,5,6,7,8,9,10]] ?_; refine zDn ?_) | (refine pw_drawF [(0, true), (1, true), (2, true), (3, true), (4, true), (5, true), (6, true), (7, true), (8, true), (9, true)] 10 [(11, false), (12, false), (13, false)] 11 [(10, false), (12, false), (13, false)] hmix (by decide +kernel) ?_; refine zDn ?_) | refine zS ?_ | refine zD ?_ | refine po_both ?_ ?_ | refine pwt_both ?_ ?_ | refine pwt_fork ?_ | refine pwt_lin ?_ | (refine po_test rfl rfl rfl rfl zB ?_ ?_ <;> intro hb <;> first | exact zX | refine zDn ?_) | refine zq5 ?_ | refine zq6 ?_ | (refine zT ?_ ?_ <;> intro h <;> first | exact zX | refine zNq ?_)))
  ·simp at h
  ·exact ⟨k + 1, by omega, by omega, zLe, zLes⟩
  ·exact ⟨i + 1, by omega, by omega, zLe, zLes⟩
 refine pw_for hD (fun i : Nat => [(9, .int .i64 i)]) (fun _ => [.box [.sl (t.groups.map eDef), .sl (t.services.map eDef), .sl (t.windows.map eWin), .sl (t.stms.map eStm), .sl (t.pubs.map ePub), .sl (t.hids.map eHid)], .box [.sl (t.groups.map eDef), .sl (t.services.map eDef), .sl (t.windows.map eWin), .sl (t.stms.map eStm), .sl (t.pubs.map ePub), .sl (t.hids.map eHid)]]) (fun i => i ≤ t.stms.length) (fun i => t.stms.length - i) 0 (Nat.zero_le _) 2 rfl (fun _ => rfl) zLes (fun _ => rfl) (fun _ => rfl) zLe ?_
 intro i hi
 (repeat' (first | (refine zDr [[0,1,2,3,4,5,6,7,8,9,10]] ?_; refine zDn ?_) | (refine pw_drawF [(0, true), (1, true), (2, true), (3, true), (4, true), (5, true), (6, true), (7, true), (8, true), (9, true)] 10 [(11, false), (12, false), (13, false)] 11 [(10, false), (12, false), (13, false)] hmix (by decide +kernel) ?_; refine zDn ?_) | refine zS ?_ | refine zD ?_ | refine po_both ?_ ?_ | refine pwt_both ?_ ?_ | refine pwt_fork ?_ | refine pwt_lin ?_ | (refine po_test rfl rfl rfl rfl zB ?_ ?_ <;> intro hb <;> first | exact zX | refine zDn ?_) | refine zq5 ?_ | refine zq6 ?_ | (refine zT ?_ ?_ <;> intro h <;> first | exact zX | refine zNq ?_)))
 ·simp at h
 ·exact ⟨i + 1, by omega, by omega, zLe, zLes⟩
 refine pw_for hD (fun i : Nat => [(10, .int .i64 i)]) (fun _ => [.box [.sl (t.groups.map eDef), .sl (t.services.map eDef), .sl (t.windows.map eWin), .sl (t.stms.map eStm), .sl (t.pubs.map ePub), .sl (t.hids.map eHid)], .box [.sl (t.groups.map eDef), .sl (t.services.map eDef), .sl (t.windows.map eWin), .sl (t.stms.map eStm), .sl (t.pubs.map ePub), .sl (t.hids.map eHid)]]) (fun i => i ≤ t.pubs.length) (fun i => t.pubs.length - i) 0 (Nat.zero_le _) 2 rfl (fun _ => rfl) zLes (fun _ => rfl) (fun _ => rfl) zLe ?_
 intro i hi
 (repeat' (first | (refine zDr [[0,1,2,3,4,5,6,7,8,9,10]] ?_; refine zDn ?_) | (refine pw_drawF [(0, true), (1, true), (2, true), (3, true), (4, true), (5, true), (6, true), (7, true), (8, true), (9, true)] 10 [(11, false), (12, false), (13, false)] 11 [(10, false), (12, false), (13, false)] hmix (by decide +kernel) ?_; refine zDn ?_) | refine zS ?_ | refine zD ?_ | refine po_both ?_ ?_ | refine pwt_both ?_ ?_ | refine pwt_fork ?_ | refine pwt_lin ?_ | (refine po_test rfl rfl rfl rfl zB ?_ ?_ <;> intro hb <;> first | exact zX | refine zDn ?_) | refine zq5 ?_ | refine zq6 ?_ | (refine zT ?_ ?_ <;> intro h <;> first | exact zX | refine zNq ?_)))
 ·simp at h
 ·exact ⟨i + 1, by omega, by omega, zLe, zLes⟩
 refine pw_for hD (fun i : Nat => [(11, .int .i64 i)]) (fun _ => [.box [.sl (t.groups.map eDef), .sl (t.services.map eDef), .sl (t.windows.map eWin), .sl (t.stms.map eStm), .sl (t.pubs.map ePub), .sl (t.hids.map eHid)], .box [.sl (t.groups.map eDef), .sl (t.services.map eDef), .sl (t.windows.map eWin), .sl (t.stms.map eStm), .sl (t.pubs.map ePub), .sl (t.hids.map eHid)]]) (fun i => i ≤ t.hids.length) (fun i => t.hids.length - i) 0 (Nat.zero_le _) 2 rfl (fun _ => rfl) zLes (fun _ => rfl) (fun _ => rfl) zLe ?_
 intro i hi
 (repeat' (first | (refine zDr [[0,1,2,3,4,5,6,7,8,9,10]] ?_; refine zDn ?_) | (refine pw_drawF [(0, true), (1, true), (2, true), (3, true), (4, true), (5, true), (6, true), (7, true), (8, true), (9, true)] 10 [(11, false), (12, false), (13, false)] 11 [(10, false), (12, false), (13, false)] hmix (by decide +kernel) ?_; refine zDn ?_) | refine zS ?_ | refine zD ?_ | refine po_both ?_ ?_ | refine pwt_both ?_ ?_ | refine pwt_fork ?_ | refine pwt_lin ?_ | (refine po_test rfl rfl rfl rfl zB ?_ ?_ <;> intro hb <;> first | exact zX | refine zDn ?_) | refine zq5 ?_ | refine zq6 ?_ | (refine zT ?_ ?_ <;> intro h <;> first | exact zX | refine zNq ?_)))
 ·simp at h
 ·exact ⟨i + 1, by omega, by omega, zLe, zLes⟩
 exact ret2 _ rfl rfl rfl
attribute [local irreducible] vname vDefs vStm wOkB
instance iRValidDefs (l : List TDef) (g : Bool) : ConF Tryz.prog Gl 74 [.sl (l.map eDef), .bool g] (l.length < 1000000 ∧ (∀ d ∈ l, d.items.length < 1000000) ∧ ∀ d ∈ l, ∀ x ∈ d.items, ItIn x) (.bool (vDefs l (!g))) := ⟨e74, fun h => c_rValidDefs l g h.1 h.2.1 h.2.2⟩
def wWin (l : List TWin) (k : Nat) : Bool := (vname (l.getD k default).name && decide (firstAt (fun x : TWin => x.name == (l.getD k default).name) l = k)) && wOkB (l.getD k default).active
def vPub (x : TPub) : Bool := (((x.proto == 6 || x.proto == 17) && (decide (x.port ≥ 0) && decide (x.port ≤ 65535))) && (decide (x.realPort ≥ 0) && decide (x.realPort ≤ 65535))) && vname x.edge
def vHid (x : THid) : Bool := (vname x.group && vname x.edge) && ((decide (x.ports.lo ≥ 1024) && decide (x.ports.lo ≤ x.ports.hi)) && decide (x.ports.hi ≤ 65535))
structure IIn (i : TInt) : Prop where
 gits : ∀ d ∈ i.groups, ∀ x ∈ d.items, ItIn x
 sits : ∀ d ∈ i.services, ∀ x ∈ d.items, ItIn x
 wins : ∀ d ∈ i.windows, d.active.length < 100000 ∧ ∀ r ∈ d.active, RIn r
def iValid (i : TInt) : Bool :=
 (((((vDefs i.groups false && vDefs i.services true) && decide (i.windows.length ≤ 32)) && decide (i.stms.length ≤ 64)) && decide (i.pubs.length ≤ 16)) && decide (i.hids.length ≤ 8)) &&
 ((((List.range i.windows.length).all (wWin i.windows) && i.stms.all vStm) && i.pubs.all vPub) && i.hids.all vHid)
theorem c_rValid (i : TInt) (hb : IBig i) (hi : IIn i) : PFun Tryz.prog Gl 30 [eIntent i] fun r => r = .bool (iValid i) := by
 (refine PFun.of hT Tryz.func30 rfl fun B hD => ?_; refine pw_norm rfl ?_)
 have h1 := hb.groups
 have h2 := hb.services
 have h3 := hb.windows
 have h4 := hb.stms
 have h5 := hb.pubs
 have h6 := hb.hids
 have h7 := hb.gitems
 have h8 := hb.sitems
 have h9 := hi.gits
 have h10 := hi.sits
 have h11 : ∀ k, (i.windows.getD k default).active.length < 100000 ∧ ∀ r ∈ (i.windows.getD k default).active, RIn r := fun k => by
  rw [List.getD]
  cases e : i.windows[k]? with
  | none => exact ⟨by decide, fun r hr => by cases hr⟩
  | some x => exact hi.wins x (List.mem_of_getElem? e)
 unfold iValid
 generalize hS : (((((vDefs i.groups false && vDefs i.services true) && decide (i.windows.length ≤ 32)) && decide (i.stms.length ≤ 64)) && decide (i.pubs.length ≤ 16)) && decide (i.hids.length ≤ 8)) = S
 have hSi : S = true ↔ ((((vDefs i.groups false = true ∧ vDefs i.services true = true) ∧ i.windows.length ≤ 32) ∧ i.stms.length ≤ 64) ∧ i.pubs.length ≤ 16) ∧ i.hids.length ≤ 8 := by
  rw [← hS]
  simp only [Bool.and_eq_true, decide_eq_true_eq]
 (repeat' (first | refine zS ?_ | refine zq5 ?_ | refine zq6 ?_ | (refine zT ?_ ?_ <;> intro h <;> first | exact zX | refine zNq ?_)))
 ·have e : S = false := by
   rw [Bool.eq_false_iff]
   intro q
   obtain ⟨⟨⟨⟨⟨a, b⟩, c⟩, d⟩, e⟩, f⟩ := hSi.1 q
   rcases h with ((((h | h) | h) | h) | h) | h
   ·exact h a
   ·exact h b
   ·omega
   ·omega
   ·omega
   ·omega
  rw [e, Bool.false_and]
  exact ret2 _ rfl rfl rfl
 have e : S = true := hSi.2 ⟨⟨⟨⟨⟨Decidable.not_not.1 fun a => h (.inl (.inl (.inl (.inl (.inl a))))), Decidable.not_not.1 fun a => h (.inl (.inl (.inl (.inl (.inr a)))))⟩, by omega⟩, by omega⟩, by omega⟩, by omega⟩
 rw [e, Bool.true_and]
 clear hSi hS h e
 refine pw_for hD (fun k : Nat => [(3, .int .i64 k)]) (fun _ => [.box [.sl (i.groups.map eDef), .sl (i.services.map eDef), .sl (i.windows.map eWin), .sl (i.stms.map eStm), .sl (i.pubs.map ePub), .sl (i.hids.map eHid)]]) (fun k => k ≤ i.windows.length ∧ ∀ j, j < k → wWin i.windows j = true) (fun k => i.windows.length - k) 0 ⟨Nat.zero_le _, fun j h => by omega⟩ 1 rfl (fun _ => rfl) zLes (fun _ => rfl) (fun _ => rfl) zLe ?_
 rintro k ⟨hk, hkc⟩
 obtain ⟨h11, h12⟩ := h11 k
 (repeat' (first | (refine zDr [[0,1,2,3,4,5],[6],[7,8,9,10,11,12,13,14,15,16,18],[17],[19,20,21,22,23,24,25,26,27],[28],[29,30]] ?_; refine zDn ?_) | refine zS ?_ | refine zD ?_ | refine po_both ?_ ?_ | refine pwt_both ?_ ?_ | refine pwt_fork ?_ | refine pwt_lin ?_ | (refine po_test rfl rfl rfl rfl zB ?_ ?_ <;> intro hb <;> first | exact zX | refine zDn ?_) | refine zq5 ?_ | refine zq6 ?_ | (refine zT ?_ ?_ <;> intro h <;> first | exact zX | refine zNq ?_)))
 ·have e : wWin i.windows k = false := by unfold wWin; rw [show vname (i.windows.getD k default).name = false by simpa using hb]; rfl
  rw [show (List.range i.windows.length).all (wWin i.windows) = false from List.all_eq_false.2 ⟨k, List.mem_range.2 (by omega), by rw [e]; decide⟩]
  simp only [Bool.false_and]
  exact ret2 _ rfl rfl rfl
 ·have e : wWin i.windows k = false := by unfold wWin; rw [decide_eq_false hb, Bool.and_false, Bool.false_and]
  rw [show (List.range i.windows.length).all (wWin i.windows) = false from List.all_eq_false.2 ⟨k, List.mem_range.2 (by omega), by rw [e]; decide⟩]
  simp only [Bool.false_and]
  exact ret2 _ rfl rfl rfl
 ·have e : wWin i.windows k = false := by unfold wWin; rw [show wOkB (i.windows.getD k default).active = false by simpa using h, Bool.and_false]
  rw [show (List.range i.windows.length).all (wWin i.windows) = false from List.all_eq_false.2 ⟨k, List.mem_range.2 (by omega), by rw [e]; decide⟩]
  simp only [Bool.false_and]
  exact ret2 _ rfl rfl rfl
 ·rename_i g1 g2
  refine ⟨k + 1, ⟨by omega, fun j hj => ?_⟩, by omega, zLe, zLes⟩
  rcases Nat.lt_succ_iff_lt_or_eq.1 hj with hj | rfl
  ·exact hkc j hj
  ·unfold wWin
   rw [Decidable.not_not.1 g2, decide_eq_true (Decidable.not_not.1 hb), Decidable.not_not.1 h]
   rfl
 rw [show (List.range i.windows.length).all (wWin i.windows) = true from List.all_eq_true.2 fun j hj => hkc j (by have := List.mem_range.1 hj; omega), Bool.true_and]
 clear h11 h12
 refine pw_for hD (fun k : Nat => [(4, .int .i64 k)]) (fun _ => [.box [.sl (i.groups.map eDef), .sl (i.services.map eDef), .sl (i.windows.map eWin), .sl (i.stms.map eStm), .sl (i.pubs.map ePub), .sl (i.hids.map eHid)]]) (fun k => k ≤ i.stms.length ∧ ∀ j, j < k → vStm (i.stms.getD j default) = true) (fun k => i.stms.length - k) 0 ⟨Nat.zero_le _, fun j h => by omega⟩ 1 rfl (fun _ => rfl) zLes (fun _ => rfl) (fun _ => rfl) zLe ?_
 rintro k ⟨hk, hkc⟩
 (repeat' (first | (refine zDr [[0,1,2,3,4,5],[6],[7,8,9,10,11,12,13,14,15,16,18],[17],[19,20,21,22,23,24,25,26,27],[28],[29,30]] ?_; refine zDn ?_) | refine zS ?_ | refine zD ?_ | refine po_both ?_ ?_ | refine pwt_both ?_ ?_ | refine pwt_fork ?_ | refine pwt_lin ?_ | (refine po_test rfl rfl rfl rfl zB ?_ ?_ <;> intro hb <;> first | exact zX | refine zDn ?_) | refine zq5 ?_ | refine zq6 ?_ | (refine zT ?_ ?_ <;> intro h <;> first | exact zX | refine zNq ?_)))
 ·(refine pl_op rfl (op_fun (c_rValidStm (i.stms.getD k default)) rfl rfl e78 zLe rfl (fun r hr => ?_)); subst hr; refine ⟨rfl, ?_⟩; (refine zNp ?_))
  (repeat' (first | refine zS ?_ | refine zq5 ?_ | refine zq6 ?_ | (refine zT ?_ ?_ <;> intro h <;> first | exact zX | refine zNq ?_)))
  ·rw [show i.stms.all vStm = false from List.all_eq_false.2 ⟨_, getD_memD (by omega), h⟩]
   simp only [Bool.false_and]
   exact ret2 _ rfl rfl rfl
  ·refine ⟨k + 1, ⟨by omega, fun j hj => ?_⟩, by omega, zLe, zLes⟩
   rcases Nat.lt_succ_iff_lt_or_eq.1 hj with hj | rfl
   ·exact hkc j hj
   ·exact Decidable.not_not.1 h
 have hall : i.stms.all vStm = true := List.all_eq_true.2 fun x hx => by
  obtain ⟨n, hn⟩ := List.mem_iff_getElem?.1 hx
  have := hkc n (by have := (List.getElem?_eq_some_iff.1 hn).1; omega)
  rwa [List.getD, hn] at this
 rw [hall, Bool.true_and]
 clear hall
 refine pw_for hD (fun k : Nat => [(5, .int .i64 k)]) (fun _ => [.box [.sl (i.groups.map eDef), .sl (i.services.map eDef), .sl (i.windows.map eWin), .sl (i.stms.map eStm), .sl (i.pubs.map ePub), .sl (i.hids.map eHid)]]) (fun k => k ≤ i.pubs.length ∧ ∀ j, j < k → vPub (i.pubs.getD j default) = true) (fun k => i.pubs.length - k) 0 ⟨Nat.zero_le _, fun j h => by omega⟩ 1 rfl (fun _ => rfl) zLes (fun _ => rfl) (fun _ => rfl) zLe ?_
 rintro k ⟨hk, hkc⟩
 (repeat' (first | (refine zDr [[0,1,2,3,4,5],[6],[7,8,9,10,11,12,13,14,15,16,18],[17],[19,20,21,22,23,24,25,26,27],[28],[29,30]] ?_; refine zDn ?_) | refine zS ?_ | refine zD ?_ | refine po_both ?_ ?_ | refine pwt_both ?_ ?_ | refine pwt_fork ?_ | refine pwt_lin ?_ | (refine po_test rfl rfl rfl rfl zB ?_ ?_ <;> intro hb <;> first | exact zX | refine zDn ?_) | refine zq5 ?_ | refine zq6 ?_ | (refine zT ?_ ?_ <;> intro h <;> first | exact zX | refine zNq ?_)))
 ·have e : ¬ vPub (i.pubs.getD k default) = true := fun q => by
   unfold vPub at q
   simp only [Bool.and_eq_true, Bool.or_eq_true, decide_eq_true_eq, beq_iff_eq] at q
   obtain ⟨⟨⟨a, b⟩, c⟩, d⟩ := q
   rcases h with ((h | h) | h) | h
   ·omega
   ·exact h b
   ·exact h c
   ·exact h d
  rw [show i.pubs.all vPub = false from List.all_eq_false.2 ⟨_, getD_memD (by omega), e⟩]
  simp only [Bool.false_and]
  exact ret2 _ rfl rfl rfl
 ·refine ⟨k + 1, ⟨by omega, fun j hj => ?_⟩, by omega, zLe, zLes⟩
  rcases Nat.lt_succ_iff_lt_or_eq.1 hj with hj | rfl
  ·exact hkc j hj
  ·unfold vPub
   simp only [Bool.and_eq_true, Bool.or_eq_true, decide_eq_true_eq, beq_iff_eq]
   refine ⟨⟨⟨by omega, by omega⟩, by omega⟩, Decidable.not_not.1 fun q => h (.inr q)⟩
 have hall : i.pubs.all vPub = true := List.all_eq_true.2 fun x hx => by
  obtain ⟨n, hn⟩ := List.mem_iff_getElem?.1 hx
  have := hkc n (by have := (List.getElem?_eq_some_iff.1 hn).1; omega)
  rwa [List.getD, hn] at this
 rw [hall, Bool.true_and]
 clear hall
 refine pw_for hD (fun k : Nat => [(7, .int .i64 k)]) (fun _ => [.box [.sl (i.groups.map eDef), .sl (i.services.map eDef), .sl (i.windows.map eWin), .sl (i.stms.map eStm), .sl (i.pubs.map ePub), .sl (i.hids.map eHid)]]) (fun k => k ≤ i.hids.length ∧ ∀ j, j < k → vHid (i.hids.getD j default) = true) (fun k => i.hids.length - k) 0 ⟨Nat.zero_le _, fun j h => by omega⟩ 1 rfl (fun _ => rfl) zLes (fun _ => rfl) (fun _ => rfl) zLe ?_
 rintro k ⟨hk, hkc⟩
 (repeat' (first | (refine zDr [[0,1,2,3,4,5],[6],[7,8,9,10,11,12,13,14,15,16,18],[17],[19,20,21,22,23,24,25,26,27],[28],[29,30]] ?_; refine zDn ?_) | refine zS ?_ | refine zD ?_ | refine po_both ?_ ?_ | refine pwt_both ?_ ?_ | refine pwt_fork ?_ | refine pwt_lin ?_ | (refine po_test rfl rfl rfl rfl zB ?_ ?_ <;> intro hb <;> first | exact zX | refine zDn ?_) | refine zq5 ?_ | refine zq6 ?_ | (refine zT ?_ ?_ <;> intro h <;> first | exact zX | refine zNq ?_)))
 ·have e : ¬ vHid (i.hids.getD k default) = true := fun q => by
   unfold vHid at q
   simp only [Bool.and_eq_true, decide_eq_true_eq] at q
   obtain ⟨⟨a, b⟩, c⟩ := q
   rcases h with (h | h) | h
   ·exact h a
   ·exact h b
   ·exact h c
  rw [show i.hids.all vHid = false from List.all_eq_false.2 ⟨_, getD_memD (by omega), e⟩]
  exact ret2 _ rfl rfl rfl
 ·refine ⟨k + 1, ⟨by omega, fun j hj => ?_⟩, by omega, zLe, zLes⟩
  rcases Nat.lt_succ_iff_lt_or_eq.1 hj with hj | rfl
  ·exact hkc j hj
  ·unfold vHid
   simp only [Bool.and_eq_true, decide_eq_true_eq]
   exact ⟨⟨Decidable.not_not.1 fun q => h (.inl (.inl q)), Decidable.not_not.1 fun q => h (.inl (.inr q))⟩, Decidable.not_not.1 fun q => h (.inr q)⟩
 ·have hall : i.hids.all vHid = true := List.all_eq_true.2 fun x hx => by
   obtain ⟨n, hn⟩ := List.mem_iff_getElem?.1 hx
   have := hkc n (by have := (List.getElem?_eq_some_iff.1 hn).1; omega)
   rwa [List.getD, hn] at this
  rw [hall]
  exact ret2 _ rfl rfl rfl
end
section
variable {Gl : Glob}
attribute [local irreducible] PW PWL OpP PCalls PWO PWT bothT
def allI {α : Type} (p : Nat → α → Bool) (l : List α) : Bool := (List.range l.length).all fun i => match l[i]? with | some x => p i x | none => true
end
section
def rvMeet (l : List TPfx) (i : Nat) (p : TPfx) : Bool := !((l.take i).any (rmeet p))
def hit (a : Int) (e : TEdge) : Bool := !e.planned && rcont e.pfx a
def ownA (t : Topo) (a : Int) : Int := firstAt (hit a) t.edges
def Own (a : Int) (l : List TEdge) (k : Nat) (n last : Int) : Prop :=
 (n = 0 ∧ last = -1 ∧ ∀ (j : Nat) x, j < k → l[j]? = some x → hit a x = false) ∨ (∃ i : Nat, n = 1 ∧ last = i ∧ i < k ∧ ∃ x, l[i]? = some x ∧ hit a x = true ∧ ∀ (j : Nat) y, j < i → l[j]? = some y → hit a y = false)
theorem Own.fin {a : Int} {t : Topo} {n last : Int} (h : Own a t.edges t.edges.length n last) : 0 ≤ n ∧ n ≤ 1 ∧ ownA t a = last := by
 rcases h with ⟨e1, e2, h1⟩ | ⟨i, e1, e2, hi, y, hy, h1, h2⟩
 ·refine ⟨by omega, by omega, ?_⟩
  rw [e2]
  exact firstAt_miss fun j x hx => h1 j x (List.getElem?_eq_some_iff.1 hx).1 hx
 ·refine ⟨by omega, by omega, ?_⟩
  rw [e2]
  obtain ⟨hl, rfl⟩ := List.getElem?_eq_some_iff.1 hy
  exact firstAt_hit hl h1 h2
theorem Own.bound {a : Int} {l : List TEdge} {k : Nat} {n last : Int} (h : Own a l k n last) : 0 ≤ n ∧ n ≤ 1 := by
 rcases h with ⟨e1, _⟩ | ⟨i, e1, _⟩ <;> omega
structure RV (t : Topo) : Prop where
 d1 : 1 ≤ t.devs.length
 d2 : t.devs.length ≤ 12
 l2 : t.links.length ≤ 24
 e2 : t.edges.length ≤ 12
 p2 : t.pools.length ≤ 8
 tol : 0 ≤ t.tol ∧ t.tol ≤ 2
 devI : ∀ (i : Nat) d, t.devs[i]? = some d → vname d.name = true ∧ tDevice t d.name = (i : Int) ∧ 0 ≤ d.cap ∧ d.cap ≤ 4096 ∧ (d.cls = [] ∨ vname d.cls = true)
 link : ∀ l ∈ t.links, 0 ≤ l.a ∧ l.a < l.b ∧ l.b < t.devs.length ∧ 1 ≤ l.cost ∧ l.cost ≤ 1000
 edgeI : ∀ (i : Nat) e, t.edges[i]? = some e → (vname e.name = true ∧ vname e.zone = true) ∧ tEdge t e.name = (i : Int) ∧ (0 ≤ e.dev ∧ e.dev < t.devs.length) ∧ 1 ≤ e.pfx.bits ∧ rvalid e.pfx = true ∧ (e.planned = true → e.pfx.addr = 0)
 fix : allI (rvMeet (fixed t.edges)) (fixed t.edges) = true
 pool : ∀ (i : Nat) p, t.pools[i]? = some p → rvalid p = true ∧ (t.pools.take i).any (rmeet p) = false
theorem RV.dev {t : Topo} (h : RV t) {d : TDev} (hd : d ∈ t.devs) : vname d.name = true ∧ (0 ≤ d.cap ∧ d.cap ≤ 4096) ∧ (d.cls = [] ∨ vname d.cls = true) := by
 obtain ⟨i, hi⟩ := List.mem_iff_getElem?.1 hd
 obtain ⟨h1, _, h2, h3, h4⟩ := h.devI i d hi
 exact ⟨h1, ⟨h2, h3⟩, h4⟩
theorem RV.edge {t : Topo} (h : RV t) {e : TEdge} (he : e ∈ t.edges) : (vname e.name = true ∧ vname e.zone = true) ∧ (0 ≤ e.dev ∧ e.dev < t.devs.length) ∧ 1 ≤ e.pfx.bits ∧ rvalid e.pfx = true ∧ (e.planned = true → e.pfx.addr = 0) := by
 obtain ⟨i, hi⟩ := List.mem_iff_getElem?.1 he
 obtain ⟨h1, _, h2⟩ := h.edgeI i e hi
 exact ⟨h1, h2⟩
theorem rvalid_b {p : TPfx} (h : rvalid p = true) : 0 ≤ p.bits ∧ p.bits ≤ 32 := rvalid_bits h
theorem vname_len {s : Str} (h : vname s = true) : s.length ≤ 24 := by
 rw [vname_eq] at h
 simp only [nmHead, Bool.and_eq_true, Bool.not_eq_true', Bool.or_eq_false_iff, decide_eq_false_iff_not] at h
 have := h.1.1.2
 omega
def dev0 : TDev := ⟨[], 0, false, false, []⟩
def nm (t : Topo) (i : Int) : Str := (t.devs.getD i.toNat dev0).name
def ln (w : List Str) : TLine := ⟨0, w⟩
theorem pfxS_len (p : TPfx) (h : 0 ≤ p.bits ∧ p.bits ≤ 32) : (pfxS p).length ≤ 24 := by
 have h1 := addrS_len p.addr.toNat
 have h2 : (dec p.bits.toNat).length ≤ 4 := dec_small (by omega)
 simp only [pfxS, List.length_append, List.length_singleton]
 omega
theorem dig_toNat (d : Nat) (h : d < 10) : (UInt8.ofNat (48 + d)).toNat = 48 + d := by
 rw [UInt8.toNat_ofNat', Nat.mod_eq_of_lt (by omega)]
theorem dbad_dig (d : Nat) (h : d < 10) : dbad (UInt8.ofNat (48 + d)) = false := by
 unfold dbad
 rw [dig_toNat d h]
 simp
 omega
theorem dec_dig (n : Nat) : (dec n).any dbad = false := by
 induction n using Nat.strongRecOn with
 | _ n ih =>
  by_cases h : n < 10
  ·rw [dec_lt h, List.any_cons, dbad_dig n h]; rfl
  ·rw [dec_ge h, List.any_append, ih (n / 10) (by omega), List.any_cons, dbad_dig (n % 10) (by omega)]; rfl
theorem dval_dec (n : Nat) : dval (dec n) = n := by
 induction n using Nat.strongRecOn with
 | _ n ih =>
  by_cases h : n < 10
  ·rw [dec_lt h]
   show 10 * 0 + ((UInt8.ofNat (48 + n)).toNat - 48) = n
   rw [dig_toNat n h]; omega
  ·rw [dec_ge h, dval_snoc, ih (n / 10) (by omega), dig_toNat (n % 10) (by omega)]; omega
theorem dec_ne (n : Nat) : dec n ≠ [] := by
 by_cases h : n < 10
 ·rw [dec_lt h]; simp
 ·rw [dec_ge h]; simp
theorem dec_hd (n : Nat) (h1 : 1 ≤ n) : ((dec n).headD 0).toNat ≠ 48 := by
 induction n using Nat.strongRecOn with
 | _ n ih =>
  by_cases h : n < 10
  ·rw [dec_lt h]
   show (UInt8.ofNat (48 + n)).toNat ≠ 48
   rw [dig_toNat n h]; omega
  ·rw [dec_ge h]
   have := ih (n / 10) (by omega) (by omega)
   cases hd : dec (n / 10) with
   | nil => exact absurd hd (dec_ne _)
   | cons c l => rw [hd] at this; exact this
theorem dec_long {n : Nat} (h : 1 < (dec n).length) : 1 ≤ n := by
 by_cases h1 : n < 10
 ·rw [dec_lt h1] at h; simp at h
 ·omega
theorem zhead_dec (n : Nat) : (decide (((dec n).length : Int) > 1) && ((((dec n).headD 0).toNat : Int) == 48)) = false := by
 by_cases h : 1 < (dec n).length
 ·have := dec_hd n (dec_long h)
  have e : ((((dec n).headD 0).toNat : Int) == 48) = false := by rw [beq_eq_false_iff_ne]; omega
  rw [e, Bool.and_false]
 ·rw [decide_eq_false (by omega), Bool.false_and]
theorem rhead_dec (n : Nat) : rhead (dec n) = false := by
 unfold rhead
 rw [zhead_dec, Bool.or_false]
 simpa using dec_ne n
theorem rread_dec (n : Nat) (b : Int) (h : (n : Int) ≤ b) : rread (dec n) b = ((n : Int), true) := by
 rw [rread_eq _ b (by omega), rhead_dec, dec_dig, dval_dec, decide_eq_true h]; rfl
theorem digitsB_dec (n : Nat) : digitsB (dec n) = true := by
 rw [digitsB_eq]
 unfold rdig
 rw [dec_dig]
 have h := zhead_dec n
 have hn := dec_ne n
 have e1 : (dec n == []) = false := by simpa using hn
 rw [e1]
 by_cases h1 : 1 < (dec n).length
 ·rw [decide_eq_true (by omega), Bool.true_and] at h
  rw [bne, h]; simp
 ·have : (dec n).length = 1 := by
   have : (dec n).length ≠ 0 := by simpa using hn
   omega
  rw [this]; simp
theorem dec_no {c : UInt8} (h : dbad c = true) (n : Nat) : c ∉ dec n := fun hc => by
 have := List.any_eq_false.1 (dec_dig n) c hc
 exact this h
theorem addrS_cons (a : Nat) : addrS a = dec (oct a 24) ++ 46 :: (dec (oct a 16) ++ 46 :: (dec (oct a 8) ++ 46 :: dec (oct a 0))) := by simp [addrS]
theorem parts_addr (a : Nat) : parts 46 (addrS a) = [dec (oct a 24), dec (oct a 16), dec (oct a 8), dec (oct a 0)] := by
 have hn := fun n => dec_no (c := 46) (by decide) n
 rw [addrS_cons]
 have e1 := parts_some (hn (oct a 24)) (b := dec (oct a 16) ++ 46 :: (dec (oct a 8) ++ 46 :: dec (oct a 0))) []
 have e2 := parts_some (hn (oct a 16)) (b := dec (oct a 8) ++ 46 :: dec (oct a 0)) []
 have e3 := parts_some (hn (oct a 8)) (b := dec (oct a 0)) []
 have e4 := parts_none (hn (oct a 0)) []
 rw [parts, e1, parts, e2, parts, e3, parts, e4]; rfl
theorem okOct_dec (n : Nat) (h : n < 256) : okOct (dec n) = true ∧ vOct (dec n) = (n : Int) := by
 have := rread_dec n 255 (by omega)
 unfold okOct vOct
 rw [this]; exact ⟨rfl, rfl⟩
theorem oct_sum (a : Nat) (h : a < 4294967296) : (((0 * 256 + (oct a 24 : Int)) * 256 + (oct a 16 : Int)) * 256 + (oct a 8 : Int)) * 256 + (oct a 0 : Int) = (a : Int) := by
 simp only [oct]
 omega
theorem addr_addrS (a : Nat) (h : a < 4294967296) : addr (addrS a) = ((a : Int), true) := by
 rw [addr_eq]
 unfold raddr
 rw [parts_addr]
 obtain ⟨a1, b1⟩ := okOct_dec (oct a 24) (oct_lt a 24)
 obtain ⟨a2, b2⟩ := okOct_dec (oct a 16) (oct_lt a 16)
 obtain ⟨a3, b3⟩ := okOct_dec (oct a 8) (oct_lt a 8)
 obtain ⟨a4, b4⟩ := okOct_dec (oct a 0) (oct_lt a 0)
 rw [if_pos (show ([dec (oct a 24), dec (oct a 16), dec (oct a 8), dec (oct a 0)] : List Str).length = 4 from rfl)]
 simp only [sum4, a1, a2, a3, a4, b1, b2, b3, b4, if_true, oct_sum a h]
 rfl
theorem slash_no (a : Nat) : (47 : UInt8) ∉ addrS a := by
 have hn := fun n => dec_no (c := 47) (by decide) n
 rw [addrS]
 simp only [List.mem_append, List.mem_singleton, not_or]
 exact ⟨⟨⟨⟨⟨⟨hn _, by decide⟩, hn _⟩, by decide⟩, hn _⟩, by decide⟩, hn _⟩
theorem pfx_pfxS (p : TPfx) (hp : PfxIn p) (hv : rvalid p = true) : pfxParse (pfxS p) = (p, true) := by
 have hb := rvalid_b hv
 have e0 : pfxS p = addrS p.addr.toNat ++ 47 :: dec p.bits.toNat := by simp [pfxS]
 have e1 := parts_some (slash_no p.addr.toNat) (b := dec p.bits.toNat) []
 have e2 := parts_none (dec_no (c := 47) (by decide) p.bits.toNat) []
 have ha : ((p.addr.toNat : Nat) : Int) = p.addr := Int.toNat_of_nonneg hp.1
 have hbb : ((p.bits.toNat : Nat) : Int) = p.bits := Int.toNat_of_nonneg hb.1
 have h1 := addr_addrS p.addr.toNat (by have := hp.2; omega)
 have h2 := rread_dec p.bits.toNat 32 (by omega)
 rw [ha] at h1
 rw [hbb] at h2
 rw [pfx_eq]
 unfold rpfx
 have e3 : parts 47 (pfxS p) = [addrS p.addr.toNat, dec p.bits.toNat] := by
  rw [e0, parts, e1, parts, e2]; rfl
 rw [e3, if_pos (show ([addrS p.addr.toNat, dec p.bits.toNat] : List Str).length = 2 from rfl), show ([addrS p.addr.toNat, dec p.bits.toNat] : List Str).getD 0 [] = addrS p.addr.toNat from rfl, show ([addrS p.addr.toNat, dec p.bits.toNat] : List Str).getD 1 [] = dec p.bits.toNat from rfl, h1, h2]
 show (if _ then _ else _) = _
 rw [hv]
 rfl
def gbyte (c : UInt8) : Bool := isWord c && (noHash c && (pbyte c && !(c == 10)))
structure GW (s : Str) : Prop where
 ne : s ≠ []
 all : ∀ c ∈ s, gbyte c = true
theorem gbyte_word {c : UInt8} (h : gbyte c = true) : isWord c = true := (Bool.and_eq_true_iff.1 h).1
theorem gbyte_hash {c : UInt8} (h : gbyte c = true) : noHash c = true := (Bool.and_eq_true_iff.1 (Bool.and_eq_true_iff.1 h).2).1
theorem gbyte_p {c : UInt8} (h : gbyte c = true) : pbyte c = true := (Bool.and_eq_true_iff.1 (Bool.and_eq_true_iff.1 (Bool.and_eq_true_iff.1 h).2).2).1
theorem gbyte_10 {c : UInt8} (h : gbyte c = true) : c ≠ 10 := by
 have := (Bool.and_eq_true_iff.1 (Bool.and_eq_true_iff.1 (Bool.and_eq_true_iff.1 h).2).2).2
 simpa using this
def lbyte (c : UInt8) : Bool := gbyte c || (c == 32)
theorem lbyte_ok {c : UInt8} (h : lbyte c = true) : noHash c = true ∧ pbyte c = true ∧ c ≠ 10 := by
 rcases Bool.or_eq_true_iff.1 h with h | h
 ·exact ⟨gbyte_hash h, gbyte_p h, gbyte_10 h⟩
 ·have : c = 32 := by simpa using h
  subst this
  exact ⟨by decide, by decide, by decide⟩
theorem takeWhile_all {α : Type} {p : α → Bool} {l : List α} (h : ∀ c ∈ l, p c = true) (r : List α) (hr : ∀ c r', r = c :: r' → p c = false) : (l ++ r).takeWhile p = l ∧ (l ++ r).dropWhile p = r := by
 induction l with
 | nil =>
  cases r with
  | nil => exact ⟨rfl, rfl⟩
  | cons c r =>
   have := hr c r rfl
   simp [this]
 | cons c l ih =>
  have h1 := h c (List.mem_cons_self ..)
  obtain ⟨h2, h3⟩ := ih fun x hx => h x (List.mem_cons_of_mem _ hx)
  simp [h1, h2, h3]
theorem rwords_word {s : Str} (h : GW s) (r : Str) (hr : ∀ c r', r = c :: r' → isWord c = false) : rwords (s ++ r) = s :: rwords r := by
 obtain ⟨hne, hall⟩ := h
 cases s with
 | nil => exact absurd rfl hne
 | cons c s =>
  have hc := gbyte_word (hall c (List.mem_cons_self ..))
  have hb : isBlank c = false := by unfold isWord at hc; simp at hc; exact hc.1
  have hs : isSep c = false := by unfold isWord at hc; simp at hc; exact hc.2
  obtain ⟨h1, h2⟩ := takeWhile_all (p := isWord) (l := s) (fun x hx => gbyte_word (hall x (List.mem_cons_of_mem _ hx))) r hr
  rw [List.cons_append, rwords_cons, hb, hs, h1, h2]
structure LGood (l : List TLine) : Prop where
 some : ∀ x ∈ l, 0 < x.words.length
 few : ∀ x ∈ l, x.words.length ≤ 64
 good : ∀ x ∈ l, ∀ s ∈ x.words, GW s
theorem LGood.tail {x : TLine} {l : List TLine} (h : LGood (x :: l)) : LGood l := ⟨fun y hy => h.some y (List.mem_cons_of_mem _ hy), fun y hy => h.few y (List.mem_cons_of_mem _ hy), fun y hy => h.good y (List.mem_cons_of_mem _ hy)⟩
def numF : Nat → List TLine → List TLine
 | _, [] => []
 | i, x :: l => ⟨(i : Int) + 1, x.words⟩ :: numF (i + 1) l
theorem numF_words : ∀ (l : List TLine) (i : Nat), (numF i l).map TLine.words = l.map TLine.words
 | [], _ => rfl
 | x :: l, i => by rw [numF, List.map_cons, List.map_cons, numF_words l (i + 1)]

end
end Go.Proofs.YtkaobkjcjodffaaGreatDoor