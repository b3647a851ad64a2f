/-
 Plain laws of valid topologies: the reference's answer is the program's; no address belongs to two edges.
 Plain laws of the lines of a topology: what a valid topology is like, the lines of its text, and how long they are.
 Plain laws of numbers and prefixes: what is written is read back.
 Plain laws of lines: a text of lines is read back as its lines.
 The text of an intent: plain.
-/
import Derived.Test.YtkaobkjcjodffaaGreatDoorHK38
import Derived.Test.YtkaobkjcjodffaaGreatDoorGPwApX
import Derived.Test.YtkaobkjcjodffaaGreatDoorHC6
import Derived.Test.YtkaobkjcjodffaaGreatDoorHTab
import Derived.Test.YtkaobkjcjodffaaGreatDoorHK12
import Derived.Test.YtkaobkjcjodffaaGreatDoorHK9
import Derived.Test.YtkaobkjcjodffaaGreatDoorHLib
import Derived.Test.YtkaobkjcjodffaaGreatDoorHB6
import Derived.Test.YtkaobkjcjodffaaGreatDoorHP3
import Derived.Test.YtkaobkjcjodffaaGreatDoorHB8
import Derived.Test.YtkaobkjcjodffaaGreatDoorGPwCopy
set_option maxHeartbeats 20000000
set_option maxRecDepth 100000
namespace Go.Proofs.YtkaobkjcjodffaaGreatDoor
open Go Go.Pw
section
variable {Gl : Glob}
attribute [local irreducible] PW PWL OpP PCalls PWO PWT bothT
abbrev KCaps := Nat × Nat × Nat × Nat × Nat × Nat
def mInt (i : TInt) (n : Nat) (c : KCaps) : PV := .agg [.msl 2 7 0 n c.1, .msl 2 9 0 (i.services.map eDef).length c.2.1, .msl 2 10 0 (i.windows.map eWin).length c.2.2.1, .msl 10 12 0 (i.stms.map eStm).length c.2.2.2.1, .msl 6 14 0 (i.pubs.map ePub).length c.2.2.2.2.1, .msl 5 16 0 (i.hids.map eHid).length c.2.2.2.2.2]
def aInt (i : TInt) (og oi : PObj) (c : KCaps) : List PObj := [.dead, .dead, .dead, .dead, .dead, .dead, .dead, og, oi, .arr 2 (i.services.map eDef) c.2.1, .arr 2 (i.windows.map eWin) c.2.2.1, .dead, .arr 10 (i.stms.map eStm) c.2.2.2.1, .dead, .arr 6 (i.pubs.map ePub) c.2.2.2.2.1, .dead, .arr 5 (i.hids.map eHid) c.2.2.2.2.2]
def zI : PObj := .box [.nilsl, .nilsl, .nilsl, .nilsl, .nilsl, .nilsl]
def cst (i : TInt) (n : Nat) (og oi : PObj) (ws : List TWin) (c1 c2 c3 : Nat) : List PObj := [.box (eIntent i).cells, zI, .dead, .dead, .dead, .dead, .box [.msl 2 7 0 n c1, .msl 2 9 0 (i.services.map eDef).length c2, .msl 2 10 0 (ws.map eWin).length c3, .nilsl, .nilsl, .nilsl],
 og, oi, .arr 2 (i.services.map eDef) c2, .arr 2 (ws.map eWin) c3]
def cenv : List PV := [.any, .ptr 0 0, .ptr 1 0, .ptr 6 0] ++ List.replicate 51 .any
def cQ (i : TInt) (n : Nat) (og oi : PObj) (c1 : Nat) : Post := retF tys Tryz.f54.results.toList 17 fun r s => ∃ c : KCaps, c.1 = c1 ∧ r = mInt i n c ∧ s = aInt i og oi c
structure Inert (og oi : PObj) : Prop where
 mvg : mvO 10 13 og = og
 mvi : mvO 10 13 oi = oi
 refs : ∀ d : Nat → Bool, d 8 = true → og.refs d 5 = true ∧ oi.refs d 5 = true
theorem copy_tail (i : TInt) (hb : IBig i) {B : Base} (hD : ∀ j, B.D j = dOf [] j) (n : Nat) (og oi : PObj) (hI : Inert og oi) (c1 c2 : Nat) : PW Tryz.prog Gl B (tlC 2 (codeOf Tryz.f54)) cenv (cst i n og oi [] c1 c2 0) (cQ i n og oi c1) := by
 have h3 := hb.windows
 have h4 := hb.stms
 have h5 := hb.pubs
 have h6 := hb.hids
 unfold cst cenv
 refine pw_code rfl ?_
 refine zNq ?_
 (repeat' (first | refine zS ?_ | refine zq5 ?_ | refine zq6 ?_))
 refine zNq ?_
 refine pw_for hD (fun a : Nat × Nat => [(4, .int .i64 a.1)]) (fun a => cst i n og oi (i.windows.take a.1) c1 c2 a.2) (fun a => a.1 ≤ i.windows.length) (fun a => i.windows.length - a.1) (0, 0) (Nat.zero_le _) 11 rfl (fun _ => rfl) (by unfold cst; (exact zLes)) (fun _ => rfl) (fun _ => Bool.and_eq_true_iff.2 ⟨rfl, by
  have h7 := hI.refs (fun i => Nat.blt i 11) rfl
  simp only [cst, List.all_cons, List.all_nil, h7.1, h7.2]
  rfl⟩) zLe ?_
 rintro ⟨k, c⟩ hk
 dsimp only at hk ⊢
 unfold cst
 refine zNq ?_
 (repeat' (first | refine zS ?_ | refine zq5 ?_ | refine zq6 ?_))
 refine zT ?_ ?_ <;> intro h <;> refine zNq ?_
 ·have hlt : k < i.windows.length := by omega
  have hid := hb.active _ (getD_memD hlt)
  have e1 : (i.windows.take (k + 1)).map eWin = (i.windows.take k).map eWin ++ [eWin (i.windows.getD k default)] := by
   rw [List.take_succ_eq_append_getElem hlt, List.map_append, List.getD, List.getElem?_eq_getElem hlt]; rfl
  (repeat' (first | refine zS ?_ | refine zq5 ?_ | refine zq6 ?_))
  refine zDr [[0,1,2,3,4,5,6,7,9,10,11,12,13,14],[8,15],[16,17],[18],[19],[20]] ?_
  refine zDn ?_
  (refine zDgo ?_)
  (refine po_val rfl rfl (v_index (p := eWin (i.windows.getD k default)) hT rfl rfl rfl rfl (by omega) (lit_at eWin i.windows k default hlt) rfl) ?_; refine zDn ?_)
  (refine zDgo ?_)
  (refine po_val rfl rfl (v_index (p := eWin (i.windows.getD k default)) hT rfl rfl rfl rfl (by omega) (lit_at eWin i.windows k default hlt) rfl) ?_; refine zDn ?_)
  (refine zDgo ?_)
  (refine po_step rfl rfl (op_litm hT rfl rfl rfl rfl rfl (by decide) rfl rfl rfl rfl ⟨zLok, ?_⟩); refine zDn ?_)
  (refine po_step rfl rfl (op_appendF (b := 8) hT rfl rfl rfl rfl (by simp) rfl (by first | rfl | (simp only [List.all_map]; exact List.all_eq_true.2 fun _ _ => rfl)) (by first | rfl | (simp only [List.all_map]; exact List.all_eq_true.2 fun _ _ => rfl)) (by simp only [List.length_map, List.length_nil]; omega) ⟨(by (repeat (first | exact True.intro | refine ⟨.inr rfl, ?_⟩ | refine ⟨.inl (by decide +kernel), ?_⟩))), ?_⟩); (first | refine po_norm rfl ?_ | refine po_normE rfl ?_))
  refine zD ?_
  (refine po_step rfl rfl (op_append (b := 40) hT rfl rfl rfl rfl rfl rfl (.inl (Nat.zero_lt_succ _)) rfl rfl (by simp only [List.length_map, List.length_take, List.length_cons, List.length_nil]; omega) (fun c3 _ hcap => ⟨zLok, ?_⟩)); refine zDn ?_)
  refine zD ?_
  refine pw_mv 10 13 hD rfl rfl rfl rfl rfl ?_
  refine pw_st (congrArg (fun g : PObj × PObj => ([.box (eIntent i).cells, zI, .dead, .dead, .dead, .dead, .box [.msl 2 7 0 n c1, .msl 2 9 0 (i.services.map eDef).length c2, .msl 2 10 0 (((i.windows.take k).map eWin).length + 1) c3, .nilsl, .nilsl, .nilsl], g.1, g.2, .arr 2 (i.services.map eDef) c2, .arr 2 ((i.windows.take k).map eWin ++ [eWin (i.windows.getD k default)]) c3, .dead, .dead, .dead] : List PObj)) (Prod.ext hI.mvg hI.mvi : ((mvO 10 13 og, mvO 10 13 oi) : PObj × PObj) = (og, oi))) ?_
  refine zNq ?_
  (repeat' (first | refine zS ?_ | refine zq5 ?_ | refine zq6 ?_))
  refine ⟨(k + 1, c3), hlt, by dsimp only; omega, ?_, ?_⟩
  all_goals (try unfold cst)
  all_goals simp only [e1, List.length_append]
  ·(exact zLe)
  ·(exact zLes)
 ·obtain rfl : k = i.windows.length := by omega
  rw [List.take_length]
  refine pw_exit ?_
  refine zNq ?_
  refine zSm ?_
  (refine pl_op rfl (op_litm hT rfl rfl rfl rfl rfl (by decide) rfl rfl rfl rfl ?_); (refine zNp ?_))
  (repeat' (first | refine zS ?_ | refine zq5 ?_ | refine zq6 ?_))
  (refine pl_op rfl (op_appendX (b := 136) hT rfl rfl rfl rfl (by simp) rfl (by simp only [List.all_map]; exact List.all_eq_true.2 fun _ _ => rfl) (by simp only [List.all_map]; exact List.all_eq_true.2 fun _ _ => rfl) (by simp only [List.length_map, List.length_nil]; omega) (fun c4 _ => ?_)); (refine zNp ?_))
  refine zSm ?_
  (refine pl_op rfl (op_litm hT rfl rfl rfl rfl rfl (by decide) rfl rfl rfl rfl ?_); (refine zNp ?_))
  (repeat' (first | refine zS ?_ | refine zq5 ?_ | refine zq6 ?_))
  (refine pl_op rfl (op_appendX (b := 56) hT rfl rfl rfl rfl (by simp) rfl (by simp only [List.all_map]; exact List.all_eq_true.2 fun _ _ => rfl) (by simp only [List.all_map]; exact List.all_eq_true.2 fun _ _ => rfl) (by simp only [List.length_map, List.length_nil]; omega) (fun c5 _ => ?_)); (refine zNp ?_))
  refine zSm ?_
  (refine pl_op rfl (op_litm hT rfl rfl rfl rfl rfl (by decide) rfl rfl rfl rfl ?_); (refine zNp ?_))
  (repeat' (first | refine zS ?_ | refine zq5 ?_ | refine zq6 ?_))
  (refine pl_op rfl (op_appendX (b := 48) hT rfl rfl rfl rfl (by simp) rfl (by simp only [List.all_map]; exact List.all_eq_true.2 fun _ _ => rfl) (by simp only [List.all_map]; exact List.all_eq_true.2 fun _ _ => rfl) (by simp only [List.length_map, List.length_nil]; omega) (fun c6 _ => ?_)); (refine zNp ?_))
  (repeat' (first | refine zS ?_ | refine zq5 ?_ | refine zq6 ?_))
  simp only [List.length_nil, Nat.zero_add, List.nil_append]
  refine ⟨_, _, _, rfl, ⟨(c1, c2, c, c4, c5, c6), rfl, rfl, rfl⟩, .inr (.inl rfl), ⟨.inl rfl, .inl rfl, .inr (.inl rfl), .inr (.inl rfl), .inr (.inl rfl), .inr (.inl rfl), .inl rfl, .inr (.inl rfl), .inr (.inl rfl), .inr (.inl rfl), .inr (.inl rfl), .inr (.inl rfl), .inr (.inl rfl), .inr (.inl rfl), .inr (.inl rfl), .inr (.inl rfl), .inr (.inl rfl), trivial⟩, rfl, ?_⟩
  have h7 := hI.refs (fun i => decide (i < 17)) rfl
  simp only [aInt, List.all_cons, List.all_nil, h7.1, h7.2]
  rfl
theorem retF_mono {n : Nat} {rs : List ResultVar} {Q Q' : PV → List PObj → Prop} (h : ∀ r s, Q r s → Q' r s) : ∀ e env st, retF tys rs n Q e env st → retF tys rs n Q' e env st := fun e env st q => by
 cases e <;> first | exact False.elim q | (obtain ⟨r, r', st', h1, h2, h3⟩ := q; exact ⟨r, r', st', h1, h _ _ h2, h3⟩)
theorem cQ_flat (i : TInt) (c1 : Nat) : ∀ e env st, cQ i (i.groups.map eDef).length (.arr 2 (i.groups.map eDef) c1) .dead c1 e env st → retF tys Tryz.f54.results.toList 17 (fun r s => ∃ c : KCaps, r = mInt i (i.groups.map eDef).length c ∧ s = aInt i (.arr 2 (i.groups.map eDef) c.1) .dead c) e env st :=
 retF_mono fun _ _ ⟨c, h, h1, h2⟩ => ⟨c, h1, by rw [h]; exact h2⟩
theorem c_copyInt (i : TInt) (hb : IBig i) : PCalls Tryz.prog Gl 54 [eIntent i] [] fun r s => ∃ c : KCaps, r = mInt i (i.groups.map eDef).length c ∧ s = aInt i (.arr 2 (i.groups.map eDef) c.1) .dead c := by
 refine PCalls.of hT Tryz.func54 rfl 17 (Nat.zero_le _) fun B hD => ?_
 have hg := hb.groups
 have hs := hb.services
 have hgi := hb.gitems
 have hsi := hb.sitems
 refine pw_norm rfl ?_
 (try refine zS ?_)
 (refine pw_drawT (.fork [(0, true), (1, true), (3, true), (4, true)] 2 (.fork [] 5 (.lin [(6, true), (7, false), (8, false)]) 7 (.lin [(5, false), (6, true), (8, false)])) 7 (.lin [(2, false), (5, false), (6, true), (8, false)])) hmix (by decide +kernel) ?_; refine pwt_fork ?_)
 repeat' (first | refine zD ?_ | refine po_both ?_ ?_ | refine pwt_both ?_ ?_ | refine pwt_fork ?_ | refine pwt_lin ?_)
 all_goals
  (refine po_step rfl rfl (zCl [] e107 (c_copyDefs i.groups (by omega) (fun d hd => by have := hgi d hd; omega)) (fun r s hq => ?_)); obtain ⟨c1, rfl, rfl⟩ := hq; refine ⟨rfl, rfl, zLok, ?_⟩; refine zDn ?_)
 all_goals
  repeat' (first | refine zD ?_ | refine po_both ?_ ?_ | refine pwt_both ?_ ?_ | refine pwt_fork ?_ | refine pwt_lin ?_)
 all_goals
  (refine po_step rfl rfl (zCl [] e107 (c_copyDefs i.services (by omega) (fun d hd => by have := hsi d hd; omega)) (fun r s hq => ?_)); obtain ⟨c2, rfl, rfl⟩ := hq; refine ⟨rfl, rfl, zLok, ?_⟩; refine zDn ?_)
 all_goals
  repeat' (first | refine zD ?_ | refine po_both ?_ ?_ | refine pwt_both ?_ ?_ | refine pwt_fork ?_ | refine pwt_lin ?_)
 ·show PW _ _ _ _ _ _ _
  refine pw_ghost 2 ?_
  refine pw_ghost 2 ?_
  refine pw_ghost 2 ?_
  refine pw_ghost 2 ?_
  refine pw_ghost 2 ?_
  refine pw_ghost 2 ?_
  refine zNq ?_
  (refine pw_mv 6 4 hD rfl rfl rfl rfl rfl ?_; refine pw_norm rfl ?_)
  (refine pw_mv 7 2 hD rfl rfl rfl rfl rfl ?_; refine pw_norm rfl ?_)
  (refine pw_mv 9 3 hD rfl rfl rfl rfl rfl ?_; refine pw_norm rfl ?_)
  refine pw_less (st' := cst i (i.groups.map eDef).length (.arr 2 (i.groups.map eDef) c1) .dead [] c1 c2 0) (env' := cenv) zLe ?_ ((copy_tail i hb hD _ _ _ ⟨rfl, rfl, fun _ _ => ⟨rfl, rfl⟩⟩ c1 c2).mono ?_)
  ·unfold cst
   exact ⟨.inl rfl, .inl rfl, .inl rfl, .inl rfl, .inl rfl, .inr (.inl rfl), .inr (.inr ⟨_, _, rfl, rfl, .inr (.inl rfl), .inr (.inl rfl), .inr (.inr (.inr (.inl ⟨rfl, _, _, rfl⟩))), .inr (.inl rfl), .inr (.inl rfl), .inr (.inl rfl), trivial⟩), .inl rfl, .inr (.inl rfl), .inl rfl, .inl rfl, trivial⟩
  ·exact cQ_flat i c1
 ·show PW _ _ _ _ _ _ _
  refine pw_ghost 2 ?_
  refine pw_ghost 2 ?_
  refine pw_ghost 2 ?_
  refine pw_ghost 2 ?_
  refine pw_ghost 2 ?_
  refine pw_ghost 2 ?_
  refine zNq ?_
  (refine pw_mv 6 3 hD rfl rfl rfl rfl rfl ?_; refine pw_norm rfl ?_)
  (refine pw_mv 7 2 hD rfl rfl rfl rfl rfl ?_; refine pw_norm rfl ?_)
  (refine pw_mv 9 4 hD rfl rfl rfl rfl rfl ?_; refine pw_norm rfl ?_)
  refine pw_less (st' := cst i (i.groups.map eDef).length (.arr 2 (i.groups.map eDef) c1) .dead [] c1 c2 0) (env' := cenv) zLe ?_ ((copy_tail i hb hD _ _ _ ⟨rfl, rfl, fun _ _ => ⟨rfl, rfl⟩⟩ c1 c2).mono ?_)
  ·unfold cst
   exact ⟨.inl rfl, .inl rfl, .inl rfl, .inl rfl, .inl rfl, .inr (.inl rfl), .inr (.inr ⟨_, _, rfl, rfl, .inr (.inl rfl), .inr (.inl rfl), .inr (.inr (.inr (.inl ⟨rfl, _, _, rfl⟩))), .inr (.inl rfl), .inr (.inl rfl), .inr (.inl rfl), trivial⟩), .inl rfl, .inr (.inl rfl), .inl rfl, .inl rfl, trivial⟩
  ·exact cQ_flat i c1
 ·show PW _ _ _ _ _ _ _
  refine pw_ghost 2 ?_
  refine pw_ghost 2 ?_
  refine pw_ghost 2 ?_
  refine pw_ghost 2 ?_
  refine pw_ghost 2 ?_
  refine pw_ghost 2 ?_
  refine zNq ?_
  (refine pw_mv 6 2 hD rfl rfl rfl rfl rfl ?_; refine pw_norm rfl ?_)
  (refine pw_mv 7 3 hD rfl rfl rfl rfl rfl ?_; refine pw_norm rfl ?_)
  (refine pw_mv 9 4 hD rfl rfl rfl rfl rfl ?_; refine pw_norm rfl ?_)
  refine pw_less (st' := cst i (i.groups.map eDef).length (.arr 2 (i.groups.map eDef) c1) .dead [] c1 c2 0) (env' := cenv) zLe ?_ ((copy_tail i hb hD _ _ _ ⟨rfl, rfl, fun _ _ => ⟨rfl, rfl⟩⟩ c1 c2).mono ?_)
  ·unfold cst
   exact ⟨.inl rfl, .inl rfl, .inl rfl, .inl rfl, .inl rfl, .inr (.inl rfl), .inr (.inr ⟨_, _, rfl, rfl, .inr (.inl rfl), .inr (.inl rfl), .inr (.inr (.inr (.inl ⟨rfl, _, _, rfl⟩))), .inr (.inl rfl), .inr (.inl rfl), .inr (.inl rfl), trivial⟩), .inl rfl, .inr (.inl rfl), .inl rfl, .inl rfl, trivial⟩
  ·exact cQ_flat i c1
def nxV (l : List Int) (i : Nat) (n : Int) : Int := if n ≤ 1 ∨ l.length ≤ i then 0 else modN (l.getD i 0) n
def nxI (l : List Int) (i : Nat) (n : Int) : Nat := if n ≤ 1 ∨ l.length ≤ i then i else i + 1
theorem nxI_le {l : List Int} {i : Nat} (hi : i ≤ l.length) (n : Int) : nxI l i n ≤ l.length := by
 unfold nxI
 split
 ·exact hi
 ·omega
theorem nxV_lt {l : List Int} {i : Nat} {n : Nat} (hn : 0 < n) : ∃ m : Nat, nxV l i n = m ∧ m < n := by
 unfold nxV
 split
 ·exact ⟨0, rfl, hn⟩
 ·have := modN_lt (l.getD i 0) n (by omega)
  exact ⟨(modN (l.getD i 0) n).toNat, by omega, by omega⟩
theorem c13d (l : List Int) (hl : Tp l) (i : Nat) (hi : i ≤ l.length) (n : Int) (hn : n ≤ 9223372036854775807) : PCalls Tryz.prog Gl 17 [.ptr 0 0, .int .i64 n] [tape l i] fun r s => r = .int .i64 (nxV l i n) ∧ s = [tape l (nxI l i n)] := by
 refine PCalls.of hT Tryz.func17 rfl 1 (Nat.le_refl _) fun B hD => ?_
 refine pw_norm rfl ?_
 unfold Tp at hl
 unfold nxV nxI
 (refine zGo ?_)
 refine zDr [[0,1,2,3,4,5,6,7,8,9,10,11,12,13]] ?_
 (refine zDgo ?_)
 refine po_split 7 rfl (fun h => ?_) (fun h => ?_)
 ·have hc : n ≤ 1 ∨ l.length ≤ i := .inl (of_decide_eq_true h)
  rw [if_pos hc, if_pos hc]
  (refine zDgo ?_)
  (refine zGo ?_)
  exact ⟨_, _, _, rfl, ⟨rfl, rfl⟩, .inr (.inl rfl), ⟨.inr (.inl rfl), trivial⟩, rfl, rfl⟩
 ·(refine zDgo ?_)
  (refine zGo ?_)
  refine pw_cond rfl (fun h2 => ?_) (fun h2 => ?_)
  ·have hc : n ≤ 1 ∨ l.length ≤ i := .inr (by have h2' := of_decide_eq_true h2; rw [List.length_map] at h2'; omega)
   rw [if_pos hc, if_pos hc]
   (refine zGo ?_)
   exact ⟨_, _, _, rfl, ⟨rfl, rfl⟩, .inr (.inl rfl), ⟨.inr (.inl rfl), trivial⟩, rfl, rfl⟩
  ·have hlt : i < l.length := by have h2' := of_decide_eq_false h2; rw [List.length_map] at h2'; omega
   have hn1 : 1 < n := by have h' := of_decide_eq_false h; omega
   have hc : ¬ (n ≤ 1 ∨ l.length ≤ i) := by omega
   have hg : l.getD i 0 = l[i] := by rw [List.getD, List.getElem?_eq_getElem hlt]; rfl
   rw [if_neg hc, if_neg hc, hg]
   (refine zGo ?_)
   refine zDr [[0,1,2,3,4,5,6,7,8,9,10,11],[12],[13]] ?_
   (refine zDgo ?_)
   (refine po_val rfl rfl (v_index (p := eInt l[i]) hT rfl rfl rfl rfl (by omega) (by simp [hlt]) rfl) ?_; refine zDn ?_)
   (refine zDgo ?_)
   (refine po_step rfl rfl (op_fun (c31 l[i] n (by omega) hn) rfl rfl e23 zLe rfl (fun r hr => ?_)); subst hr; refine ⟨rfl, zLok, ?_⟩; refine zDn ?_)
   (refine zDgo ?_)
   (refine zGo ?_)
   exact ⟨_, _, _, rfl, ⟨rfl, rfl⟩, .inr (.inl rfl), ⟨.inr (.inl rfl), trivial⟩, rfl, rfl⟩
theorem c_gRanges (l : List Int) (hl : Tp l) (i : Nat) (hi : i ≤ l.length) : Gen Gl 55 [.int .i64 3, .int .u32 10080, .bool true] l i fun r => ∃ x : List TRng, x.length ≤ 3 ∧ (∀ y ∈ x, (0 ≤ y.lo ∧ y.lo ≤ 10080) ∧ 0 ≤ y.hi ∧ y.hi ≤ 10080) ∧ r = .sl (x.map eRng) := by
 refine PCalls.of hT Tryz.func55 rfl 1 (Nat.le_refl _) fun B hD => ?_
 refine pw_norm rfl ?_
 (repeat' (first | refine zS ?_ | refine zq5 ?_ | refine zq6 ?_))
 (refine pl_op rfl (zCl [0] e17 (c13n l hl i hi 4 (by decide) (by decide)) (fun r s hq => ?_)); obtain ⟨j1, ⟨m1, hm1, rfl⟩, hj1, rfl⟩ := hq; refine ⟨rfl, rfl, ?_⟩; (refine zNp ?_))
 (repeat' (first | refine zS ?_ | refine zq5 ?_ | refine zq6 ?_))
 refine pw_ghost 2 ?_
 refine zNq ?_
 refine pw_for hD (fun a : Nat × List TRng × Nat × Nat => [(9, .msl 2 1 0 (a.2.1.map eRng).length a.2.2.1), (10, .int .i64 a.1)]) (fun a => [tape l a.2.2.2, .arr 2 (a.2.1.map eRng) a.2.2.1])
  (fun a => a.1 + a.2.1.length ≤ 3 ∧ (∀ y ∈ a.2.1, (0 ≤ y.lo ∧ y.lo ≤ 10080) ∧ 0 ≤ y.hi ∧ y.hi ≤ 10080) ∧ a.2.2.2 ≤ l.length) (fun a => a.1) (m1, [], 0, j1) ⟨by dsimp only; simp; omega, by simp, hj1⟩ 2 rfl (fun _ => rfl) zLes (fun _ => rfl) (fun _ => rfl) zLe ?_
 rintro ⟨k, x, c, j⟩ ⟨hk, hx, hj⟩
 dsimp only at hk hx hj ⊢
 refine zNq ?_
 (repeat' (first | refine zS ?_ | refine zq5 ?_ | refine zq6 ?_))
 refine zT ?_ ?_ <;> intro h <;> refine zNq ?_
 ·(repeat' (first | refine zS ?_ | refine zq5 ?_ | refine zq6 ?_))
  (refine pl_op rfl (zCl [0] e38 (c_gRange l hl j hj 10080 (by decide) (by decide)) (fun r s hq => ?_)); obtain ⟨j2, ⟨y, hy, rfl⟩, hj2, rfl⟩ := hq; refine ⟨rfl, rfl, ?_⟩; (refine zNp ?_))
  (repeat' (first | refine zS ?_ | refine zq5 ?_ | refine zq6 ?_))
  (refine pl_on rfl rfl (zCl [0] e17 (c13n l hl j2 hj2 8 (by decide) (by decide)) (fun r s hq => ?_)); obtain ⟨j3, ⟨m3, hm3, rfl⟩, hj3, rfl⟩ := hq; refine ⟨rfl, rfl, ?_⟩; (refine zNp ?_))
  (repeat' (first | refine zS ?_ | refine zq5 ?_ | refine zq6 ?_))
  refine zT ?_ ?_ <;> intro h2 <;> refine zNq ?_
  ·(repeat' (first | refine zS ?_ | refine zq5 ?_ | refine zq6 ?_))
   (refine pl_append (b := 8) hT hD rfl rfl rfl rfl rfl rfl rfl rfl (.inl (Nat.zero_lt_succ _)) rfl rfl (by simp only [List.length_map, List.length_cons, List.length_nil]; omega) (fun c1 _ hcap => ?_); (refine zNp ?_))
   (repeat' (first | refine zS ?_ | refine zq5 ?_ | refine zq6 ?_))
   refine ⟨(k - 1, x ++ [⟨y.hi, y.lo⟩], c1, j3), ⟨by rw [List.length_append, List.length_singleton]; omega, fun w hw => ?_, hj3⟩, by dsimp only; omega, ?_, ?_⟩
   ·rcases List.mem_append.1 hw with hw | hw
    ·exact hx w hw
    ·rw [List.mem_singleton.1 hw]; dsimp only; omega
   all_goals simp only [List.map_append, List.length_append]
   ·rw [show ((k - 1 : Nat) : Int) = (k : Int) - 1 by omega]
    (exact zLe)
   ·(exact zLes)
  ·(repeat' (first | refine zS ?_ | refine zq5 ?_ | refine zq6 ?_))
   (refine pl_append (b := 8) hT hD rfl rfl rfl rfl rfl rfl rfl rfl (.inl (Nat.zero_lt_succ _)) rfl rfl (by simp only [List.length_map, List.length_cons, List.length_nil]; omega) (fun c1 _ hcap => ?_); (refine zNp ?_))
   (repeat' (first | refine zS ?_ | refine zq5 ?_ | refine zq6 ?_))
   refine ⟨(k - 1, x ++ [y], c1, j3), ⟨by rw [List.length_append, List.length_singleton]; omega, fun w hw => ?_, hj3⟩, by dsimp only; omega, ?_, ?_⟩
   ·rcases List.mem_append.1 hw with hw | hw
    ·exact hx w hw
    ·rw [List.mem_singleton.1 hw]; omega
   all_goals simp only [List.map_append, List.length_append]
   ·rw [show ((k - 1 : Nat) : Int) = (k : Int) - 1 by omega]
    (exact zLe)
   ·(exact zLes)
 ·(repeat' (first | refine zS ?_ | refine zq5 ?_ | refine zq6 ?_))
  exact ⟨_, _, _, rfl, ⟨j, ⟨x, by omega, hx, rfl⟩, hj, rfl⟩, .inr (.inr (.inr (.inl ⟨_, _, _, _, _, _, rfl, rfl, rfl, rfl, rfl⟩))), ⟨.inr (.inl rfl), trivial⟩, rfl, rfl⟩
def nameL6 : List Str := [[97], [98], [99], [100, 109, 122], [120, 45, 49], [121, 95, 50]]
theorem c_gName (l : List Int) (hl : Tp l) (i : Nat) (hi : i ≤ l.length) : Gen Gl 56 [] l i fun r => ∃ s : Str, r = .str s := by
 refine PCalls.of hT Tryz.func56 rfl 1 (Nat.le_refl _) fun B hD => ?_
 refine pw_norm rfl ?_
 (try refine zS ?_)
 (refine pl_op rfl (zCl [0] e17 (c13n l hl i hi 6 (by decide) (by decide)) (fun r s hq => ?_)); obtain ⟨j1, ⟨m1, hm1, rfl⟩, hj1, rfl⟩ := hq; refine ⟨rfl, rfl, ?_⟩; (refine zNp ?_))
 (refine pl_op rfl (op_of (v_index (p := .str (nameL6.getD m1 [])) hT rfl rfl rfl rfl (by omega) (lit_at .str nameL6 m1 [] hm1) rfl) ?_); (refine zNp ?_))
 (try refine zS ?_)
 exact ⟨_, _, _, rfl, ⟨j1, ⟨_, rfl⟩, hj1, rfl⟩, .inr (.inl rfl), ⟨.inr (.inl rfl), trivial⟩, rfl, rfl⟩
end
section
theorem e55 : Enters Tryz.prog 55 := Enters.of Tryz.func55 (by kernel_rfl) rfl
theorem e56 : Enters Tryz.prog 56 := Enters.of Tryz.func56 (by kernel_rfl) rfl
variable {Gl : Glob}
attribute [local irreducible] PW PWL OpP PCalls PWO vname vDefs vStm wOkB PWT bothT
def wWin (l : List TWin) (k : Nat) : Bool := (vname (l.getD k default).name && decide (firstAt (fun x : TWin => x.name == (l.getD k default).name) l = k)) && wOkB (l.getD k default).active
def vPub (x : TPub) : Bool := (((x.proto == 6 || x.proto == 17) && (decide (x.port ≥ 0) && decide (x.port ≤ 65535))) && (decide (x.realPort ≥ 0) && decide (x.realPort ≤ 65535))) && vname x.edge
def vHid (x : THid) : Bool := (vname x.group && vname x.edge) && ((decide (x.ports.lo ≥ 1024) && decide (x.ports.lo ≤ x.ports.hi)) && decide (x.ports.hi ≤ 65535))
structure IIn (i : TInt) : Prop where
 gits : ∀ d ∈ i.groups, ∀ x ∈ d.items, ItIn x
 sits : ∀ d ∈ i.services, ∀ x ∈ d.items, ItIn x
 wins : ∀ d ∈ i.windows, d.active.length < 100000 ∧ ∀ r ∈ d.active, RIn r
def iValid (i : TInt) : Bool :=
 (((((vDefs i.groups false && vDefs i.services true) && decide (i.windows.length ≤ 32)) && decide (i.stms.length ≤ 64)) && decide (i.pubs.length ≤ 16)) && decide (i.hids.length ≤ 8)) &&
 ((((List.range i.windows.length).all (wWin i.windows) && i.stms.all vStm) && i.pubs.all vPub) && i.hids.all vHid)
end
section
variable {Gl : Glob}
attribute [local irreducible] PW PWL OpP PCalls PWO PWT bothT
def allI {α : Type} (p : Nat → α → Bool) (l : List α) : Bool := (List.range l.length).all fun i => match l[i]? with | some x => p i x | none => true
end
section
def rvMeet (l : List TPfx) (i : Nat) (p : TPfx) : Bool := !((l.take i).any (rmeet p))
def hit (a : Int) (e : TEdge) : Bool := !e.planned && rcont e.pfx a
def ownA (t : Topo) (a : Int) : Int := firstAt (hit a) t.edges
def Own (a : Int) (l : List TEdge) (k : Nat) (n last : Int) : Prop :=
 (n = 0 ∧ last = -1 ∧ ∀ (j : Nat) x, j < k → l[j]? = some x → hit a x = false) ∨ (∃ i : Nat, n = 1 ∧ last = i ∧ i < k ∧ ∃ x, l[i]? = some x ∧ hit a x = true ∧ ∀ (j : Nat) y, j < i → l[j]? = some y → hit a y = false)
theorem Own.fin {a : Int} {t : Topo} {n last : Int} (h : Own a t.edges t.edges.length n last) : 0 ≤ n ∧ n ≤ 1 ∧ ownA t a = last := by
 rcases h with ⟨e1, e2, h1⟩ | ⟨i, e1, e2, hi, y, hy, h1, h2⟩
 ·refine ⟨by omega, by omega, ?_⟩
  rw [e2]
  exact firstAt_miss fun j x hx => h1 j x (List.getElem?_eq_some_iff.1 hx).1 hx
 ·refine ⟨by omega, by omega, ?_⟩
  rw [e2]
  obtain ⟨hl, rfl⟩ := List.getElem?_eq_some_iff.1 hy
  exact firstAt_hit hl h1 h2
theorem Own.bound {a : Int} {l : List TEdge} {k : Nat} {n last : Int} (h : Own a l k n last) : 0 ≤ n ∧ n ≤ 1 := by
 rcases h with ⟨e1, _⟩ | ⟨i, e1, _⟩ <;> omega
structure RV (t : Topo) : Prop where
 d1 : 1 ≤ t.devs.length
 d2 : t.devs.length ≤ 12
 l2 : t.links.length ≤ 24
 e2 : t.edges.length ≤ 12
 p2 : t.pools.length ≤ 8
 tol : 0 ≤ t.tol ∧ t.tol ≤ 2
 devI : ∀ (i : Nat) d, t.devs[i]? = some d → vname d.name = true ∧ tDevice t d.name = (i : Int) ∧ 0 ≤ d.cap ∧ d.cap ≤ 4096 ∧ (d.cls = [] ∨ vname d.cls = true)
 link : ∀ l ∈ t.links, 0 ≤ l.a ∧ l.a < l.b ∧ l.b < t.devs.length ∧ 1 ≤ l.cost ∧ l.cost ≤ 1000
 edgeI : ∀ (i : Nat) e, t.edges[i]? = some e → (vname e.name = true ∧ vname e.zone = true) ∧ tEdge t e.name = (i : Int) ∧ (0 ≤ e.dev ∧ e.dev < t.devs.length) ∧ 1 ≤ e.pfx.bits ∧ rvalid e.pfx = true ∧ (e.planned = true → e.pfx.addr = 0)
 fix : allI (rvMeet (fixed t.edges)) (fixed t.edges) = true
 pool : ∀ (i : Nat) p, t.pools[i]? = some p → rvalid p = true ∧ (t.pools.take i).any (rmeet p) = false
theorem RV.dev {t : Topo} (h : RV t) {d : TDev} (hd : d ∈ t.devs) : vname d.name = true ∧ (0 ≤ d.cap ∧ d.cap ≤ 4096) ∧ (d.cls = [] ∨ vname d.cls = true) := by
 obtain ⟨i, hi⟩ := List.mem_iff_getElem?.1 hd
 obtain ⟨h1, _, h2, h3, h4⟩ := h.devI i d hi
 exact ⟨h1, ⟨h2, h3⟩, h4⟩
theorem RV.edge {t : Topo} (h : RV t) {e : TEdge} (he : e ∈ t.edges) : (vname e.name = true ∧ vname e.zone = true) ∧ (0 ≤ e.dev ∧ e.dev < t.devs.length) ∧ 1 ≤ e.pfx.bits ∧ rvalid e.pfx = true ∧ (e.planned = true → e.pfx.addr = 0) := by
 obtain ⟨i, hi⟩ := List.mem_iff_getElem?.1 he
 obtain ⟨h1, _, h2⟩ := h.edgeI i e hi
 exact ⟨h1, h2⟩
theorem rvalid_b {p : TPfx} (h : rvalid p = true) : 0 ≤ p.bits ∧ p.bits ≤ 32 := rvalid_bits h
theorem vname_len {s : Str} (h : vname s = true) : s.length ≤ 24 := by
 rw [vname_eq] at h
 simp only [nmHead, Bool.and_eq_true, Bool.not_eq_true', Bool.or_eq_false_iff, decide_eq_false_iff_not] at h
 have := h.1.1.2
 omega
def dev0 : TDev := ⟨[], 0, false, false, []⟩
def nm (t : Topo) (i : Int) : Str := (t.devs.getD i.toNat dev0).name
def ln (w : List Str) : TLine := ⟨0, w⟩
theorem pfxS_len (p : TPfx) (h : 0 ≤ p.bits ∧ p.bits ≤ 32) : (pfxS p).length ≤ 24 := by
 have h1 := addrS_len p.addr.toNat
 have h2 : (dec p.bits.toNat).length ≤ 4 := dec_small (by omega)
 simp only [pfxS, List.length_append, List.length_singleton]
 omega
theorem dig_toNat (d : Nat) (h : d < 10) : (UInt8.ofNat (48 + d)).toNat = 48 + d := by
 rw [UInt8.toNat_ofNat', Nat.mod_eq_of_lt (by omega)]
theorem dbad_dig (d : Nat) (h : d < 10) : dbad (UInt8.ofNat (48 + d)) = false := by
 unfold dbad
 rw [dig_toNat d h]
 simp
 omega
theorem dec_dig (n : Nat) : (dec n).any dbad = false := by
 induction n using Nat.strongRecOn with
 | _ n ih =>
  by_cases h : n < 10
  ·rw [dec_lt h, List.any_cons, dbad_dig n h]; rfl
  ·rw [dec_ge h, List.any_append, ih (n / 10) (by omega), List.any_cons, dbad_dig (n % 10) (by omega)]; rfl
theorem dval_dec (n : Nat) : dval (dec n) = n := by
 induction n using Nat.strongRecOn with
 | _ n ih =>
  by_cases h : n < 10
  ·rw [dec_lt h]
   show 10 * 0 + ((UInt8.ofNat (48 + n)).toNat - 48) = n
   rw [dig_toNat n h]; omega
  ·rw [dec_ge h, dval_snoc, ih (n / 10) (by omega), dig_toNat (n % 10) (by omega)]; omega
theorem dec_ne (n : Nat) : dec n ≠ [] := by
 by_cases h : n < 10
 ·rw [dec_lt h]; simp
 ·rw [dec_ge h]; simp
theorem dec_hd (n : Nat) (h1 : 1 ≤ n) : ((dec n).headD 0).toNat ≠ 48 := by
 induction n using Nat.strongRecOn with
 | _ n ih =>
  by_cases h : n < 10
  ·rw [dec_lt h]
   show (UInt8.ofNat (48 + n)).toNat ≠ 48
   rw [dig_toNat n h]; omega
  ·rw [dec_ge h]
   have := ih (n / 10) (by omega) (by omega)
   cases hd : dec (n / 10) with
   | nil => exact absurd hd (dec_ne _)
   | cons c l => rw [hd] at this; exact this
theorem dec_long {n : Nat} (h : 1 < (dec n).length) : 1 ≤ n := by
 by_cases h1 : n < 10
 ·rw [dec_lt h1] at h; simp at h
 ·omega
theorem zhead_dec (n : Nat) : (decide (((dec n).length : Int) > 1) && ((((dec n).headD 0).toNat : Int) == 48)) = false := by
 by_cases h : 1 < (dec n).length
 ·have := dec_hd n (dec_long h)
  have e : ((((dec n).headD 0).toNat : Int) == 48) = false := by rw [beq_eq_false_iff_ne]; omega
  rw [e, Bool.and_false]
 ·rw [decide_eq_false (by omega), Bool.false_and]
theorem rhead_dec (n : Nat) : rhead (dec n) = false := by
 unfold rhead
 rw [zhead_dec, Bool.or_false]
 simpa using dec_ne n
theorem rread_dec (n : Nat) (b : Int) (h : (n : Int) ≤ b) : rread (dec n) b = ((n : Int), true) := by
 rw [rread_eq _ b (by omega), rhead_dec, dec_dig, dval_dec, decide_eq_true h]; rfl
theorem digitsB_dec (n : Nat) : digitsB (dec n) = true := by
 rw [digitsB_eq]
 unfold rdig
 rw [dec_dig]
 have h := zhead_dec n
 have hn := dec_ne n
 have e1 : (dec n == []) = false := by simpa using hn
 rw [e1]
 by_cases h1 : 1 < (dec n).length
 ·rw [decide_eq_true (by omega), Bool.true_and] at h
  rw [bne, h]; simp
 ·have : (dec n).length = 1 := by
   have : (dec n).length ≠ 0 := by simpa using hn
   omega
  rw [this]; simp
theorem dec_no {c : UInt8} (h : dbad c = true) (n : Nat) : c ∉ dec n := fun hc => by
 have := List.any_eq_false.1 (dec_dig n) c hc
 exact this h
theorem addrS_cons (a : Nat) : addrS a = dec (oct a 24) ++ 46 :: (dec (oct a 16) ++ 46 :: (dec (oct a 8) ++ 46 :: dec (oct a 0))) := by simp [addrS]
theorem parts_addr (a : Nat) : parts 46 (addrS a) = [dec (oct a 24), dec (oct a 16), dec (oct a 8), dec (oct a 0)] := by
 have hn := fun n => dec_no (c := 46) (by decide) n
 rw [addrS_cons]
 have e1 := parts_some (hn (oct a 24)) (b := dec (oct a 16) ++ 46 :: (dec (oct a 8) ++ 46 :: dec (oct a 0))) []
 have e2 := parts_some (hn (oct a 16)) (b := dec (oct a 8) ++ 46 :: dec (oct a 0)) []
 have e3 := parts_some (hn (oct a 8)) (b := dec (oct a 0)) []
 have e4 := parts_none (hn (oct a 0)) []
 rw [parts, e1, parts, e2, parts, e3, parts, e4]; rfl
theorem okOct_dec (n : Nat) (h : n < 256) : okOct (dec n) = true ∧ vOct (dec n) = (n : Int) := by
 have := rread_dec n 255 (by omega)
 unfold okOct vOct
 rw [this]; exact ⟨rfl, rfl⟩
theorem oct_sum (a : Nat) (h : a < 4294967296) : (((0 * 256 + (oct a 24 : Int)) * 256 + (oct a 16 : Int)) * 256 + (oct a 8 : Int)) * 256 + (oct a 0 : Int) = (a : Int) := by
 simp only [oct]
 omega
theorem addr_addrS (a : Nat) (h : a < 4294967296) : addr (addrS a) = ((a : Int), true) := by
 rw [addr_eq]
 unfold raddr
 rw [parts_addr]
 obtain ⟨a1, b1⟩ := okOct_dec (oct a 24) (oct_lt a 24)
 obtain ⟨a2, b2⟩ := okOct_dec (oct a 16) (oct_lt a 16)
 obtain ⟨a3, b3⟩ := okOct_dec (oct a 8) (oct_lt a 8)
 obtain ⟨a4, b4⟩ := okOct_dec (oct a 0) (oct_lt a 0)
 rw [if_pos (show ([dec (oct a 24), dec (oct a 16), dec (oct a 8), dec (oct a 0)] : List Str).length = 4 from rfl)]
 simp only [sum4, a1, a2, a3, a4, b1, b2, b3, b4, if_true, oct_sum a h]
 rfl
theorem slash_no (a : Nat) : (47 : UInt8) ∉ addrS a := by
 have hn := fun n => dec_no (c := 47) (by decide) n
 rw [addrS]
 simp only [List.mem_append, List.mem_singleton, not_or]
 exact ⟨⟨⟨⟨⟨⟨hn _, by decide⟩, hn _⟩, by decide⟩, hn _⟩, by decide⟩, hn _⟩
theorem pfx_pfxS (p : TPfx) (hp : PfxIn p) (hv : rvalid p = true) : pfxParse (pfxS p) = (p, true) := by
 have hb := rvalid_b hv
 have e0 : pfxS p = addrS p.addr.toNat ++ 47 :: dec p.bits.toNat := by simp [pfxS]
 have e1 := parts_some (slash_no p.addr.toNat) (b := dec p.bits.toNat) []
 have e2 := parts_none (dec_no (c := 47) (by decide) p.bits.toNat) []
 have ha : ((p.addr.toNat : Nat) : Int) = p.addr := Int.toNat_of_nonneg hp.1
 have hbb : ((p.bits.toNat : Nat) : Int) = p.bits := Int.toNat_of_nonneg hb.1
 have h1 := addr_addrS p.addr.toNat (by have := hp.2; omega)
 have h2 := rread_dec p.bits.toNat 32 (by omega)
 rw [ha] at h1
 rw [hbb] at h2
 rw [pfx_eq]
 unfold rpfx
 have e3 : parts 47 (pfxS p) = [addrS p.addr.toNat, dec p.bits.toNat] := by
  rw [e0, parts, e1, parts, e2]; rfl
 rw [e3, if_pos (show ([addrS p.addr.toNat, dec p.bits.toNat] : List Str).length = 2 from rfl), show ([addrS p.addr.toNat, dec p.bits.toNat] : List Str).getD 0 [] = addrS p.addr.toNat from rfl, show ([addrS p.addr.toNat, dec p.bits.toNat] : List Str).getD 1 [] = dec p.bits.toNat from rfl, h1, h2]
 show (if _ then _ else _) = _
 rw [hv]
 rfl
def gbyte (c : UInt8) : Bool := isWord c && (noHash c && (pbyte c && !(c == 10)))
structure GW (s : Str) : Prop where
 ne : s ≠ []
 all : ∀ c ∈ s, gbyte c = true
theorem gbyte_word {c : UInt8} (h : gbyte c = true) : isWord c = true := (Bool.and_eq_true_iff.1 h).1
theorem gbyte_hash {c : UInt8} (h : gbyte c = true) : noHash c = true := (Bool.and_eq_true_iff.1 (Bool.and_eq_true_iff.1 h).2).1
theorem gbyte_p {c : UInt8} (h : gbyte c = true) : pbyte c = true := (Bool.and_eq_true_iff.1 (Bool.and_eq_true_iff.1 (Bool.and_eq_true_iff.1 h).2).2).1
theorem gbyte_10 {c : UInt8} (h : gbyte c = true) : c ≠ 10 := by
 have := (Bool.and_eq_true_iff.1 (Bool.and_eq_true_iff.1 (Bool.and_eq_true_iff.1 h).2).2).2
 simpa using this
def lbyte (c : UInt8) : Bool := gbyte c || (c == 32)
theorem lbyte_ok {c : UInt8} (h : lbyte c = true) : noHash c = true ∧ pbyte c = true ∧ c ≠ 10 := by
 rcases Bool.or_eq_true_iff.1 h with h | h
 ·exact ⟨gbyte_hash h, gbyte_p h, gbyte_10 h⟩
 ·have : c = 32 := by simpa using h
  subst this
  exact ⟨by decide, by decide, by decide⟩
theorem takeWhile_all {α : Type} {p : α → Bool} {l : List α} (h : ∀ c ∈ l, p c = true) (r : List α) (hr : ∀ c r', r = c :: r' → p c = false) : (l ++ r).takeWhile p = l ∧ (l ++ r).dropWhile p = r := by
 induction l with
 | nil =>
  cases r with
  | nil => exact ⟨rfl, rfl⟩
  | cons c r =>
   have := hr c r rfl
   simp [this]
 | cons c l ih =>
  have h1 := h c (List.mem_cons_self ..)
  obtain ⟨h2, h3⟩ := ih fun x hx => h x (List.mem_cons_of_mem _ hx)
  simp [h1, h2, h3]
theorem rwords_word {s : Str} (h : GW s) (r : Str) (hr : ∀ c r', r = c :: r' → isWord c = false) : rwords (s ++ r) = s :: rwords r := by
 obtain ⟨hne, hall⟩ := h
 cases s with
 | nil => exact absurd rfl hne
 | cons c s =>
  have hc := gbyte_word (hall c (List.mem_cons_self ..))
  have hb : isBlank c = false := by unfold isWord at hc; simp at hc; exact hc.1
  have hs : isSep c = false := by unfold isWord at hc; simp at hc; exact hc.2
  obtain ⟨h1, h2⟩ := takeWhile_all (p := isWord) (l := s) (fun x hx => gbyte_word (hall x (List.mem_cons_of_mem _ hx))) r hr
  rw [List.cons_append, rwords_cons, hb, hs, h1, h2]
structure LGood (l : List TLine) : Prop where
 some : ∀ x ∈ l, 0 < x.words.length
 few : ∀ x ∈ l, x.words.length ≤ 64
 good : ∀ x ∈ l, ∀ s ∈ x.words, GW s
theorem LGood.tail {x : TLine} {l : List TLine} (h : LGood (x :: l)) : LGood l := ⟨fun y hy => h.some y (List.mem_cons_of_mem _ hy), fun y hy => h.few y (List.mem_cons_of_mem _ hy), fun y hy => h.good y (List.mem_cons_of_mem _ hy)⟩
def numF : Nat → List TLine → List TLine
 | _, [] => []
 | i, x :: l => ⟨(i : Int) + 1, x.words⟩ :: numF (i + 1) l
theorem numF_words : ∀ (l : List TLine) (i : Nat), (numF i l).map TLine.words = l.map TLine.words
 | [], _ => rfl
 | x :: l, i => by rw [numF, List.map_cons, List.map_cons, numF_words l (i + 1)]
def spanS (r : TRng) : Str := if r.lo = r.hi then dec r.lo.toNat else (dec r.lo.toNat ++ [45]) ++ dec r.hi.toNat
def itemW (x : TItem) (g : Bool) : List Str :=
 if x.kind = 3 ∧ g = true then [[103, 114, 111, 117, 112], x.name] else if x.kind = 3 then [[115, 101, 114, 118, 105, 99, 101], x.name] else if x.kind = 1 then [[122, 111, 110, 101], x.name] else if x.kind = 2 then [[115, 117, 98, 110, 101, 116], pfxS x.pfx] else
 if x.proto = 6 then [[116, 99, 112], spanS x.ports] else if x.proto = 17 then [[117, 100, 112], spanS x.ports] else if x.proto = 1 then [[105, 99, 109, 112]] else [[112, 114, 111, 116, 111], dec x.proto.toNat]
def itemsN (l : List TItem) (g : Bool) : Nat → List Str
 | 0 => []
 | k + 1 => (itemsN l g k ++ if 0 < k then [[44]] else []) ++ itemW (l.getD k default) g
def itemsW (l : List TItem) (g : Bool) : List Str := itemsN l g l.length
def stmW0 (s : TStm) : List Str := [if s.permit then [97, 108, 108, 111, 119] else [100, 101, 110, 121], nameS s.src, [45, 62], nameS s.dst, nameS s.service]
def stmW1 (s : TStm) : List Str := stmW0 s ++ if s.excepted then [[101, 120, 99, 101, 112, 116], nameS s.exSrc, [45, 62], nameS s.exDst] else []
def stmW2 (s : TStm) : List Str := stmW1 s ++ if s.cls = [] then [] else [[118, 105, 97], s.cls]
def stmW3 (s : TStm) : List Str := stmW2 s ++ if s.during = [] then [] else [[100, 117, 114, 105, 110, 103], s.during]
def stmW (s : TStm) : List Str := stmW3 s ++ if s.prio = 0 then [] else [[112, 114, 105, 111, 114, 105, 116, 121], dec s.prio.toNat]
def pubW (p : TPub) : List Str := [[112, 117, 98, 108, 105, 115, 104], addrS p.addr.toNat, if p.proto = 17 then [117, 100, 112] else [116, 99, 112], dec p.port.toNat, [97, 116], p.edge, [116, 111], addrS p.real.toNat, dec p.realPort.toNat]
def hidW (h : THid) : List Str := [[104, 105, 100, 101], h.group, [97, 116], h.edge, [98, 101, 104, 105, 110, 100], addrS h.addr.toNat, [112, 111, 114, 116, 115], spanS h.ports]
def defW (g : Bool) (d : TDef) : List Str := [if g then [103, 114, 111, 117, 112] else [115, 101, 114, 118, 105, 99, 101], d.name, [61]] ++ itemsW d.items g
def winW (w : TWin) : List Str := [[119, 105, 110, 100, 111, 119], w.name, [61]] ++ wFormat w.active
def lGroups (i : TInt) : List TLine := i.groups.map fun d => ln (defW true d)
def lServices (i : TInt) : List TLine := i.services.map fun d => ln (defW false d)
def lWindows (i : TInt) : List TLine := i.windows.map fun d => ln (winW d)
def lStms (i : TInt) : List TLine := i.stms.map fun d => ln (stmW d)
def lPubs (i : TInt) : List TLine := i.pubs.map fun d => ln (pubW d)
def lHids (i : TInt) : List TLine := i.hids.map fun d => ln (hidW d)
def iLines (i : TInt) : List TLine := ((((lGroups i ++ lServices i) ++ lWindows i) ++ lStms i) ++ lPubs i) ++ lHids i
def iFormat (i : TInt) : Str × Int := if iValid i then (textS (iLines i), 0) else ([], 1)
structure WLe2 (w : List Str) : Prop where
 len : w.length ≤ 60
 each : ∀ s ∈ w, s.length ≤ 48
theorem joinW_len2 : ∀ (w : List Str) (k : Nat), (∀ s ∈ w, s.length ≤ 48) → (joinW k w).length ≤ w.length * 49
 | [], k, _ => by cases k <;> simp [joinW]
 | x :: w, 0, h => by
  have := joinW_len2 w 1 fun s hs => h s (List.mem_cons_of_mem _ hs)
  have := h x (List.mem_cons_self ..)
  simp only [joinW, List.length_append, List.length_cons]
  omega
 | x :: w, k + 1, h => by
  have := joinW_len2 w (k + 2) fun s hs => h s (List.mem_cons_of_mem _ hs)
  have := h x (List.mem_cons_self ..)
  simp only [joinW, List.length_append, List.length_cons, List.length_nil]
  omega
theorem lineS_len2 {w : List Str} (h : WLe2 w) : (lineS w).length ≤ 2941 := by
 have h1 := joinW_len2 w 0 h.each
 have h2 := h.len
 have : w.length * 49 ≤ 60 * 49 := Nat.mul_le_mul_right _ h2
 simp only [lineS, List.length_append, List.length_cons, List.length_nil]
 omega
theorem textS_len2 : ∀ (l : List TLine), (∀ x ∈ l, WLe2 x.words) → (textS l).length ≤ l.length * 2941
 | [], _ => Nat.zero_le _
 | x :: l, h => by
  have h1 := textS_len2 l fun y hy => h y (List.mem_cons_of_mem _ hy)
  have h2 := lineS_len2 (h x (List.mem_cons_self ..))
  have e : textS (x :: l) = lineS x.words ++ textS l := by simp [textS]
  rw [e, List.length_append, List.length_cons]
  omega
variable {Gl : Glob}
attribute [local irreducible] PW PWL OpP PCalls PWO PWT bothT
theorem dec5 {n : Int} (h : n ≤ 65535) : (dec n.toNat).length ≤ 5 := dec_len 4 n.toNat (by omega)
structure PIn2 (r : TRng) : Prop where
 l0 : 0 ≤ r.lo
 l1 : r.lo ≤ 65535
 h0 : 0 ≤ r.hi
 h1 : r.hi ≤ 65535
structure FItem (x : TItem) : Prop where
 pfx : x.kind = 2 → PfxIn x.pfx ∧ rvalid x.pfx = true
 ports : x.kind = 4 → x.proto = 6 ∨ x.proto = 17 → PIn2 x.ports
 proto : x.kind = 4 → 0 ≤ x.proto ∧ x.proto ≤ 255
 kind : x.kind = 1 ∨ x.kind = 2 ∨ x.kind = 3 ∨ x.kind = 4

end
end Go.Proofs.YtkaobkjcjodffaaGreatDoor