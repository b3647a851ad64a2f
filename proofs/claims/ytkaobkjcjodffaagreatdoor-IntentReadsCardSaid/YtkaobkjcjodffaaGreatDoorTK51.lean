/-
 Contracts of functions, walked over pure values.
-/
import Derived.Test.YtkaobkjcjodffaaGreatDoorTK33
import Derived.Test.YtkaobkjcjodffaaGreatDoorSPwApX
import Derived.Test.YtkaobkjcjodffaaGreatDoorTC6
import Derived.Test.YtkaobkjcjodffaaGreatDoorTTab
import Derived.Test.YtkaobkjcjodffaaGreatDoorTLib
import Derived.Test.YtkaobkjcjodffaaGreatDoorTB6
set_option maxHeartbeats 20000000
set_option maxRecDepth 100000
namespace Go.Proofs.YtkaobkjcjodffaaGreatDoor
open Go Go.Pw
section
variable {Gl : Glob}
attribute [local irreducible] PW PWL OpP PCalls PWO PWT bothT
abbrev KCaps := Nat × Nat × Nat × Nat × Nat × Nat
def mInt (i : TInt) (n : Nat) (c : KCaps) : PV := .agg [.msl 2 7 0 n c.1, .msl 2 9 0 (i.services.map eDef).length c.2.1, .msl 2 10 0 (i.windows.map eWin).length c.2.2.1, .msl 10 12 0 (i.stms.map eStm).length c.2.2.2.1, .msl 6 14 0 (i.pubs.map ePub).length c.2.2.2.2.1, .msl 5 16 0 (i.hids.map eHid).length c.2.2.2.2.2]
def aInt (i : TInt) (og oi : PObj) (c : KCaps) : List PObj := [.dead, .dead, .dead, .dead, .dead, .dead, .dead, og, oi, .arr 2 (i.services.map eDef) c.2.1, .arr 2 (i.windows.map eWin) c.2.2.1, .dead, .arr 10 (i.stms.map eStm) c.2.2.2.1, .dead, .arr 6 (i.pubs.map ePub) c.2.2.2.2.1, .dead, .arr 5 (i.hids.map eHid) c.2.2.2.2.2]
def zI : PObj := .box [.nilsl, .nilsl, .nilsl, .nilsl, .nilsl, .nilsl]
def cst (i : TInt) (n : Nat) (og oi : PObj) (ws : List TWin) (c1 c2 c3 : Nat) : List PObj := [.box (eIntent i).cells, zI, .dead, .dead, .dead, .dead, .box [.msl 2 7 0 n c1, .msl 2 9 0 (i.services.map eDef).length c2, .msl 2 10 0 (ws.map eWin).length c3, .nilsl, .nilsl, .nilsl],
 og, oi, .arr 2 (i.services.map eDef) c2, .arr 2 (ws.map eWin) c3]
def cenv : List PV := [.any, .ptr 0 0, .ptr 1 0, .ptr 6 0] ++ List.replicate 51 .any
def cQ (i : TInt) (n : Nat) (og oi : PObj) (c1 : Nat) : Post := retF tys Tryz.f54.results.toList 17 fun r s => ∃ c : KCaps, c.1 = c1 ∧ r = mInt i n c ∧ s = aInt i og oi c
structure Inert (og oi : PObj) : Prop where
 mvg : mvO 10 13 og = og
 mvi : mvO 10 13 oi = oi
 refs : ∀ d : Nat → Bool, d 8 = true → og.refs d 5 = true ∧ oi.refs d 5 = true
theorem copy_tail (i : TInt) (hb : IBig i) {B : Base} (hD : ∀ j, B.D j = dOf [] j) (n : Nat) (og oi : PObj) (hI : Inert og oi) (c1 c2 : Nat) : PW Tryz.prog Gl B (tlC 2 (codeOf Tryz.f54)) cenv (cst i n og oi [] c1 c2 0) (cQ i n og oi c1) := by
 have h3 := hb.windows
 have h4 := hb.stms
 have h5 := hb.pubs
 have h6 := hb.hids
 unfold cst cenv
 refine pw_code rfl ?_
 refine zNq ?_
 (repeat' (first | refine zS ?_ | refine zq5 ?_ | refine zq6 ?_))
 refine zNq ?_
 refine pw_for hD (fun a : Nat × Nat => [(4, .int .i64 a.1)]) (fun a => cst i n og oi (i.windows.take a.1) c1 c2 a.2) (fun a => a.1 ≤ i.windows.length) (fun a => i.windows.length - a.1) (0, 0) (Nat.zero_le _) 11 rfl (fun _ => rfl) (by unfold cst; (exact zLes)) (fun _ => rfl) (fun _ => Bool.and_eq_true_iff.2 ⟨rfl, by
  have h7 := hI.refs (fun i => Nat.blt i 11) rfl
  simp only [cst, List.all_cons, List.all_nil, h7.1, h7.2]
  rfl⟩) zLe ?_
 rintro ⟨k, c⟩ hk
 dsimp only at hk ⊢
 unfold cst
 refine zNq ?_
 (repeat' (first | refine zS ?_ | refine zq5 ?_ | refine zq6 ?_))
 refine zT ?_ ?_ <;> intro h <;> refine zNq ?_
 ·have hlt : k < i.windows.length := by omega
  have hid := hb.active _ (getD_memD hlt)
  have e1 : (i.windows.take (k + 1)).map eWin = (i.windows.take k).map eWin ++ [eWin (i.windows.getD k default)] := by
   rw [List.take_succ_eq_append_getElem hlt, List.map_append, List.getD, List.getElem?_eq_getElem hlt]; rfl
  (repeat' (first | refine zS ?_ | refine zq5 ?_ | refine zq6 ?_))
  refine zDr [[0,1,2,3,4,5,6,7,9,10,11,12,13,14],[8,15],[16,17],[18],[19],[20]] ?_
  refine zDn ?_
  (refine zDgo ?_)
  (refine po_val rfl rfl (v_index (p := eWin (i.windows.getD k default)) hT rfl rfl rfl rfl (by omega) (lit_at eWin i.windows k default hlt) rfl) ?_; refine zDn ?_)
  (refine zDgo ?_)
  (refine po_val rfl rfl (v_index (p := eWin (i.windows.getD k default)) hT rfl rfl rfl rfl (by omega) (lit_at eWin i.windows k default hlt) rfl) ?_; refine zDn ?_)
  (refine zDgo ?_)
  (refine po_step rfl rfl (op_litm hT rfl rfl rfl rfl rfl (by decide) rfl rfl rfl rfl ⟨zLok, ?_⟩); refine zDn ?_)
  (refine po_step rfl rfl (op_appendF (b := 8) hT rfl rfl rfl rfl (by simp) rfl (by first | rfl | (simp only [List.all_map]; exact List.all_eq_true.2 fun _ _ => rfl)) (by first | rfl | (simp only [List.all_map]; exact List.all_eq_true.2 fun _ _ => rfl)) (by simp only [List.length_map, List.length_nil]; omega) ⟨(by (repeat (first | exact True.intro | refine ⟨.inr rfl, ?_⟩ | refine ⟨.inl (by decide +kernel), ?_⟩))), ?_⟩); (first | refine po_norm rfl ?_ | refine po_normE rfl ?_))
  refine zD ?_
  (refine po_step rfl rfl (op_append (b := 40) hT rfl rfl rfl rfl rfl rfl (.inl (Nat.zero_lt_succ _)) rfl rfl (by simp only [List.length_map, List.length_take, List.length_cons, List.length_nil]; omega) (fun c3 _ hcap => ⟨zLok, ?_⟩)); refine zDn ?_)
  refine zD ?_
  refine pw_mv 10 13 hD rfl rfl rfl rfl rfl ?_
  refine pw_st (congrArg (fun g : PObj × PObj => ([.box (eIntent i).cells, zI, .dead, .dead, .dead, .dead, .box [.msl 2 7 0 n c1, .msl 2 9 0 (i.services.map eDef).length c2, .msl 2 10 0 (((i.windows.take k).map eWin).length + 1) c3, .nilsl, .nilsl, .nilsl], g.1, g.2, .arr 2 (i.services.map eDef) c2, .arr 2 ((i.windows.take k).map eWin ++ [eWin (i.windows.getD k default)]) c3, .dead, .dead, .dead] : List PObj)) (Prod.ext hI.mvg hI.mvi : ((mvO 10 13 og, mvO 10 13 oi) : PObj × PObj) = (og, oi))) ?_
  refine zNq ?_
  (repeat' (first | refine zS ?_ | refine zq5 ?_ | refine zq6 ?_))
  refine ⟨(k + 1, c3), hlt, by dsimp only; omega, ?_, ?_⟩
  all_goals (try unfold cst)
  all_goals simp only [e1, List.length_append]
  ·(exact zLe)
  ·(exact zLes)
 ·obtain rfl : k = i.windows.length := by omega
  rw [List.take_length]
  refine pw_exit ?_
  refine zNq ?_
  refine zSm ?_
  (refine pl_op rfl (op_litm hT rfl rfl rfl rfl rfl (by decide) rfl rfl rfl rfl ?_); (refine zNp ?_))
  (repeat' (first | refine zS ?_ | refine zq5 ?_ | refine zq6 ?_))
  (refine pl_op rfl (op_appendX (b := 136) hT rfl rfl rfl rfl (by simp) rfl (by simp only [List.all_map]; exact List.all_eq_true.2 fun _ _ => rfl) (by simp only [List.all_map]; exact List.all_eq_true.2 fun _ _ => rfl) (by simp only [List.length_map, List.length_nil]; omega) (fun c4 _ => ?_)); (refine zNp ?_))
  refine zSm ?_
  (refine pl_op rfl (op_litm hT rfl rfl rfl rfl rfl (by decide) rfl rfl rfl rfl ?_); (refine zNp ?_))
  (repeat' (first | refine zS ?_ | refine zq5 ?_ | refine zq6 ?_))
  (refine pl_op rfl (op_appendX (b := 56) hT rfl rfl rfl rfl (by simp) rfl (by simp only [List.all_map]; exact List.all_eq_true.2 fun _ _ => rfl) (by simp only [List.all_map]; exact List.all_eq_true.2 fun _ _ => rfl) (by simp only [List.length_map, List.length_nil]; omega) (fun c5 _ => ?_)); (refine zNp ?_))
  refine zSm ?_
  (refine pl_op rfl (op_litm hT rfl rfl rfl rfl rfl (by decide) rfl rfl rfl rfl ?_); (refine zNp ?_))
  (repeat' (first | refine zS ?_ | refine zq5 ?_ | refine zq6 ?_))
  (refine pl_op rfl (op_appendX (b := 48) hT rfl rfl rfl rfl (by simp) rfl (by simp only [List.all_map]; exact List.all_eq_true.2 fun _ _ => rfl) (by simp only [List.all_map]; exact List.all_eq_true.2 fun _ _ => rfl) (by simp only [List.length_map, List.length_nil]; omega) (fun c6 _ => ?_)); (refine zNp ?_))
  (repeat' (first | refine zS ?_ | refine zq5 ?_ | refine zq6 ?_))
  simp only [List.length_nil, Nat.zero_add, List.nil_append]
  refine ⟨_, _, _, rfl, ⟨(c1, c2, c, c4, c5, c6), rfl, rfl, rfl⟩, .inr (.inl rfl), ⟨.inl rfl, .inl rfl, .inr (.inl rfl), .inr (.inl rfl), .inr (.inl rfl), .inr (.inl rfl), .inl rfl, .inr (.inl rfl), .inr (.inl rfl), .inr (.inl rfl), .inr (.inl rfl), .inr (.inl rfl), .inr (.inl rfl), .inr (.inl rfl), .inr (.inl rfl), .inr (.inl rfl), .inr (.inl rfl), trivial⟩, rfl, ?_⟩
  have h7 := hI.refs (fun i => decide (i < 17)) rfl
  simp only [aInt, List.all_cons, List.all_nil, h7.1, h7.2]
  rfl
theorem retF_mono {n : Nat} {rs : List ResultVar} {Q Q' : PV → List PObj → Prop} (h : ∀ r s, Q r s → Q' r s) : ∀ e env st, retF tys rs n Q e env st → retF tys rs n Q' e env st := fun e env st q => by
 cases e <;> first | exact False.elim q | (obtain ⟨r, r', st', h1, h2, h3⟩ := q; exact ⟨r, r', st', h1, h _ _ h2, h3⟩)
theorem cQ_flat (i : TInt) (c1 : Nat) : ∀ e env st, cQ i (i.groups.map eDef).length (.arr 2 (i.groups.map eDef) c1) .dead c1 e env st → retF tys Tryz.f54.results.toList 17 (fun r s => ∃ c : KCaps, r = mInt i (i.groups.map eDef).length c ∧ s = aInt i (.arr 2 (i.groups.map eDef) c.1) .dead c) e env st :=
 retF_mono fun _ _ ⟨c, h, h1, h2⟩ => ⟨c, h1, by rw [h]; exact h2⟩
theorem c_copyInt (i : TInt) (hb : IBig i) : PCalls Tryz.prog Gl 54 [eIntent i] [] fun r s => ∃ c : KCaps, r = mInt i (i.groups.map eDef).length c ∧ s = aInt i (.arr 2 (i.groups.map eDef) c.1) .dead c := by
 refine PCalls.of hT Tryz.func54 rfl 17 (Nat.zero_le _) fun B hD => ?_
 have hg := hb.groups
 have hs := hb.services
 have hgi := hb.gitems
 have hsi := hb.sitems
 refine pw_norm rfl ?_
 (try refine zS ?_)
 (refine pw_drawT (.fork [(0, true), (1, true), (3, true), (4, true)] 2 (.fork [] 5 (.lin [(6, true), (7, false), (8, false)]) 7 (.lin [(5, false), (6, true), (8, false)])) 7 (.lin [(2, false), (5, false), (6, true), (8, false)])) hmix (by decide +kernel) ?_; refine pwt_fork ?_)
 repeat' (first | refine zD ?_ | refine po_both ?_ ?_ | refine pwt_both ?_ ?_ | refine pwt_fork ?_ | refine pwt_lin ?_)
 all_goals
  (refine po_step rfl rfl (zCl [] e107 (c_copyDefs i.groups (by omega) (fun d hd => by have := hgi d hd; omega)) (fun r s hq => ?_)); obtain ⟨c1, rfl, rfl⟩ := hq; refine ⟨rfl, rfl, zLok, ?_⟩; refine zDn ?_)
 all_goals
  repeat' (first | refine zD ?_ | refine po_both ?_ ?_ | refine pwt_both ?_ ?_ | refine pwt_fork ?_ | refine pwt_lin ?_)
 all_goals
  (refine po_step rfl rfl (zCl [] e107 (c_copyDefs i.services (by omega) (fun d hd => by have := hsi d hd; omega)) (fun r s hq => ?_)); obtain ⟨c2, rfl, rfl⟩ := hq; refine ⟨rfl, rfl, zLok, ?_⟩; refine zDn ?_)
 all_goals
  repeat' (first | refine zD ?_ | refine po_both ?_ ?_ | refine pwt_both ?_ ?_ | refine pwt_fork ?_ | refine pwt_lin ?_)
 ·show PW _ _ _ _ _ _ _
  refine pw_ghost 2 ?_
  refine pw_ghost 2 ?_
  refine pw_ghost 2 ?_
  refine pw_ghost 2 ?_
  refine pw_ghost 2 ?_
  refine pw_ghost 2 ?_
  refine zNq ?_
  (refine pw_mv 6 4 hD rfl rfl rfl rfl rfl ?_; refine pw_norm rfl ?_)
  (refine pw_mv 7 2 hD rfl rfl rfl rfl rfl ?_; refine pw_norm rfl ?_)
  (refine pw_mv 9 3 hD rfl rfl rfl rfl rfl ?_; refine pw_norm rfl ?_)
  refine pw_less (st' := cst i (i.groups.map eDef).length (.arr 2 (i.groups.map eDef) c1) .dead [] c1 c2 0) (env' := cenv) zLe ?_ ((copy_tail i hb hD _ _ _ ⟨rfl, rfl, fun _ _ => ⟨rfl, rfl⟩⟩ c1 c2).mono ?_)
  ·unfold cst
   exact ⟨.inl rfl, .inl rfl, .inl rfl, .inl rfl, .inl rfl, .inr (.inl rfl), .inr (.inr ⟨_, _, rfl, rfl, .inr (.inl rfl), .inr (.inl rfl), .inr (.inr (.inr (.inl ⟨rfl, _, _, rfl⟩))), .inr (.inl rfl), .inr (.inl rfl), .inr (.inl rfl), trivial⟩), .inl rfl, .inr (.inl rfl), .inl rfl, .inl rfl, trivial⟩
  ·exact cQ_flat i c1
 ·show PW _ _ _ _ _ _ _
  refine pw_ghost 2 ?_
  refine pw_ghost 2 ?_
  refine pw_ghost 2 ?_
  refine pw_ghost 2 ?_
  refine pw_ghost 2 ?_
  refine pw_ghost 2 ?_
  refine zNq ?_
  (refine pw_mv 6 3 hD rfl rfl rfl rfl rfl ?_; refine pw_norm rfl ?_)
  (refine pw_mv 7 2 hD rfl rfl rfl rfl rfl ?_; refine pw_norm rfl ?_)
  (refine pw_mv 9 4 hD rfl rfl rfl rfl rfl ?_; refine pw_norm rfl ?_)
  refine pw_less (st' := cst i (i.groups.map eDef).length (.arr 2 (i.groups.map eDef) c1) .dead [] c1 c2 0) (env' := cenv) zLe ?_ ((copy_tail i hb hD _ _ _ ⟨rfl, rfl, fun _ _ => ⟨rfl, rfl⟩⟩ c1 c2).mono ?_)
  ·unfold cst
   exact ⟨.inl rfl, .inl rfl, .inl rfl, .inl rfl, .inl rfl, .inr (.inl rfl), .inr (.inr ⟨_, _, rfl, rfl, .inr (.inl rfl), .inr (.inl rfl), .inr (.inr (.inr (.inl ⟨rfl, _, _, rfl⟩))), .inr (.inl rfl), .inr (.inl rfl), .inr (.inl rfl), trivial⟩), .inl rfl, .inr (.inl rfl), .inl rfl, .inl rfl, trivial⟩
  ·exact cQ_flat i c1
 ·show PW _ _ _ _ _ _ _
  refine pw_ghost 2 ?_
  refine pw_ghost 2 ?_
  refine pw_ghost 2 ?_
  refine pw_ghost 2 ?_
  refine pw_ghost 2 ?_
  refine pw_ghost 2 ?_
  refine zNq ?_
  (refine pw_mv 6 2 hD rfl rfl rfl rfl rfl ?_; refine pw_norm rfl ?_)
  (refine pw_mv 7 3 hD rfl rfl rfl rfl rfl ?_; refine pw_norm rfl ?_)
  (refine pw_mv 9 4 hD rfl rfl rfl rfl rfl ?_; refine pw_norm rfl ?_)
  refine pw_less (st' := cst i (i.groups.map eDef).length (.arr 2 (i.groups.map eDef) c1) .dead [] c1 c2 0) (env' := cenv) zLe ?_ ((copy_tail i hb hD _ _ _ ⟨rfl, rfl, fun _ _ => ⟨rfl, rfl⟩⟩ c1 c2).mono ?_)
  ·unfold cst
   exact ⟨.inl rfl, .inl rfl, .inl rfl, .inl rfl, .inl rfl, .inr (.inl rfl), .inr (.inr ⟨_, _, rfl, rfl, .inr (.inl rfl), .inr (.inl rfl), .inr (.inr (.inr (.inl ⟨rfl, _, _, rfl⟩))), .inr (.inl rfl), .inr (.inl rfl), .inr (.inl rfl), trivial⟩), .inl rfl, .inr (.inl rfl), .inl rfl, .inl rfl, trivial⟩
  ·exact cQ_flat i c1
def nxV (l : List Int) (i : Nat) (n : Int) : Int := if n ≤ 1 ∨ l.length ≤ i then 0 else modN (l.getD i 0) n
def nxI (l : List Int) (i : Nat) (n : Int) : Nat := if n ≤ 1 ∨ l.length ≤ i then i else i + 1
theorem nxI_le {l : List Int} {i : Nat} (hi : i ≤ l.length) (n : Int) : nxI l i n ≤ l.length := by
 unfold nxI
 split
 ·exact hi
 ·omega
theorem nxV_lt {l : List Int} {i : Nat} {n : Nat} (hn : 0 < n) : ∃ m : Nat, nxV l i n = m ∧ m < n := by
 unfold nxV
 split
 ·exact ⟨0, rfl, hn⟩
 ·have := modN_lt (l.getD i 0) n (by omega)
  exact ⟨(modN (l.getD i 0) n).toNat, by omega, by omega⟩
theorem c13d (l : List Int) (hl : Tp l) (i : Nat) (hi : i ≤ l.length) (n : Int) (hn : n ≤ 9223372036854775807) : PCalls Tryz.prog Gl 17 [.ptr 0 0, .int .i64 n] [tape l i] fun r s => r = .int .i64 (nxV l i n) ∧ s = [tape l (nxI l i n)] := by
 refine PCalls.of hT Tryz.func17 rfl 1 (Nat.le_refl _) fun B hD => ?_
 refine pw_norm rfl ?_
 unfold Tp at hl
 unfold nxV nxI
 (refine zGo ?_)
 refine zDr [[0,1,2,3,4,5,6,7,8,9,10,11,12,13]] ?_
 (refine zDgo ?_)
 refine po_split 7 rfl (fun h => ?_) (fun h => ?_)
 ·have hc : n ≤ 1 ∨ l.length ≤ i := .inl (of_decide_eq_true h)
  rw [if_pos hc, if_pos hc]
  (refine zDgo ?_)
  (refine zGo ?_)
  exact ⟨_, _, _, rfl, ⟨rfl, rfl⟩, .inr (.inl rfl), ⟨.inr (.inl rfl), trivial⟩, rfl, rfl⟩
 ·(refine zDgo ?_)
  (refine zGo ?_)
  refine pw_cond rfl (fun h2 => ?_) (fun h2 => ?_)
  ·have hc : n ≤ 1 ∨ l.length ≤ i := .inr (by have h2' := of_decide_eq_true h2; rw [List.length_map] at h2'; omega)
   rw [if_pos hc, if_pos hc]
   (refine zGo ?_)
   exact ⟨_, _, _, rfl, ⟨rfl, rfl⟩, .inr (.inl rfl), ⟨.inr (.inl rfl), trivial⟩, rfl, rfl⟩
  ·have hlt : i < l.length := by have h2' := of_decide_eq_false h2; rw [List.length_map] at h2'; omega
   have hn1 : 1 < n := by have h' := of_decide_eq_false h; omega
   have hc : ¬ (n ≤ 1 ∨ l.length ≤ i) := by omega
   have hg : l.getD i 0 = l[i] := by rw [List.getD, List.getElem?_eq_getElem hlt]; rfl
   rw [if_neg hc, if_neg hc, hg]
   (refine zGo ?_)
   refine zDr [[0,1,2,3,4,5,6,7,8,9,10,11],[12],[13]] ?_
   (refine zDgo ?_)
   (refine po_val rfl rfl (v_index (p := eInt l[i]) hT rfl rfl rfl rfl (by omega) (by simp [hlt]) rfl) ?_; refine zDn ?_)
   (refine zDgo ?_)
   (refine po_step rfl rfl (op_fun (c31 l[i] n (by omega) hn) rfl rfl e23 zLe rfl (fun r hr => ?_)); subst hr; refine ⟨rfl, zLok, ?_⟩; refine zDn ?_)
   (refine zDgo ?_)
   (refine zGo ?_)
   exact ⟨_, _, _, rfl, ⟨rfl, rfl⟩, .inr (.inl rfl), ⟨.inr (.inl rfl), trivial⟩, rfl, rfl⟩
theorem c_gRanges (l : List Int) (hl : Tp l) (i : Nat) (hi : i ≤ l.length) : Gen Gl 55 [.int .i64 3, .int .u32 10080, .bool true] l i fun r => ∃ x : List TRng, x.length ≤ 3 ∧ (∀ y ∈ x, (0 ≤ y.lo ∧ y.lo ≤ 10080) ∧ 0 ≤ y.hi ∧ y.hi ≤ 10080) ∧ r = .sl (x.map eRng) := by
 refine PCalls.of hT Tryz.func55 rfl 1 (Nat.le_refl _) fun B hD => ?_
 refine pw_norm rfl ?_
 (repeat' (first | refine zS ?_ | refine zq5 ?_ | refine zq6 ?_))
 (refine pl_op rfl (zCl [0] e17 (c13n l hl i hi 4 (by decide) (by decide)) (fun r s hq => ?_)); obtain ⟨j1, ⟨m1, hm1, rfl⟩, hj1, rfl⟩ := hq; refine ⟨rfl, rfl, ?_⟩; (refine zNp ?_))
 (repeat' (first | refine zS ?_ | refine zq5 ?_ | refine zq6 ?_))
 refine pw_ghost 2 ?_
 refine zNq ?_
 refine pw_for hD (fun a : Nat × List TRng × Nat × Nat => [(9, .msl 2 1 0 (a.2.1.map eRng).length a.2.2.1), (10, .int .i64 a.1)]) (fun a => [tape l a.2.2.2, .arr 2 (a.2.1.map eRng) a.2.2.1])
  (fun a => a.1 + a.2.1.length ≤ 3 ∧ (∀ y ∈ a.2.1, (0 ≤ y.lo ∧ y.lo ≤ 10080) ∧ 0 ≤ y.hi ∧ y.hi ≤ 10080) ∧ a.2.2.2 ≤ l.length) (fun a => a.1) (m1, [], 0, j1) ⟨by dsimp only; simp; omega, by simp, hj1⟩ 2 rfl (fun _ => rfl) zLes (fun _ => rfl) (fun _ => rfl) zLe ?_
 rintro ⟨k, x, c, j⟩ ⟨hk, hx, hj⟩
 dsimp only at hk hx hj ⊢
 refine zNq ?_
 (repeat' (first | refine zS ?_ | refine zq5 ?_ | refine zq6 ?_))
 refine zT ?_ ?_ <;> intro h <;> refine zNq ?_
 ·(repeat' (first | refine zS ?_ | refine zq5 ?_ | refine zq6 ?_))
  (refine pl_op rfl (zCl [0] e38 (c_gRange l hl j hj 10080 (by decide) (by decide)) (fun r s hq => ?_)); obtain ⟨j2, ⟨y, hy, rfl⟩, hj2, rfl⟩ := hq; refine ⟨rfl, rfl, ?_⟩; (refine zNp ?_))
  (repeat' (first | refine zS ?_ | refine zq5 ?_ | refine zq6 ?_))
  (refine pl_on rfl rfl (zCl [0] e17 (c13n l hl j2 hj2 8 (by decide) (by decide)) (fun r s hq => ?_)); obtain ⟨j3, ⟨m3, hm3, rfl⟩, hj3, rfl⟩ := hq; refine ⟨rfl, rfl, ?_⟩; (refine zNp ?_))
  (repeat' (first | refine zS ?_ | refine zq5 ?_ | refine zq6 ?_))
  refine zT ?_ ?_ <;> intro h2 <;> refine zNq ?_
  ·(repeat' (first | refine zS ?_ | refine zq5 ?_ | refine zq6 ?_))
   (refine pl_append (b := 8) hT hD rfl rfl rfl rfl rfl rfl rfl rfl (.inl (Nat.zero_lt_succ _)) rfl rfl (by simp only [List.length_map, List.length_cons, List.length_nil]; omega) (fun c1 _ hcap => ?_); (refine zNp ?_))
   (repeat' (first | refine zS ?_ | refine zq5 ?_ | refine zq6 ?_))
   refine ⟨(k - 1, x ++ [⟨y.hi, y.lo⟩], c1, j3), ⟨by rw [List.length_append, List.length_singleton]; omega, fun w hw => ?_, hj3⟩, by dsimp only; omega, ?_, ?_⟩
   ·rcases List.mem_append.1 hw with hw | hw
    ·exact hx w hw
    ·rw [List.mem_singleton.1 hw]; dsimp only; omega
   all_goals simp only [List.map_append, List.length_append]
   ·rw [show ((k - 1 : Nat) : Int) = (k : Int) - 1 by omega]
    (exact zLe)
   ·(exact zLes)
  ·(repeat' (first | refine zS ?_ | refine zq5 ?_ | refine zq6 ?_))
   (refine pl_append (b := 8) hT hD rfl rfl rfl rfl rfl rfl rfl rfl (.inl (Nat.zero_lt_succ _)) rfl rfl (by simp only [List.length_map, List.length_cons, List.length_nil]; omega) (fun c1 _ hcap => ?_); (refine zNp ?_))
   (repeat' (first | refine zS ?_ | refine zq5 ?_ | refine zq6 ?_))
   refine ⟨(k - 1, x ++ [y], c1, j3), ⟨by rw [List.length_append, List.length_singleton]; omega, fun w hw => ?_, hj3⟩, by dsimp only; omega, ?_, ?_⟩
   ·rcases List.mem_append.1 hw with hw | hw
    ·exact hx w hw
    ·rw [List.mem_singleton.1 hw]; omega
   all_goals simp only [List.map_append, List.length_append]
   ·rw [show ((k - 1 : Nat) : Int) = (k : Int) - 1 by omega]
    (exact zLe)
   ·(exact zLes)
 ·(repeat' (first | refine zS ?_ | refine zq5 ?_ | refine zq6 ?_))
  exact ⟨_, _, _, rfl, ⟨j, ⟨x, by omega, hx, rfl⟩, hj, rfl⟩, .inr (.inr (.inr (.inl ⟨_, _, _, _, _, _, rfl, rfl, rfl, rfl, rfl⟩))), ⟨.inr (.inl rfl), trivial⟩, rfl, rfl⟩
def nameL6 : List Str := [[97], [98], [99], [100, 109, 122], [120, 45, 49], [121, 95, 50]]
theorem c_gName (l : List Int) (hl : Tp l) (i : Nat) (hi : i ≤ l.length) : Gen Gl 56 [] l i fun r => ∃ s : Str, r = .str s := by
 refine PCalls.of hT Tryz.func56 rfl 1 (Nat.le_refl _) fun B hD => ?_
 refine pw_norm rfl ?_
 (try refine zS ?_)
 (refine pl_op rfl (zCl [0] e17 (c13n l hl i hi 6 (by decide) (by decide)) (fun r s hq => ?_)); obtain ⟨j1, ⟨m1, hm1, rfl⟩, hj1, rfl⟩ := hq; refine ⟨rfl, rfl, ?_⟩; (refine zNp ?_))
 (refine pl_op rfl (op_of (v_index (p := .str (nameL6.getD m1 [])) hT rfl rfl rfl rfl (by omega) (lit_at .str nameL6 m1 [] hm1) rfl) ?_); (refine zNp ?_))
 (try refine zS ?_)
 exact ⟨_, _, _, rfl, ⟨j1, ⟨_, rfl⟩, hj1, rfl⟩, .inr (.inl rfl), ⟨.inr (.inl rfl), trivial⟩, rfl, rfl⟩
end
section
theorem e55 : Enters Tryz.prog 55 := Enters.of Tryz.func55 (by kernel_rfl) rfl
theorem e56 : Enters Tryz.prog 56 := Enters.of Tryz.func56 (by kernel_rfl) rfl
variable {Gl : Glob}
attribute [local irreducible] PW PWL OpP PCalls PWO vname wParse PWT bothT
theorem wPut_mod (d : Nat) {o : List Str} (r : TRng) (h : o.length = 0 ∨ o.length % 3 = 2) : (wPut d o r).length % 3 = 2 := by
 unfold wPut wItem
 rw [List.length_append]
 split
 ·simp only [List.length_append, List.length_cons, List.length_nil]; omega
 ·simp only [List.length_cons, List.length_nil]; omega
theorem wPuts_mod (d : Nat) : ∀ (xs : List TRng) (o : List Str), (o.length = 0 ∨ o.length % 3 = 2) → ((xs.foldl (wPut d) o).length = 0 ∨ (xs.foldl (wPut d) o).length % 3 = 2)
 | [], _, h => h
 | x :: xs, _, h => wPuts_mod d xs _ (.inr (wPut_mod d x h))
theorem wDays_mod (l : List TRng) : ∀ n : Nat, (wDays l n).length = 0 ∨ (wDays l n).length % 3 = 2
 | 0 => .inl rfl
 | n + 1 => by rw [wDays_succ]; exact wPuts_mod n _ _ (wDays_mod l n)
theorem wPut_grow (d : Nat) (o : List Str) (r : TRng) : o.length + 2 ≤ (wPut d o r).length := by
 unfold wPut wItem
 rw [List.length_append]
 split
 ·simp only [List.length_append, List.length_cons, List.length_nil]; omega
 ·simp only [List.length_cons, List.length_nil]; omega
theorem wPuts_grow (d : Nat) : ∀ (xs : List TRng) (o : List Str), o.length ≤ (xs.foldl (wPut d) o).length
 | [], o => Nat.le_refl _
 | x :: xs, o => by
  have := wPuts_grow d xs (wPut d o x)
  have := wPut_grow d o x
  simp only [List.foldl_cons]
  omega
theorem wDays_grow (l : List TRng) (n : Nat) : ∀ k : Nat, (wDays l n).length ≤ (wDays l (n + k)).length
 | 0 => Nat.le_refl _
 | k + 1 => by
  have := wDays_grow l n k
  rw [← Nat.add_assoc, wDays_succ]
  exact Nat.le_trans this (wPuts_grow _ _ _)
theorem wDays_pos {l : List TRng} (hc : Can l) (h0 : l ≠ []) (hin : ∀ r ∈ l, RIn r) (ht : ∀ r ∈ l, r.hi ≤ 10079) : 0 < (wDays l 7).length := by
 obtain ⟨r, l', rfl⟩ := List.exists_cons_of_ne_nil h0
 have hr : r ∈ r :: l' := List.mem_cons_self ..
 have h1 := hin r hr
 have h2 := ht r hr
 have h3 := hc.le r hr
 unfold RIn at h1
 have hm : mem (wDay (r :: l') (r.lo / 1440).toNat) r.lo := (isect_mem _ _ _).2 ⟨⟨r, hr, Int.le_refl _, h3⟩, ⟨_, List.mem_singleton_self _, by unfold dayAll; dsimp only; omega, by unfold dayAll; dsimp only; omega⟩⟩
 obtain ⟨q, hq, _⟩ := hm
 generalize hd : (r.lo / 1440).toNat = d at hq
 have hd7 : d < 7 := by omega
 have hp : 0 < (wDays (r :: l') (d + 1)).length := by
  rw [wDays_succ]
  cases hw : wDay (r :: l') d with
  | nil => rw [hw] at hq; cases hq
  | cons x xs =>
   have := wPuts_grow d xs (wPut d (wDays (r :: l') d) x)
   have := wPut_grow d (wDays (r :: l') d) x
   simp only [List.foldl_cons]
   omega
 have := wDays_grow (r :: l') (d + 1) (6 - d)
 rw [show d + 1 + (6 - d) = 7 by omega] at this
 omega
theorem wOkB_eq (l : List TRng) (hin : ∀ r ∈ l, RIn r) : (ivalid l 10079 && decide (((wFormat l).length : Int) ≤ 47)) = wOkB l := by
 unfold wOkB wFormat
 cases hi : ivalid l 10079
 ·simp
 ·obtain ⟨hc, ht⟩ := can_ivalid hi
  by_cases h0 : l = []
  ·simp [h0]
  ·have h1 := wDays_pos hc h0 hin ht
   have h2 := wDays_mod l 7
   simp only [if_true, if_neg h0, Bool.true_and]
   have : (decide (((wDays l 7).length : Int) > 0)) = true := decide_eq_true (by omega)
   rw [this, Bool.true_and]
   exact decide_eq_decide.2 (by omega)
theorem c_rWritten (l : List TRng) (hl : l.length < 100000) (hin : ∀ r ∈ l, RIn r) : PFun Tryz.prog Gl 77 [.sl (l.map eRng)] fun r => r = .bool (wOkB l) := by
 rw [← wOkB_eq l hin]
 (refine PFun.of hT Tryz.func77 rfl fun B hD => ?_; refine pw_norm rfl ?_)
 (repeat' (first | refine zS ?_ | refine zq5 ?_ | refine zq6 ?_ | (refine zT ?_ ?_ <;> intro h <;> first | exact zX | refine zNq ?_)))
 exact ret2 _ rfl rfl rfl
instance (l : List TRng) : ConF Tryz.prog Gl 77 [.sl (l.map eRng)] (l.length < 100000 ∧ ∀ r ∈ l, RIn r) (.bool (wOkB l)) := ⟨e77, fun h => c_rWritten l h.1 h.2⟩
attribute [local irreducible] wOkB
end
section
variable {Gl : Glob}
attribute [local irreducible] PW PWL OpP PCalls PWO vname vDefs vStm wOkB PWT bothT
instance iRValidDefs (l : List TDef) (g : Bool) : ConF Tryz.prog Gl 74 [.sl (l.map eDef), .bool g] (l.length < 1000000 ∧ (∀ d ∈ l, d.items.length < 1000000) ∧ ∀ d ∈ l, ∀ x ∈ d.items, ItIn x) (.bool (vDefs l (!g))) := ⟨e74, fun h => c_rValidDefs l g h.1 h.2.1 h.2.2⟩
def wWin (l : List TWin) (k : Nat) : Bool := (vname (l.getD k default).name && decide (firstAt (fun x : TWin => x.name == (l.getD k default).name) l = k)) && wOkB (l.getD k default).active
def vPub (x : TPub) : Bool := (((x.proto == 6 || x.proto == 17) && (decide (x.port ≥ 0) && decide (x.port ≤ 65535))) && (decide (x.realPort ≥ 0) && decide (x.realPort ≤ 65535))) && vname x.edge
def vHid (x : THid) : Bool := (vname x.group && vname x.edge) && ((decide (x.ports.lo ≥ 1024) && decide (x.ports.lo ≤ x.ports.hi)) && decide (x.ports.hi ≤ 65535))
structure IIn (i : TInt) : Prop where
 gits : ∀ d ∈ i.groups, ∀ x ∈ d.items, ItIn x
 sits : ∀ d ∈ i.services, ∀ x ∈ d.items, ItIn x
 wins : ∀ d ∈ i.windows, d.active.length < 100000 ∧ ∀ r ∈ d.active, RIn r
def iValid (i : TInt) : Bool :=
 (((((vDefs i.groups false && vDefs i.services true) && decide (i.windows.length ≤ 32)) && decide (i.stms.length ≤ 64)) && decide (i.pubs.length ≤ 16)) && decide (i.hids.length ≤ 8)) &&
 ((((List.range i.windows.length).all (wWin i.windows) && i.stms.all vStm) && i.pubs.all vPub) && i.hids.all vHid)
theorem c_rValid (i : TInt) (hb : IBig i) (hi : IIn i) : PFun Tryz.prog Gl 30 [eIntent i] fun r => r = .bool (iValid i) := by
 (refine PFun.of hT Tryz.func30 rfl fun B hD => ?_; refine pw_norm rfl ?_)
 have h1 := hb.groups
 have h2 := hb.services
 have h3 := hb.windows
 have h4 := hb.stms
 have h5 := hb.pubs
 have h6 := hb.hids
 have h7 := hb.gitems
 have h8 := hb.sitems
 have h9 := hi.gits
 have h10 := hi.sits
 have h11 : ∀ k, (i.windows.getD k default).active.length < 100000 ∧ ∀ r ∈ (i.windows.getD k default).active, RIn r := fun k => by
  rw [List.getD]
  cases e : i.windows[k]? with
  | none => exact ⟨by decide, fun r hr => by cases hr⟩
  | some x => exact hi.wins x (List.mem_of_getElem? e)
 unfold iValid
 generalize hS : (((((vDefs i.groups false && vDefs i.services true) && decide (i.windows.length ≤ 32)) && decide (i.stms.length ≤ 64)) && decide (i.pubs.length ≤ 16)) && decide (i.hids.length ≤ 8)) = S
 have hSi : S = true ↔ ((((vDefs i.groups false = true ∧ vDefs i.services true = true) ∧ i.windows.length ≤ 32) ∧ i.stms.length ≤ 64) ∧ i.pubs.length ≤ 16) ∧ i.hids.length ≤ 8 := by
  rw [← hS]
  simp only [Bool.and_eq_true, decide_eq_true_eq]
 (repeat' (first | refine zS ?_ | refine zq5 ?_ | refine zq6 ?_ | (refine zT ?_ ?_ <;> intro h <;> first | exact zX | refine zNq ?_)))
 ·have e : S = false := by
   rw [Bool.eq_false_iff]
   intro q
   obtain ⟨⟨⟨⟨⟨a, b⟩, c⟩, d⟩, e⟩, f⟩ := hSi.1 q
   rcases h with ((((h | h) | h) | h) | h) | h
   ·exact h a
   ·exact h b
   ·omega
   ·omega
   ·omega
   ·omega
  rw [e, Bool.false_and]
  exact ret2 _ rfl rfl rfl
 have e : S = true := hSi.2 ⟨⟨⟨⟨⟨Decidable.not_not.1 fun a => h (.inl (.inl (.inl (.inl (.inl a))))), Decidable.not_not.1 fun a => h (.inl (.inl (.inl (.inl (.inr a)))))⟩, by omega⟩, by omega⟩, by omega⟩, by omega⟩
 rw [e, Bool.true_and]
 clear hSi hS h e
 refine pw_for hD (fun k : Nat => [(3, .int .i64 k)]) (fun _ => [.box [.sl (i.groups.map eDef), .sl (i.services.map eDef), .sl (i.windows.map eWin), .sl (i.stms.map eStm), .sl (i.pubs.map ePub), .sl (i.hids.map eHid)]]) (fun k => k ≤ i.windows.length ∧ ∀ j, j < k → wWin i.windows j = true) (fun k => i.windows.length - k) 0 ⟨Nat.zero_le _, fun j h => by omega⟩ 1 rfl (fun _ => rfl) zLes (fun _ => rfl) (fun _ => rfl) zLe ?_
 rintro k ⟨hk, hkc⟩
 obtain ⟨h11, h12⟩ := h11 k
 (repeat' (first | (refine zDr [[0,1,2,3,4,5],[6],[7,8,9,10,11,12,13,14,15,16,18],[17],[19,20,21,22,23,24,25,26,27],[28],[29,30]] ?_; refine zDn ?_) | refine zS ?_ | refine zD ?_ | refine po_both ?_ ?_ | refine pwt_both ?_ ?_ | refine pwt_fork ?_ | refine pwt_lin ?_ | (refine po_test rfl rfl rfl rfl zB ?_ ?_ <;> intro hb <;> first | exact zX | refine zDn ?_) | refine zq5 ?_ | refine zq6 ?_ | (refine zT ?_ ?_ <;> intro h <;> first | exact zX | refine zNq ?_)))
 ·have e : wWin i.windows k = false := by unfold wWin; rw [show vname (i.windows.getD k default).name = false by simpa using hb]; rfl
  rw [show (List.range i.windows.length).all (wWin i.windows) = false from List.all_eq_false.2 ⟨k, List.mem_range.2 (by omega), by rw [e]; decide⟩]
  simp only [Bool.false_and]
  exact ret2 _ rfl rfl rfl
 ·have e : wWin i.windows k = false := by unfold wWin; rw [decide_eq_false hb, Bool.and_false, Bool.false_and]
  rw [show (List.range i.windows.length).all (wWin i.windows) = false from List.all_eq_false.2 ⟨k, List.mem_range.2 (by omega), by rw [e]; decide⟩]
  simp only [Bool.false_and]
  exact ret2 _ rfl rfl rfl
 ·have e : wWin i.windows k = false := by unfold wWin; rw [show wOkB (i.windows.getD k default).active = false by simpa using h, Bool.and_false]
  rw [show (List.range i.windows.length).all (wWin i.windows) = false from List.all_eq_false.2 ⟨k, List.mem_range.2 (by omega), by rw [e]; decide⟩]
  simp only [Bool.false_and]
  exact ret2 _ rfl rfl rfl
 ·rename_i g1 g2
  refine ⟨k + 1, ⟨by omega, fun j hj => ?_⟩, by omega, zLe, zLes⟩
  rcases Nat.lt_succ_iff_lt_or_eq.1 hj with hj | rfl
  ·exact hkc j hj
  ·unfold wWin
   rw [Decidable.not_not.1 g2, decide_eq_true (Decidable.not_not.1 hb), Decidable.not_not.1 h]
   rfl
 rw [show (List.range i.windows.length).all (wWin i.windows) = true from List.all_eq_true.2 fun j hj => hkc j (by have := List.mem_range.1 hj; omega), Bool.true_and]
 clear h11 h12
 refine pw_for hD (fun k : Nat => [(4, .int .i64 k)]) (fun _ => [.box [.sl (i.groups.map eDef), .sl (i.services.map eDef), .sl (i.windows.map eWin), .sl (i.stms.map eStm), .sl (i.pubs.map ePub), .sl (i.hids.map eHid)]]) (fun k => k ≤ i.stms.length ∧ ∀ j, j < k → vStm (i.stms.getD j default) = true) (fun k => i.stms.length - k) 0 ⟨Nat.zero_le _, fun j h => by omega⟩ 1 rfl (fun _ => rfl) zLes (fun _ => rfl) (fun _ => rfl) zLe ?_
 rintro k ⟨hk, hkc⟩
 (repeat' (first | (refine zDr [[0,1,2,3,4,5],[6],[7,8,9,10,11,12,13,14,15,16,18],[17],[19,20,21,22,23,24,25,26,27],[28],[29,30]] ?_; refine zDn ?_) | refine zS ?_ | refine zD ?_ | refine po_both ?_ ?_ | refine pwt_both ?_ ?_ | refine pwt_fork ?_ | refine pwt_lin ?_ | (refine po_test rfl rfl rfl rfl zB ?_ ?_ <;> intro hb <;> first | exact zX | refine zDn ?_) | refine zq5 ?_ | refine zq6 ?_ | (refine zT ?_ ?_ <;> intro h <;> first | exact zX | refine zNq ?_)))
 ·(refine pl_op rfl (op_fun (c_rValidStm (i.stms.getD k default)) rfl rfl e78 zLe rfl (fun r hr => ?_)); subst hr; refine ⟨rfl, ?_⟩; (refine zNp ?_))
  (repeat' (first | refine zS ?_ | refine zq5 ?_ | refine zq6 ?_ | (refine zT ?_ ?_ <;> intro h <;> first | exact zX | refine zNq ?_)))
  ·rw [show i.stms.all vStm = false from List.all_eq_false.2 ⟨_, getD_memD (by omega), h⟩]
   simp only [Bool.false_and]
   exact ret2 _ rfl rfl rfl
  ·refine ⟨k + 1, ⟨by omega, fun j hj => ?_⟩, by omega, zLe, zLes⟩
   rcases Nat.lt_succ_iff_lt_or_eq.1 hj with hj | rfl
   ·exact hkc j hj
   ·exact Decidable.not_not.1 h
 have hall : i.stms.all vStm = true := List.all_eq_true.2 fun x hx => by
  obtain ⟨n, hn⟩ := List.mem_iff_getElem?.1 hx
  have := hkc n (by have := (List.getElem?_eq_some_iff.1 hn).1; omega)
  rwa [List.getD, hn] at this
 rw [hall, Bool.true_and]
 clear hall
 refine pw_for hD (fun k : Nat => [(5, .int .i64 k)]) (fun _ => [.box [.sl (i.groups.map eDef), .sl (i.services.map eDef), .sl (i.windows.map eWin), .sl (i.stms.map eStm), .sl (i.pubs.map ePub), .sl (i.hids.map eHid)]]) (fun k => k ≤ i.pubs.length ∧ ∀ j, j < k → vPub (i.pubs.getD j default) = true) (fun k => i.pubs.length - k) 0 ⟨Nat.zero_le _, fun j h => by omega⟩ 1 rfl (fun _ => rfl) zLes (fun _ => rfl) (fun _ => rfl) zLe ?_
 rintro k ⟨hk, hkc⟩
 (repeat' (first | (refine zDr [[0,1,2,3,4,5],[6],[7,8,9,10,11,12,13,14,15,16,18],[17],[19,20,21,22,23,24,25,26,27],[28],[29,30]] ?_; refine zDn ?_) | refine zS ?_ | refine zD ?_ | refine po_both ?_ ?_ | refine pwt_both ?_ ?_ | refine pwt_fork ?_ | refine pwt_lin ?_ | (refine po_test rfl rfl rfl rfl zB ?_ ?_ <;> intro hb <;> first | exact zX | refine zDn ?_) | refine zq5 ?_ | refine zq6 ?_ | (refine zT ?_ ?_ <;> intro h <;> first | exact zX | refine zNq ?_)))
 ·have e : ¬ vPub (i.pubs.getD k default) = true := fun q => by
   unfold vPub at q
   simp only [Bool.and_eq_true, Bool.or_eq_true, decide_eq_true_eq, beq_iff_eq] at q
   obtain ⟨⟨⟨a, b⟩, c⟩, d⟩ := q
   rcases h with ((h | h) | h) | h
   ·omega
   ·exact h b
   ·exact h c
   ·exact h d
  rw [show i.pubs.all vPub = false from List.all_eq_false.2 ⟨_, getD_memD (by omega), e⟩]
  simp only [Bool.false_and]
  exact ret2 _ rfl rfl rfl
 ·refine ⟨k + 1, ⟨by omega, fun j hj => ?_⟩, by omega, zLe, zLes⟩
  rcases Nat.lt_succ_iff_lt_or_eq.1 hj with hj | rfl
  ·exact hkc j hj
  ·unfold vPub
   simp only [Bool.and_eq_true, Bool.or_eq_true, decide_eq_true_eq, beq_iff_eq]
   refine ⟨⟨⟨by omega, by omega⟩, by omega⟩, Decidable.not_not.1 fun q => h (.inr q)⟩
 have hall : i.pubs.all vPub = true := List.all_eq_true.2 fun x hx => by
  obtain ⟨n, hn⟩ := List.mem_iff_getElem?.1 hx
  have := hkc n (by have := (List.getElem?_eq_some_iff.1 hn).1; omega)
  rwa [List.getD, hn] at this
 rw [hall, Bool.true_and]
 clear hall
 refine pw_for hD (fun k : Nat => [(7, .int .i64 k)]) (fun _ => [.box [.sl (i.groups.map eDef), .sl (i.services.map eDef), .sl (i.windows.map eWin), .sl (i.stms.map eStm), .sl (i.pubs.map ePub), .sl (i.hids.map eHid)]]) (fun k => k ≤ i.hids.length ∧ ∀ j, j < k → vHid (i.hids.getD j default) = true) (fun k => i.hids.length - k) 0 ⟨Nat.zero_le _, fun j h => by omega⟩ 1 rfl (fun _ => rfl) zLes (fun _ => rfl) (fun _ => rfl) zLe ?_
 rintro k ⟨hk, hkc⟩
 (repeat' (first | (refine zDr [[0,1,2,3,4,5],[6],[7,8,9,10,11,12,13,14,15,16,18],[17],[19,20,21,22,23,24,25,26,27],[28],[29,30]] ?_; refine zDn ?_) | refine zS ?_ | refine zD ?_ | refine po_both ?_ ?_ | refine pwt_both ?_ ?_ | refine pwt_fork ?_ | refine pwt_lin ?_ | (refine po_test rfl rfl rfl rfl zB ?_ ?_ <;> intro hb <;> first | exact zX | refine zDn ?_) | refine zq5 ?_ | refine zq6 ?_ | (refine zT ?_ ?_ <;> intro h <;> first | exact zX | refine zNq ?_)))
 ·have e : ¬ vHid (i.hids.getD k default) = true := fun q => by
   unfold vHid at q
   simp only [Bool.and_eq_true, decide_eq_true_eq] at q
   obtain ⟨⟨a, b⟩, c⟩ := q
   rcases h with (h | h) | h
   ·exact h a
   ·exact h b
   ·exact h c
  rw [show i.hids.all vHid = false from List.all_eq_false.2 ⟨_, getD_memD (by omega), e⟩]
  exact ret2 _ rfl rfl rfl
 ·refine ⟨k + 1, ⟨by omega, fun j hj => ?_⟩, by omega, zLe, zLes⟩
  rcases Nat.lt_succ_iff_lt_or_eq.1 hj with hj | rfl
  ·exact hkc j hj
  ·unfold vHid
   simp only [Bool.and_eq_true, decide_eq_true_eq]
   exact ⟨⟨Decidable.not_not.1 fun q => h (.inl (.inl q)), Decidable.not_not.1 fun q => h (.inl (.inr q))⟩, Decidable.not_not.1 fun q => h (.inr q)⟩
 ·have hall : i.hids.all vHid = true := List.all_eq_true.2 fun x hx => by
   obtain ⟨n, hn⟩ := List.mem_iff_getElem?.1 hx
   have := hkc n (by have := (List.getElem?_eq_some_iff.1 hn).1; omega)
   rwa [List.getD, hn] at this
  rw [hall]
  exact ret2 _ rfl rfl rfl
end
section
variable {Gl : Glob}
attribute [local irreducible] PW PWL OpP PCalls PWO PWT bothT
def allI {α : Type} (p : Nat → α → Bool) (l : List α) : Bool := (List.range l.length).all fun i => match l[i]? with | some x => p i x | none => true

end
end Go.Proofs.YtkaobkjcjodffaaGreatDoor