/-
 Contracts of functions, walked over pure values.
-/
import Derived.Test.YtkaobkjcjodffaaGreatDoorTK13
set_option maxHeartbeats 20000000
set_option maxRecDepth 100000
namespace Go.Proofs.YtkaobkjcjodffaaGreatDoor
open Go Go.Pw
variable {Gl : Glob}
attribute [local irreducible] PW PWL OpP PCalls PWO formB vname digitsB addr portsT number PWT bothT
theorem c_reference (w : Str) : PFun Tryz.prog Gl 100 [.str w] fun r => r = .tup [.str (rdRef w).1, .bool (rdRef w).2] := by
 (refine PFun.of hT Tryz.func100 rfl fun B hD => ?_; refine pw_norm rfl ?_)
 unfold rdRef
 (repeat' (first | refine zS ?_ | (refine zT ?_ ?_ <;> intro h <;> first | exact zX | refine zNq ?_)))
 ·rw [if_pos h]; exact ret2 _ rfl rfl rfl
 ·rw [if_neg h]; exact ret2 _ rfl rfl rfl
instance (w : Str) : ConF Tryz.prog Gl 100 [.str w] True (.tup [.str (rdRef w).1, .bool (rdRef w).2]) := ⟨e100, fun _ => c_reference w⟩
theorem c_read (f : Bool) (w : Str) : PCalls Tryz.prog Gl 99 [.str w, .ptr 0 0] [.box [.bool f]] fun r s => r = .str (rdRef w).1 ∧ s = [.box [.bool (f && (rdRef w).2)]] := by
 refine PCalls.of hT Tryz.func99 rfl 1 (Nat.le_refl _) fun B hD => ?_
 refine pw_norm rfl ?_
 (repeat' (first | refine zS ?_ | refine zq5 ?_ | refine zq6 ?_ | (refine zT ?_ ?_ <;> intro h <;> first | exact zX | refine zNq ?_)))
 exact ⟨_, _, _, rfl, ⟨rfl, rfl⟩, .inr (.inl rfl), ⟨.inr (.inl rfl), trivial⟩, rfl, rfl⟩
def stmCells (s : TStm) : List PV := [.bool s.permit, .str s.src, .str s.dst, .str s.service, .bool s.excepted, .str s.exSrc, .str s.exDst, .str s.cls, .str s.during, .int .i64 s.prio]
theorem c_readStatement (i : TInt) (hi : i.stms.length ≤ 64) (c : ICaps) (w : List Str) (hw : WOk w) (hl : w.length ≤ 1000) : PCalls Tryz.prog Gl 48 [.ptr 0 0, .sl (w.map .str)] (ist i c) fun r s => ∃ c', r = .int .i64 (pStm i.stms w).1 ∧ s = ist { i with stms := (pStm i.stms w).2 } c' := by
 refine PCalls.of hT Tryz.func48 rfl 7 (Nat.le_refl _) fun B hD => ?_
 unfold ist
 refine pw_norm rfl ?_
 have hlg : (i.stms.map eStm).length = i.stms.length := List.length_map ..
 have k0 := sHead_ok hl hw.at
 (repeat' (first | refine zS ?_ | refine zq5 ?_ | refine zq6 ?_))
 refine zT ?_ ?_ <;> intro h <;> refine zNq ?_
 ·(repeat' (first | refine zS ?_ | refine zq5 ?_ | refine zq6 ?_ | (refine zT ?_ ?_ <;> intro h <;> first | exact zX | refine zNq ?_)))
  rw [show pStm i.stms w = (4, i.stms) from by unfold pStm rdStm; rw [if_pos h]; rfl]
  exact ⟨_, _, _, rfl, ⟨c, rfl, rfl⟩, .inr (.inl rfl), zF, rfl, rfl⟩
 have hs : pStm i.stms w = if ¬ (sPri (sDur (sVia (sExc (sHead w))))).1.ok = true ∨ 0 < (sPri (sDur (sVia (sExc (sHead w))))).1.rest.length then (4, i.stms) else
   if ¬ (sPri (sDur (sVia (sExc (sHead w))))).2 = true then (2, i.stms) else if 64 ≤ i.stms.length then (3, i.stms) else (0, i.stms ++ [(sPri (sDur (sVia (sExc (sHead w))))).1.s]) := by
  unfold pStm rdStm
  rw [if_neg h]
  split <;> rename_i h1
  ·rfl
  ·split <;> rename_i h2
   ·rfl
   ·rfl
 rw [hs]
 clear hs
 (repeat' (first | (refine zDr [[0,1,2,3,4,5],[6],[7]] ?_; refine zDn ?_) | (refine zDr [[0,1,2,3,4,5,6],[7],[8,9],[10]] ?_; refine zDn ?_) | (refine zDr [[0,1,2,3,5,6,7,8,10,11,12,13],[4],[15],[9,14,16],[17],[18],[19],[20]] ?_; refine zDn ?_) | (refine zDr [[0,1,2,3,5,6,7,8,10],[4,9,11],[12],[13],[14],[15]] ?_; refine zDn ?_) | refine zS ?_ | refine zD ?_ | refine po_both ?_ ?_ | refine pwt_both ?_ ?_ | refine pwt_fork ?_ | refine pwt_lin ?_ | (refine po_test rfl rfl rfl rfl zB ?_ ?_ <;> intro hb <;> first | exact zX | refine zDn ?_) | refine zq5 ?_ | refine zq6 ?_))
 (refine po_step rfl rfl (zCl [8] e99 (c_read true (w.getD 1 [])) (fun r s hq => ?_)); obtain ⟨rfl, rfl⟩ := hq; refine ⟨rfl, rfl, zLok, ?_⟩; refine zDn ?_)
 refine zD ?_
 (refine po_step rfl rfl (zCl [8] e99 (c_read (true && (rdRef (w.getD 1 [])).2) (w.getD 3 [])) (fun r s hq => ?_)); obtain ⟨rfl, rfl⟩ := hq; refine ⟨rfl, rfl, zLok, ?_⟩; refine zDn ?_)
 (refine po_step rfl rfl (zCl [8] e99 (c_read ((true && (rdRef (w.getD 1 [])).2) && (rdRef (w.getD 3 [])).2) (w.getD 4 [])) (fun r s hq => ?_)); obtain ⟨rfl, rfl⟩ := hq; refine ⟨rfl, rfl, zLok, ?_⟩; refine zDn ?_)
 refine zD ?_
 (repeat' (first | (refine zDr [[0,1,2,3,4,5],[6],[7]] ?_; refine zDn ?_) | (refine zDr [[0,1,2,3,4,5,6],[7],[8,9],[10]] ?_; refine zDn ?_) | (refine zDr [[0,1,2,3,5,6,7,8,10,11,12,13],[4],[15],[9,14,16],[17],[18],[19],[20]] ?_; refine zDn ?_) | (refine zDr [[0,1,2,3,5,6,7,8,10],[4,9,11],[12],[13],[14],[15]] ?_; refine zDn ?_) | refine zS ?_ | refine zD ?_ | refine po_both ?_ ?_ | refine pwt_both ?_ ?_ | refine pwt_fork ?_ | refine pwt_lin ?_ | (refine po_test rfl rfl rfl rfl zB ?_ ?_ <;> intro hb <;> first | exact zX | refine zDn ?_) | refine zq5 ?_ | refine zq6 ?_))
 refine pw_join hD True [(8, .sl ((sExc (sHead w)).rest.map .str)), (59, .any)] (ist i c ++ [.box (stmCells (sExc (sHead w)).s), .box [.bool (sExc (sHead w)).ok]]) 9 rfl rfl rfl rfl ?_ (fun _ => ?_)
 ·refine zT ?_ ?_ <;> intro h1 <;> refine zNq ?_
  ·have e : sExc (sHead w) = ⟨_, _, _⟩ := if_pos h1
   rw [e]
   (repeat' (first | (refine zDr [[0,1,2,3,4,5],[6],[7]] ?_; refine zDn ?_) | (refine zDr [[0,1,2,3,4,5,6],[7],[8,9],[10]] ?_; refine zDn ?_) | (refine zDr [[0,1,2,3,5,6,7,8,10,11,12,13],[4],[15],[9,14,16],[17],[18],[19],[20]] ?_; refine zDn ?_) | (refine zDr [[0,1,2,3,5,6,7,8,10],[4,9,11],[12],[13],[14],[15]] ?_; refine zDn ?_) | refine zS ?_ | refine zD ?_ | refine po_both ?_ ?_ | refine pwt_both ?_ ?_ | refine pwt_fork ?_ | refine pwt_lin ?_ | (refine po_test rfl rfl rfl rfl zB ?_ ?_ <;> intro hb <;> first | exact zX | refine zDn ?_) | refine zq5 ?_ | refine zq6 ?_))
   (refine po_step rfl rfl (zCl [8] e99 (c_read _ ((w.drop 5).getD 1 [])) (fun r s hq => ?_)); obtain ⟨rfl, rfl⟩ := hq; refine ⟨rfl, rfl, zLok, ?_⟩; refine zDn ?_)
   (refine po_step rfl rfl (zCl [8] e99 (c_read _ ((w.drop 5).getD 3 [])) (fun r s hq => ?_)); obtain ⟨rfl, rfl⟩ := hq; refine ⟨rfl, rfl, zLok, ?_⟩; refine zDn ?_)
   refine zD ?_
   (repeat' (first | (refine zDr [[0,1,2,3,4,5],[6],[7]] ?_; refine zDn ?_) | (refine zDr [[0,1,2,3,4,5,6],[7],[8,9],[10]] ?_; refine zDn ?_) | (refine zDr [[0,1,2,3,5,6,7,8,10,11,12,13],[4],[15],[9,14,16],[17],[18],[19],[20]] ?_; refine zDn ?_) | (refine zDr [[0,1,2,3,5,6,7,8,10],[4,9,11],[12],[13],[14],[15]] ?_; refine zDn ?_) | refine zS ?_ | refine zD ?_ | refine po_both ?_ ?_ | refine pwt_both ?_ ?_ | refine pwt_fork ?_ | refine pwt_lin ?_ | (refine po_test rfl rfl rfl rfl zB ?_ ?_ <;> intro hb <;> first | exact zX | refine zDn ?_) | refine zq5 ?_ | refine zq6 ?_))
   exact ⟨trivial, zLe, zLes⟩
  ·have e : sExc (sHead w) = sHead w := if_neg h1
   rw [e]
   (repeat' (first | refine zS ?_ | refine zq5 ?_ | refine zq6 ?_))
   exact ⟨trivial, zLe, zLes⟩
 have k1 := sExc_ok k0
 generalize sExc (sHead w) = x1 at k1 ⊢
 have k1l := k1.len
 (repeat' (first | refine zS ?_ | refine zq5 ?_ | refine zq6 ?_))
 refine pw_join hD True [(8, .sl ((sVia x1).rest.map .str)), (87, .any)] (ist i c ++ [.box (stmCells (sVia x1).s), .box [.bool (sVia x1).ok]]) 9 rfl rfl rfl rfl ?_ (fun _ => ?_)
 ·refine zT ?_ ?_ <;> intro h1 <;> refine zNq ?_
  ·have e : sVia x1 = ⟨_, _, _⟩ := if_pos h1
   rw [e]
   (repeat' (first | (refine zDr [[0,1,2,3,4,5],[6],[7]] ?_; refine zDn ?_) | (refine zDr [[0,1,2,3,4,5,6],[7],[8,9],[10]] ?_; refine zDn ?_) | (refine zDr [[0,1,2,3,5,6,7,8,10,11,12,13],[4],[15],[9,14,16],[17],[18],[19],[20]] ?_; refine zDn ?_) | (refine zDr [[0,1,2,3,5,6,7,8,10],[4,9,11],[12],[13],[14],[15]] ?_; refine zDn ?_) | refine zS ?_ | refine zD ?_ | refine po_both ?_ ?_ | refine pwt_both ?_ ?_ | refine pwt_fork ?_ | refine pwt_lin ?_ | (refine po_test rfl rfl rfl rfl zB ?_ ?_ <;> intro hb <;> first | exact zX | refine zDn ?_) | refine zq5 ?_ | refine zq6 ?_))
   exact ⟨trivial, zLe, zLes⟩
  ·have e : sVia x1 = x1 := if_neg h1
   rw [e]
   (repeat' (first | refine zS ?_ | refine zq5 ?_ | refine zq6 ?_))
   exact ⟨trivial, zLe, zLes⟩
 have k2 := sVia_ok k1
 clear k1 k1l
 generalize sVia x1 = x2 at k2 ⊢
 have k2l := k2.len
 (repeat' (first | refine zS ?_ | refine zq5 ?_ | refine zq6 ?_))
 refine pw_join hD True [(8, .sl ((sDur x2).rest.map .str)), (108, .any)] (ist i c ++ [.box (stmCells (sDur x2).s), .box [.bool (sDur x2).ok]]) 9 rfl rfl rfl rfl ?_ (fun _ => ?_)
 ·refine zT ?_ ?_ <;> intro h1 <;> refine zNq ?_
  ·have e : sDur x2 = ⟨_, _, _⟩ := if_pos h1
   rw [e]
   (repeat' (first | (refine zDr [[0,1,2,3,4,5],[6],[7]] ?_; refine zDn ?_) | (refine zDr [[0,1,2,3,4,5,6],[7],[8,9],[10]] ?_; refine zDn ?_) | (refine zDr [[0,1,2,3,5,6,7,8,10,11,12,13],[4],[15],[9,14,16],[17],[18],[19],[20]] ?_; refine zDn ?_) | (refine zDr [[0,1,2,3,5,6,7,8,10],[4,9,11],[12],[13],[14],[15]] ?_; refine zDn ?_) | refine zS ?_ | refine zD ?_ | refine po_both ?_ ?_ | refine pwt_both ?_ ?_ | refine pwt_fork ?_ | refine pwt_lin ?_ | (refine po_test rfl rfl rfl rfl zB ?_ ?_ <;> intro hb <;> first | exact zX | refine zDn ?_) | refine zq5 ?_ | refine zq6 ?_))
   exact ⟨trivial, zLe, zLes⟩
  ·have e : sDur x2 = x2 := if_neg h1
   rw [e]
   (repeat' (first | refine zS ?_ | refine zq5 ?_ | refine zq6 ?_))
   exact ⟨trivial, zLe, zLes⟩
 have k3 := sDur_ok k2
 clear k2 k2l
 generalize sDur x2 = x3 at k3 ⊢
 have k3l := k3.len
 have k3e := k3.each 1
 (repeat' (first | refine zS ?_ | refine zq5 ?_ | refine zq6 ?_))
 refine pw_join hD True [(8, .sl ((sPri x3).1.rest.map .str)), (9, .bool (sPri x3).2), (129, .any)] (ist i c ++ [.box (stmCells (sPri x3).1.s), .box [.bool (sPri x3).1.ok]]) 9 rfl rfl rfl rfl ?_ (fun _ => ?_)
 ·refine zT ?_ ?_ <;> intro h1 <;> refine zNq ?_
  ·have e : sPri x3 = (⟨_, _, _⟩, _) := if_pos h1
   rw [e]
   (repeat' (first | (refine zDr [[0,1,2,3,4,5],[6],[7]] ?_; refine zDn ?_) | (refine zDr [[0,1,2,3,4,5,6],[7],[8,9],[10]] ?_; refine zDn ?_) | (refine zDr [[0,1,2,3,5,6,7,8,10,11,12,13],[4],[15],[9,14,16],[17],[18],[19],[20]] ?_; refine zDn ?_) | (refine zDr [[0,1,2,3,5,6,7,8,10],[4,9,11],[12],[13],[14],[15]] ?_; refine zDn ?_) | refine zS ?_ | refine zD ?_ | refine po_both ?_ ?_ | refine pwt_both ?_ ?_ | refine pwt_fork ?_ | refine pwt_lin ?_ | (refine po_test rfl rfl rfl rfl zB ?_ ?_ <;> intro hb <;> first | exact zX | refine zDn ?_) | refine zq5 ?_ | refine zq6 ?_))
   exact ⟨trivial, zLe, zLes⟩
  ·have e : sPri x3 = (x3, true) := if_neg h1
   rw [e]
   (repeat' (first | refine zS ?_ | refine zq5 ?_ | refine zq6 ?_))
   exact ⟨trivial, zLe, zLes⟩
 have k4 := sPri_ok k3
 clear k3 k3l k3e
 generalize sPri x3 = x4 at k4 ⊢
 obtain ⟨x4, inside⟩ := x4
 dsimp only at k4 ⊢
 have k4l := k4.len
 unfold ist
 refine zNq ?_
 (repeat' (first | (refine zDr [[0,1,2,3,4,5],[6],[7]] ?_; refine zDn ?_) | (refine zDr [[0,1,2,3,4,5,6],[7],[8,9],[10]] ?_; refine zDn ?_) | (refine zDr [[0,1,2,3,5,6,7,8,10,11,12,13],[4],[15],[9,14,16],[17],[18],[19],[20]] ?_; refine zDn ?_) | (refine zDr [[0,1,2,3,5,6,7,8,10],[4,9,11],[12],[13],[14],[15]] ?_; refine zDn ?_) | refine zS ?_ | refine zD ?_ | refine po_both ?_ ?_ | refine pwt_both ?_ ?_ | refine pwt_fork ?_ | refine pwt_lin ?_ | (refine po_test rfl rfl rfl rfl zB ?_ ?_ <;> intro hb <;> first | exact zX | refine zDn ?_) | refine zq5 ?_ | refine zq6 ?_ | (refine zT ?_ ?_ <;> intro h <;> first | exact zX | refine zNq ?_)))
 ·rw [if_pos (by rcases h with h | h; exact .inl h; exact .inr (by omega))]
  exact ⟨_, _, _, rfl, ⟨c, rfl, rfl⟩, .inr (.inl rfl), zF, rfl, rfl⟩
 ·rename_i g1
  rw [if_neg (by rintro (q | q); exact g1 (.inl q); exact g1 (.inr (by omega))), if_pos h]
  exact ⟨_, _, _, rfl, ⟨c, rfl, rfl⟩, .inr (.inl rfl), zF, rfl, rfl⟩
 ·rename_i g1 g2
  rw [if_neg (by rintro (q | q); exact g1 (.inl q); exact g1 (.inr (by omega))), if_neg g2, if_pos (by omega)]
  exact ⟨_, _, _, rfl, ⟨c, rfl, rfl⟩, .inr (.inl rfl), zF, rfl, rfl⟩
 ·rename_i g1 g2
  rw [if_neg (by rintro (q | q); exact g1 (.inl q); exact g1 (.inr (by omega))), if_neg g2, if_neg (by omega)]
  (refine po_step rfl rfl (op_append (b := 136) hT rfl rfl rfl rfl rfl rfl (.inl (Nat.zero_lt_succ _)) rfl rfl (by simp; omega) (fun cap' _ hcap => ⟨zLok, ?_⟩)); refine zDn ?_)
  refine zD ?_
  (refine pw_mv 4 9 hD rfl rfl rfl rfl rfl ?_; refine pw_norm rfl ?_)
  (repeat' (first | refine zS ?_ | refine zq5 ?_ | refine zq6 ?_ | (refine zT ?_ ?_ <;> intro h <;> first | exact zX | refine zNq ?_)))
  refine ⟨_, _, _, rfl, ⟨(c.1, c.2.1, c.2.2.1, cap', c.2.2.2.2), rfl, rfl⟩, .inr (.inl rfl), ?_, rfl, rfl⟩
  simp only [List.map_append, List.length_append]
  exact zF
end Go.Proofs.YtkaobkjcjodffaaGreatDoor
