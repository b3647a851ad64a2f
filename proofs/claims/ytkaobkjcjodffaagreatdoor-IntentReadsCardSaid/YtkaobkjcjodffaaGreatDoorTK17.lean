/-
 Contracts of functions, walked over pure values.
-/
import Derived.Test.YtkaobkjcjodffaaGreatDoorTK13
import Derived.Test.YtkaobkjcjodffaaGreatDoorTM6
import Derived.Test.YtkaobkjcjodffaaGreatDoorTK16
import Derived.Test.YtkaobkjcjodffaaGreatDoorTK36
import Derived.Test.YtkaobkjcjodffaaGreatDoorTV1
import Derived.Test.YtkaobkjcjodffaaGreatDoorTM13
import Derived.Test.YtkaobkjcjodffaaGreatDoorTK41
import Derived.Test.YtkaobkjcjodffaaGreatDoorSPwApX
set_option maxHeartbeats 20000000
set_option maxRecDepth 100000
namespace Go.Proofs.YtkaobkjcjodffaaGreatDoor
open Go Go.Pw
section
variable {Gl : Glob}
attribute [local irreducible] PW PWL OpP PCalls PWO pDef pWin pStm pPub pHid PWT bothT
instance (s : Str) : ConF Tryz.prog Gl 45 [.str s] (GM Gl) (.tup [.sl ((lines s).1.map eLine), .int .i64 (lines s).2.1, .int .i64 (lines s).2.2]) := ⟨e45, fun h => c60 h s⟩
def boxI : PObj := .box [.nilsl, .nilsl, .nilsl, .nilsl, .nilsl, .nilsl]
def jst (i : TInt) (c : ICaps) : List PObj := [boxI, .box [.msl 2 2 0 (i.groups.map eDef).length c.1, .msl 2 3 0 (i.services.map eDef).length c.2.1, .msl 2 4 0 (i.windows.map eWin).length c.2.2.1, .msl 10 5 0 (i.stms.map eStm).length c.2.2.2.1, .msl 6 6 0 (i.pubs.map ePub).length c.2.2.2.2.1, .msl 5 7 0 (i.hids.map eHid).length c.2.2.2.2.2],
 .arr 2 (i.groups.map eDef) c.1, .arr 2 (i.services.map eDef) c.2.1, .arr 2 (i.windows.map eWin) c.2.2.1, .arr 10 (i.stms.map eStm) c.2.2.2.1, .arr 6 (i.pubs.map ePub) c.2.2.2.2.1, .arr 5 (i.hids.map eHid) c.2.2.2.2.2]
theorem c_iParse (hG : GM Gl) (hD' : GD Gl) (s : Str) : PFun Tryz.prog Gl 19 [.str s] fun r => r = .tup [eIntent (iParse s).1, .int .i64 (iParse s).2.1, .int .i64 (iParse s).2.2] := by
 have hok := lines_ok s
 have hat := fun k => @line_at s _ rfl k
 (refine PFun.of hT Tryz.func19 rfl fun B hD => ?_; refine pw_norm rfl ?_)
 unfold iParse
 (try refine zS ?_)
 have hfew := hok.few
 generalize lines s = L at hok hat hfew ⊢
 obtain ⟨ls, ln, le⟩ := L
 dsimp only at hok hat hfew ⊢
 refine zT ?_ ?_ <;> intro h <;> refine zNq ?_
 ·rw [if_pos h]
  (repeat' (first | (refine zDr [[0,1,2,3],[4],[5,6]] ?_; refine zDn ?_) | refine zS ?_ | refine zD ?_ | refine po_both ?_ ?_ | refine pwt_both ?_ ?_ | refine pwt_fork ?_ | refine pwt_lin ?_ | (refine po_test rfl rfl rfl rfl zB ?_ ?_ <;> intro hb <;> first | exact zX | refine zDn ?_) | (refine zT ?_ ?_ <;> intro h <;> first | exact zX | refine zNq ?_)))
  exact ret0 _ (.tup [eIntent int0, .int .i64 ln, .int .i64 le]) rfl rfl (by (refine .inr (.inr (.inr (.inr (.inr ⟨_, _, rfl, rfl, ?_⟩)))); (repeat (first | exact True.intro | refine ⟨.inr (.inl rfl), ?_⟩ | refine ⟨.inr (.inr (.inl ⟨rfl, rfl⟩)), ?_⟩ | refine ⟨.inr (.inr (.inr (.inl ⟨_, _, _, _, _, _, rfl, rfl, rfl, rfl, rfl⟩))), ?_⟩ | refine ⟨.inr (.inr (.inr (.inr (.inl ⟨_, _, rfl, rfl, ?_⟩)))), ?_⟩)))) rfl
 rw [if_neg h]
 (try refine zS ?_)
 refine pw_ghost 2 ?_
 refine pw_ghost 2 ?_
 refine pw_ghost 2 ?_
 refine pw_ghost 10 ?_
 refine pw_ghost 6 ?_
 refine pw_ghost 5 ?_
 refine zNq ?_
 refine pw_for hD (fun a : Nat × TInt × ICaps => [(26, .int .i64 a.1)]) (fun a => jst a.2.1 a.2.2)
  (fun a => iRun (ls.drop a.1) a.2.1 = iRun ls int0 ∧ a.1 ≤ ls.length ∧ ILim a.2.1) (fun a => ls.length - a.1) (0, int0, (0, 0, 0, 0, 0, 0)) ⟨rfl, Nat.zero_le _, int0_lim⟩ 8 rfl (fun _ => rfl)
  ?_ (fun _ => rfl) (fun _ => rfl) zLe ?_
 ·exact ⟨.inl rfl, .inr (.inr ⟨_, _, rfl, rfl, zLe⟩), .inl rfl, .inl rfl, .inl rfl, .inl rfl, .inl rfl, .inl rfl, trivial⟩
 rintro ⟨i, t, c⟩ ⟨hw, hi, ht⟩
 dsimp only at hw hi ht ⊢
 have hstep := @iRun_drop ls i
 have hat := hat i
 have hlx := iLine_lim ht (ls.getD i default).words
 unfold jst boxI
 refine zNq ?_
 (try refine zS ?_)
 refine zT ?_ ?_ <;> intro h1 <;> refine zNq ?_
 ·have hlt : i < ls.length := by omega
  obtain ⟨a1, a2, a3⟩ := hat hlt
  rw [hstep hlt] at hw
  (try refine zS ?_)
  generalize ls.getD i default = li at hw a1 a2 a3 hlx ⊢
  obtain ⟨num, w⟩ := li
  dsimp only at hw a1 a2 a3 hlx
  refine zNq ?_
  (repeat' (first | (refine zDr [[0,1,2,3],[4],[5,6]] ?_; refine zDn ?_) | refine zS ?_ | refine zD ?_ | refine po_both ?_ ?_ | refine pwt_both ?_ ?_ | refine pwt_fork ?_ | refine pwt_lin ?_ | (refine po_test rfl rfl rfl rfl zB ?_ ?_ <;> intro hb <;> first | exact zX | refine zDn ?_) | (refine zT ?_ ?_ <;> intro h <;> first | exact zX | refine zNq ?_)))
  ·have hx : iLine t w = ((pDef t.groups w false).1, { t with groups := (pDef t.groups w false).2 }) := by unfold iLine; (repeat (first | refine (if_pos (by assumption)).trans ?_ | refine (if_neg (by assumption)).trans ?_)); rfl
   rw [hx] at hw hlx
   (refine pl_op rfl (op_callA [1, 2, 3, 4, 5, 6, 7] rfl rfl e46 (by decide) rfl rfl rfl zLe zLes (c_defineG hG t ht.groups c w false a3 (by omega)) (fun r s hq => ?_)); obtain ⟨c', rfl, rfl⟩ := hq; refine ⟨rfl, rfl, ?_⟩; (refine zNp ?_))
   generalize pDef t.groups w false = x at hw hlx ⊢
   dsimp only at hw hlx
   (try refine zS ?_)
   (refine pw_mv 2 10 hD rfl rfl rfl rfl rfl ?_; refine pw_norm rfl ?_)
   (refine pw_mv 3 11 hD rfl rfl rfl rfl rfl ?_; refine pw_norm rfl ?_)
   (refine pw_mv 4 12 hD rfl rfl rfl rfl rfl ?_; refine pw_norm rfl ?_)
   (refine pw_mv 5 13 hD rfl rfl rfl rfl rfl ?_; refine pw_norm rfl ?_)
   (refine pw_mv 6 14 hD rfl rfl rfl rfl rfl ?_; refine pw_norm rfl ?_)
   (refine pw_mv 7 15 hD rfl rfl rfl rfl rfl ?_; refine pw_norm rfl ?_)
   (refine pw_trim 9 hD rfl rfl ?_; refine pw_norm rfl ?_)
   refine zT ?_ ?_ <;> intro h2 <;> refine zNq ?_
   ·rw [if_pos h2] at hw
    rw [← hw]
    (repeat' (first | (refine zDr [[0,1,2,3],[4],[5,6]] ?_; refine zDn ?_) | refine zS ?_ | refine zD ?_ | refine po_both ?_ ?_ | refine pwt_both ?_ ?_ | refine pwt_fork ?_ | refine pwt_lin ?_ | (refine po_test rfl rfl rfl rfl zB ?_ ?_ <;> intro hb <;> first | exact zX | refine zDn ?_) | (refine zT ?_ ?_ <;> intro h <;> first | exact zX | refine zNq ?_)))
    exact ret0 _ (.tup [eIntent int0, .int .i64 num, .int .i64 x.1]) rfl rfl (by (refine .inr (.inr (.inr (.inr (.inr ⟨_, _, rfl, rfl, ?_⟩)))); (repeat (first | exact True.intro | refine ⟨.inr (.inl rfl), ?_⟩ | refine ⟨.inr (.inr (.inl ⟨rfl, rfl⟩)), ?_⟩ | refine ⟨.inr (.inr (.inr (.inl ⟨_, _, _, _, _, _, rfl, rfl, rfl, rfl, rfl⟩))), ?_⟩ | refine ⟨.inr (.inr (.inr (.inr (.inl ⟨_, _, rfl, rfl, ?_⟩)))), ?_⟩)))) rfl
   ·rw [if_neg h2] at hw
    (repeat' (first | refine zS ?_ | (refine zT ?_ ?_ <;> intro h <;> first | exact zX | refine zNq ?_)))
    exact ⟨(i + 1, { t with groups := x.2 }, c'), ⟨hw, by show i + 1 ≤ _; omega, hlx⟩, by show _ - (i + 1) < _ - i; omega, zLe, zLes⟩
  ·have hx : iLine t w = ((pDef t.services w true).1, { t with services := (pDef t.services w true).2 }) := by unfold iLine; (repeat (first | refine (if_pos (by assumption)).trans ?_ | refine (if_neg (by assumption)).trans ?_)); rfl
   rw [hx] at hw hlx
   (refine pl_op rfl (op_callA [1, 2, 3, 4, 5, 6, 7] rfl rfl e46 (by decide) rfl rfl rfl zLe zLes (c_defineS hG t ht.services c w true a3 (by omega)) (fun r s hq => ?_)); obtain ⟨c', rfl, rfl⟩ := hq; refine ⟨rfl, rfl, ?_⟩; (refine zNp ?_))
   generalize pDef t.services w true = x at hw hlx ⊢
   dsimp only at hw hlx
   (try refine zS ?_)
   (refine pw_mv 2 10 hD rfl rfl rfl rfl rfl ?_; refine pw_norm rfl ?_)
   (refine pw_mv 3 11 hD rfl rfl rfl rfl rfl ?_; refine pw_norm rfl ?_)
   (refine pw_mv 4 12 hD rfl rfl rfl rfl rfl ?_; refine pw_norm rfl ?_)
   (refine pw_mv 5 13 hD rfl rfl rfl rfl rfl ?_; refine pw_norm rfl ?_)
   (refine pw_mv 6 14 hD rfl rfl rfl rfl rfl ?_; refine pw_norm rfl ?_)
   (refine pw_mv 7 15 hD rfl rfl rfl rfl rfl ?_; refine pw_norm rfl ?_)
   (refine pw_trim 9 hD rfl rfl ?_; refine pw_norm rfl ?_)
   refine zT ?_ ?_ <;> intro h2 <;> refine zNq ?_
   ·rw [if_pos h2] at hw
    rw [← hw]
    (repeat' (first | (refine zDr [[0,1,2,3],[4],[5,6]] ?_; refine zDn ?_) | refine zS ?_ | refine zD ?_ | refine po_both ?_ ?_ | refine pwt_both ?_ ?_ | refine pwt_fork ?_ | refine pwt_lin ?_ | (refine po_test rfl rfl rfl rfl zB ?_ ?_ <;> intro hb <;> first | exact zX | refine zDn ?_) | (refine zT ?_ ?_ <;> intro h <;> first | exact zX | refine zNq ?_)))
    exact ret0 _ (.tup [eIntent int0, .int .i64 num, .int .i64 x.1]) rfl rfl (by (refine .inr (.inr (.inr (.inr (.inr ⟨_, _, rfl, rfl, ?_⟩)))); (repeat (first | exact True.intro | refine ⟨.inr (.inl rfl), ?_⟩ | refine ⟨.inr (.inr (.inl ⟨rfl, rfl⟩)), ?_⟩ | refine ⟨.inr (.inr (.inr (.inl ⟨_, _, _, _, _, _, rfl, rfl, rfl, rfl, rfl⟩))), ?_⟩ | refine ⟨.inr (.inr (.inr (.inr (.inl ⟨_, _, rfl, rfl, ?_⟩)))), ?_⟩)))) rfl
   ·rw [if_neg h2] at hw
    (repeat' (first | refine zS ?_ | (refine zT ?_ ?_ <;> intro h <;> first | exact zX | refine zNq ?_)))
    exact ⟨(i + 1, { t with services := x.2 }, c'), ⟨hw, by show i + 1 ≤ _; omega, hlx⟩, by show _ - (i + 1) < _ - i; omega, zLe, zLes⟩
  ·have hx : iLine t w = ((pWin t.windows w).1, { t with windows := (pWin t.windows w).2 }) := by unfold iLine; (repeat (first | refine (if_pos (by assumption)).trans ?_ | refine (if_neg (by assumption)).trans ?_)); rfl
   rw [hx] at hw hlx
   (refine pl_op rfl (op_callA [1, 2, 3, 4, 5, 6, 7] rfl rfl e47 (by decide) rfl rfl rfl zLe zLes (c_readWindow hG hD' t ht.windows c w a3 (by omega)) (fun r s hq => ?_)); obtain ⟨c', rfl, rfl⟩ := hq; refine ⟨rfl, rfl, ?_⟩; (refine zNp ?_))
   generalize pWin t.windows w = x at hw hlx ⊢
   dsimp only at hw hlx
   (try refine zS ?_)
   (refine pw_mv 2 10 hD rfl rfl rfl rfl rfl ?_; refine pw_norm rfl ?_)
   (refine pw_mv 3 11 hD rfl rfl rfl rfl rfl ?_; refine pw_norm rfl ?_)
   (refine pw_mv 4 12 hD rfl rfl rfl rfl rfl ?_; refine pw_norm rfl ?_)
   (refine pw_mv 5 13 hD rfl rfl rfl rfl rfl ?_; refine pw_norm rfl ?_)
   (refine pw_mv 6 14 hD rfl rfl rfl rfl rfl ?_; refine pw_norm rfl ?_)
   (refine pw_mv 7 15 hD rfl rfl rfl rfl rfl ?_; refine pw_norm rfl ?_)
   (refine pw_trim 9 hD rfl rfl ?_; refine pw_norm rfl ?_)
   refine zT ?_ ?_ <;> intro h2 <;> refine zNq ?_
   ·rw [if_pos h2] at hw
    rw [← hw]
    (repeat' (first | (refine zDr [[0,1,2,3],[4],[5,6]] ?_; refine zDn ?_) | refine zS ?_ | refine zD ?_ | refine po_both ?_ ?_ | refine pwt_both ?_ ?_ | refine pwt_fork ?_ | refine pwt_lin ?_ | (refine po_test rfl rfl rfl rfl zB ?_ ?_ <;> intro hb <;> first | exact zX | refine zDn ?_) | (refine zT ?_ ?_ <;> intro h <;> first | exact zX | refine zNq ?_)))
    exact ret0 _ (.tup [eIntent int0, .int .i64 num, .int .i64 x.1]) rfl rfl (by (refine .inr (.inr (.inr (.inr (.inr ⟨_, _, rfl, rfl, ?_⟩)))); (repeat (first | exact True.intro | refine ⟨.inr (.inl rfl), ?_⟩ | refine ⟨.inr (.inr (.inl ⟨rfl, rfl⟩)), ?_⟩ | refine ⟨.inr (.inr (.inr (.inl ⟨_, _, _, _, _, _, rfl, rfl, rfl, rfl, rfl⟩))), ?_⟩ | refine ⟨.inr (.inr (.inr (.inr (.inl ⟨_, _, rfl, rfl, ?_⟩)))), ?_⟩)))) rfl
   ·rw [if_neg h2] at hw
    (repeat' (first | refine zS ?_ | (refine zT ?_ ?_ <;> intro h <;> first | exact zX | refine zNq ?_)))
    exact ⟨(i + 1, { t with windows := x.2 }, c'), ⟨hw, by show i + 1 ≤ _; omega, hlx⟩, by show _ - (i + 1) < _ - i; omega, zLe, zLes⟩
  ·have hx : iLine t w = ((pStm t.stms w).1, { t with stms := (pStm t.stms w).2 }) := by unfold iLine; (repeat (first | refine (if_pos (by assumption)).trans ?_ | refine (if_neg (by assumption)).trans ?_)); rfl
   rw [hx] at hw hlx
   (refine pl_op rfl (op_callA [1, 2, 3, 4, 5, 6, 7] rfl rfl e48 (by decide) rfl rfl rfl zLe zLes (c_readStatement t ht.stms c w a3 (by omega)) (fun r s hq => ?_)); obtain ⟨c', rfl, rfl⟩ := hq; refine ⟨rfl, rfl, ?_⟩; (refine zNp ?_))
   generalize pStm t.stms w = x at hw hlx ⊢
   dsimp only at hw hlx
   (try refine zS ?_)
   (refine pw_mv 2 10 hD rfl rfl rfl rfl rfl ?_; refine pw_norm rfl ?_)
   (refine pw_mv 3 11 hD rfl rfl rfl rfl rfl ?_; refine pw_norm rfl ?_)
   (refine pw_mv 4 12 hD rfl rfl rfl rfl rfl ?_; refine pw_norm rfl ?_)
   (refine pw_mv 5 13 hD rfl rfl rfl rfl rfl ?_; refine pw_norm rfl ?_)
   (refine pw_mv 6 14 hD rfl rfl rfl rfl rfl ?_; refine pw_norm rfl ?_)
   (refine pw_mv 7 15 hD rfl rfl rfl rfl rfl ?_; refine pw_norm rfl ?_)
   (refine pw_trim 9 hD rfl rfl ?_; refine pw_norm rfl ?_)
   refine zT ?_ ?_ <;> intro h2 <;> refine zNq ?_
   ·rw [if_pos h2] at hw
    rw [← hw]
    (repeat' (first | (refine zDr [[0,1,2,3],[4],[5,6]] ?_; refine zDn ?_) | refine zS ?_ | refine zD ?_ | refine po_both ?_ ?_ | refine pwt_both ?_ ?_ | refine pwt_fork ?_ | refine pwt_lin ?_ | (refine po_test rfl rfl rfl rfl zB ?_ ?_ <;> intro hb <;> first | exact zX | refine zDn ?_) | (refine zT ?_ ?_ <;> intro h <;> first | exact zX | refine zNq ?_)))
    exact ret0 _ (.tup [eIntent int0, .int .i64 num, .int .i64 x.1]) rfl rfl (by (refine .inr (.inr (.inr (.inr (.inr ⟨_, _, rfl, rfl, ?_⟩)))); (repeat (first | exact True.intro | refine ⟨.inr (.inl rfl), ?_⟩ | refine ⟨.inr (.inr (.inl ⟨rfl, rfl⟩)), ?_⟩ | refine ⟨.inr (.inr (.inr (.inl ⟨_, _, _, _, _, _, rfl, rfl, rfl, rfl, rfl⟩))), ?_⟩ | refine ⟨.inr (.inr (.inr (.inr (.inl ⟨_, _, rfl, rfl, ?_⟩)))), ?_⟩)))) rfl
   ·rw [if_neg h2] at hw
    (repeat' (first | refine zS ?_ | (refine zT ?_ ?_ <;> intro h <;> first | exact zX | refine zNq ?_)))
    exact ⟨(i + 1, { t with stms := x.2 }, c'), ⟨hw, by show i + 1 ≤ _; omega, hlx⟩, by show _ - (i + 1) < _ - i; omega, zLe, zLes⟩
  ·have hx : iLine t w = ((pStm t.stms w).1, { t with stms := (pStm t.stms w).2 }) := by unfold iLine; (repeat (first | refine (if_pos (by assumption)).trans ?_ | refine (if_neg (by assumption)).trans ?_)); rfl
   rw [hx] at hw hlx
   (refine pl_op rfl (op_callA [1, 2, 3, 4, 5, 6, 7] rfl rfl e48 (by decide) rfl rfl rfl zLe zLes (c_readStatement t ht.stms c w a3 (by omega)) (fun r s hq => ?_)); obtain ⟨c', rfl, rfl⟩ := hq; refine ⟨rfl, rfl, ?_⟩; (refine zNp ?_))
   generalize pStm t.stms w = x at hw hlx ⊢
   dsimp only at hw hlx
   (try refine zS ?_)
   (refine pw_mv 2 10 hD rfl rfl rfl rfl rfl ?_; refine pw_norm rfl ?_)
   (refine pw_mv 3 11 hD rfl rfl rfl rfl rfl ?_; refine pw_norm rfl ?_)
   (refine pw_mv 4 12 hD rfl rfl rfl rfl rfl ?_; refine pw_norm rfl ?_)
   (refine pw_mv 5 13 hD rfl rfl rfl rfl rfl ?_; refine pw_norm rfl ?_)
   (refine pw_mv 6 14 hD rfl rfl rfl rfl rfl ?_; refine pw_norm rfl ?_)
   (refine pw_mv 7 15 hD rfl rfl rfl rfl rfl ?_; refine pw_norm rfl ?_)
   (refine pw_trim 9 hD rfl rfl ?_; refine pw_norm rfl ?_)
   refine zT ?_ ?_ <;> intro h2 <;> refine zNq ?_
   ·rw [if_pos h2] at hw
    rw [← hw]
    (repeat' (first | (refine zDr [[0,1,2,3],[4],[5,6]] ?_; refine zDn ?_) | refine zS ?_ | refine zD ?_ | refine po_both ?_ ?_ | refine pwt_both ?_ ?_ | refine pwt_fork ?_ | refine pwt_lin ?_ | (refine po_test rfl rfl rfl rfl zB ?_ ?_ <;> intro hb <;> first | exact zX | refine zDn ?_) | (refine zT ?_ ?_ <;> intro h <;> first | exact zX | refine zNq ?_)))
    exact ret0 _ (.tup [eIntent int0, .int .i64 num, .int .i64 x.1]) rfl rfl (by (refine .inr (.inr (.inr (.inr (.inr ⟨_, _, rfl, rfl, ?_⟩)))); (repeat (first | exact True.intro | refine ⟨.inr (.inl rfl), ?_⟩ | refine ⟨.inr (.inr (.inl ⟨rfl, rfl⟩)), ?_⟩ | refine ⟨.inr (.inr (.inr (.inl ⟨_, _, _, _, _, _, rfl, rfl, rfl, rfl, rfl⟩))), ?_⟩ | refine ⟨.inr (.inr (.inr (.inr (.inl ⟨_, _, rfl, rfl, ?_⟩)))), ?_⟩)))) rfl
   ·rw [if_neg h2] at hw
    (repeat' (first | refine zS ?_ | (refine zT ?_ ?_ <;> intro h <;> first | exact zX | refine zNq ?_)))
    exact ⟨(i + 1, { t with stms := x.2 }, c'), ⟨hw, by show i + 1 ≤ _; omega, hlx⟩, by show _ - (i + 1) < _ - i; omega, zLe, zLes⟩
  ·have hx : iLine t w = ((pPub t.pubs w).1, { t with pubs := (pPub t.pubs w).2 }) := by unfold iLine; (repeat (first | refine (if_pos (by assumption)).trans ?_ | refine (if_neg (by assumption)).trans ?_)); rfl
   rw [hx] at hw hlx
   (refine pl_op rfl (op_callA [1, 2, 3, 4, 5, 6, 7] rfl rfl e49 (by decide) rfl rfl rfl zLe zLes (c_publish hG t ht.pubs c w a3 (by omega)) (fun r s hq => ?_)); obtain ⟨c', rfl, rfl⟩ := hq; refine ⟨rfl, rfl, ?_⟩; (refine zNp ?_))
   generalize pPub t.pubs w = x at hw hlx ⊢
   dsimp only at hw hlx
   (try refine zS ?_)
   (refine pw_mv 2 10 hD rfl rfl rfl rfl rfl ?_; refine pw_norm rfl ?_)
   (refine pw_mv 3 11 hD rfl rfl rfl rfl rfl ?_; refine pw_norm rfl ?_)
   (refine pw_mv 4 12 hD rfl rfl rfl rfl rfl ?_; refine pw_norm rfl ?_)
   (refine pw_mv 5 13 hD rfl rfl rfl rfl rfl ?_; refine pw_norm rfl ?_)
   (refine pw_mv 6 14 hD rfl rfl rfl rfl rfl ?_; refine pw_norm rfl ?_)
   (refine pw_mv 7 15 hD rfl rfl rfl rfl rfl ?_; refine pw_norm rfl ?_)
   (refine pw_trim 9 hD rfl rfl ?_; refine pw_norm rfl ?_)
   refine zT ?_ ?_ <;> intro h2 <;> refine zNq ?_
   ·rw [if_pos h2] at hw
    rw [← hw]
    (repeat' (first | (refine zDr [[0,1,2,3],[4],[5,6]] ?_; refine zDn ?_) | refine zS ?_ | refine zD ?_ | refine po_both ?_ ?_ | refine pwt_both ?_ ?_ | refine pwt_fork ?_ | refine pwt_lin ?_ | (refine po_test rfl rfl rfl rfl zB ?_ ?_ <;> intro hb <;> first | exact zX | refine zDn ?_) | (refine zT ?_ ?_ <;> intro h <;> first | exact zX | refine zNq ?_)))
    exact ret0 _ (.tup [eIntent int0, .int .i64 num, .int .i64 x.1]) rfl rfl (by (refine .inr (.inr (.inr (.inr (.inr ⟨_, _, rfl, rfl, ?_⟩)))); (repeat (first | exact True.intro | refine ⟨.inr (.inl rfl), ?_⟩ | refine ⟨.inr (.inr (.inl ⟨rfl, rfl⟩)), ?_⟩ | refine ⟨.inr (.inr (.inr (.inl ⟨_, _, _, _, _, _, rfl, rfl, rfl, rfl, rfl⟩))), ?_⟩ | refine ⟨.inr (.inr (.inr (.inr (.inl ⟨_, _, rfl, rfl, ?_⟩)))), ?_⟩)))) rfl
   ·rw [if_neg h2] at hw
    (repeat' (first | refine zS ?_ | (refine zT ?_ ?_ <;> intro h <;> first | exact zX | refine zNq ?_)))
    exact ⟨(i + 1, { t with pubs := x.2 }, c'), ⟨hw, by show i + 1 ≤ _; omega, hlx⟩, by show _ - (i + 1) < _ - i; omega, zLe, zLes⟩
  ·have hx : iLine t w = ((pHid t.hids w).1, { t with hids := (pHid t.hids w).2 }) := by unfold iLine; (repeat (first | refine (if_pos (by assumption)).trans ?_ | refine (if_neg (by assumption)).trans ?_)); rfl
   rw [hx] at hw hlx
   (refine pl_op rfl (op_callA [1, 2, 3, 4, 5, 6, 7] rfl rfl e50 (by decide) rfl rfl rfl zLe zLes (c_hide hG t ht.hids c w a3 (by omega)) (fun r s hq => ?_)); obtain ⟨c', rfl, rfl⟩ := hq; refine ⟨rfl, rfl, ?_⟩; (refine zNp ?_))
   generalize pHid t.hids w = x at hw hlx ⊢
   dsimp only at hw hlx
   (try refine zS ?_)
   (refine pw_mv 2 10 hD rfl rfl rfl rfl rfl ?_; refine pw_norm rfl ?_)
   (refine pw_mv 3 11 hD rfl rfl rfl rfl rfl ?_; refine pw_norm rfl ?_)
   (refine pw_mv 4 12 hD rfl rfl rfl rfl rfl ?_; refine pw_norm rfl ?_)
   (refine pw_mv 5 13 hD rfl rfl rfl rfl rfl ?_; refine pw_norm rfl ?_)
   (refine pw_mv 6 14 hD rfl rfl rfl rfl rfl ?_; refine pw_norm rfl ?_)
   (refine pw_mv 7 15 hD rfl rfl rfl rfl rfl ?_; refine pw_norm rfl ?_)
   (refine pw_trim 9 hD rfl rfl ?_; refine pw_norm rfl ?_)
   refine zT ?_ ?_ <;> intro h2 <;> refine zNq ?_
   ·rw [if_pos h2] at hw
    rw [← hw]
    (repeat' (first | (refine zDr [[0,1,2,3],[4],[5,6]] ?_; refine zDn ?_) | refine zS ?_ | refine zD ?_ | refine po_both ?_ ?_ | refine pwt_both ?_ ?_ | refine pwt_fork ?_ | refine pwt_lin ?_ | (refine po_test rfl rfl rfl rfl zB ?_ ?_ <;> intro hb <;> first | exact zX | refine zDn ?_) | (refine zT ?_ ?_ <;> intro h <;> first | exact zX | refine zNq ?_)))
    exact ret0 _ (.tup [eIntent int0, .int .i64 num, .int .i64 x.1]) rfl rfl (by (refine .inr (.inr (.inr (.inr (.inr ⟨_, _, rfl, rfl, ?_⟩)))); (repeat (first | exact True.intro | refine ⟨.inr (.inl rfl), ?_⟩ | refine ⟨.inr (.inr (.inl ⟨rfl, rfl⟩)), ?_⟩ | refine ⟨.inr (.inr (.inr (.inl ⟨_, _, _, _, _, _, rfl, rfl, rfl, rfl, rfl⟩))), ?_⟩ | refine ⟨.inr (.inr (.inr (.inr (.inl ⟨_, _, rfl, rfl, ?_⟩)))), ?_⟩)))) rfl
   ·rw [if_neg h2] at hw
    (repeat' (first | refine zS ?_ | (refine zT ?_ ?_ <;> intro h <;> first | exact zX | refine zNq ?_)))
    exact ⟨(i + 1, { t with hids := x.2 }, c'), ⟨hw, by show i + 1 ≤ _; omega, hlx⟩, by show _ - (i + 1) < _ - i; omega, zLe, zLes⟩
  ·have hx : iLine t w = (4, t) := by unfold iLine; (repeat (first | refine (if_pos (by assumption)).trans ?_ | refine (if_neg (by assumption)).trans ?_)); rfl
   rw [hx] at hw
   have hw' : (int0, num, (4 : Int)) = iRun ls int0 := hw
   rw [← hw']
   exact ret0 _ (.tup [eIntent int0, .int .i64 num, .int .i64 4]) rfl rfl (by (refine .inr (.inr (.inr (.inr (.inr ⟨_, _, rfl, rfl, ?_⟩)))); (repeat (first | exact True.intro | refine ⟨.inr (.inl rfl), ?_⟩ | refine ⟨.inr (.inr (.inl ⟨rfl, rfl⟩)), ?_⟩ | refine ⟨.inr (.inr (.inr (.inl ⟨_, _, _, _, _, _, rfl, rfl, rfl, rfl, rfl⟩))), ?_⟩ | refine ⟨.inr (.inr (.inr (.inr (.inl ⟨_, _, rfl, rfl, ?_⟩)))), ?_⟩)))) rfl
 ·have hie : i = ls.length := by omega
  subst hie
  rw [List.drop_length, iRun] at hw
  rw [← hw]
  (repeat' (first | refine zS ?_ | (refine zT ?_ ?_ <;> intro h <;> first | exact zX | refine zNq ?_)))
  exact ret0 _ (.tup [eIntent t, .int .i64 0, .int .i64 0]) rfl rfl (by (refine .inr (.inr (.inr (.inr (.inr ⟨_, _, rfl, rfl, ?_⟩)))); (repeat (first | exact True.intro | refine ⟨.inr (.inl rfl), ?_⟩ | refine ⟨.inr (.inr (.inl ⟨rfl, rfl⟩)), ?_⟩ | refine ⟨.inr (.inr (.inr (.inl ⟨_, _, _, _, _, _, rfl, rfl, rfl, rfl, rfl⟩))), ?_⟩ | refine ⟨.inr (.inr (.inr (.inr (.inl ⟨_, _, rfl, rfl, ?_⟩)))), ?_⟩)))) rfl
end
section
variable {Gl : Glob}
attribute [local irreducible] PW PWL OpP PCalls PWO iParse iValid PWT bothT
theorem saneI_valid : iValid saneI = true := by kernel_rfl
theorem saneI_big : IBig saneI := ⟨by decide, by decide, by decide, by decide, by decide, by decide, by decide, by decide, by decide⟩
theorem c_sane (hG : GM Gl) (hD' : GD Gl) : PFun Tryz.prog Gl 18 [] fun r => r = .bool true := by
 (refine PFun.of hT Tryz.func18 rfl fun B hD => ?_; refine pw_norm rfl ?_)
 (repeat' (first | refine zS ?_ | refine zq5 ?_ | refine zq6 ?_ | (refine zT ?_ ?_ <;> intro h <;> first | exact zX | refine zNq ?_)))
 (refine pl_op rfl (op_fun (c_iParse hG hD' saneI1) rfl rfl e19 zLe rfl (fun r hr => ?_)); subst hr; refine ⟨rfl, ?_⟩; (refine zNp ?_))
 rw [saneI1_is]
 (repeat' (first | refine zS ?_ | refine zq5 ?_ | refine zq6 ?_ | (refine zT ?_ ?_ <;> intro h <;> first | exact zX | refine zNq ?_)))
 (refine pl_op rfl (op_fun (c_iParse hG hD' saneI2) rfl rfl e19 zLe rfl (fun r hr => ?_)); subst hr; refine ⟨rfl, ?_⟩; (refine zNp ?_))
 rw [saneI2_is]
 (repeat' (first | refine zS ?_ | refine zq5 ?_ | refine zq6 ?_ | (refine zT ?_ ?_ <;> intro h <;> first | exact zX | refine zNq ?_)))
 (refine pl_op rfl (op_of (v_index (p := eStm saneStm) hT rfl rfl rfl rfl (by omega) (rfl) rfl) ?_); (refine zNp ?_))
 (repeat' (first | refine zS ?_ | refine zq5 ?_ | refine zq6 ?_ | (refine zT ?_ ?_ <;> intro h <;> first | exact zX | refine zNq ?_)))
 (refine pl_on rfl rfl (op_fun (c_iValid hD' saneI saneI_big (fun d h => by cases h)) rfl rfl e29 zLe rfl (fun r hr => ?_)); subst hr; refine ⟨rfl, ?_⟩; (refine zNp ?_))
 rw [saneI_valid]
 (repeat' (first | refine zS ?_ | refine zq5 ?_ | refine zq6 ?_ | (refine zT ?_ ?_ <;> intro h <;> first | exact zX | refine zNq ?_)))
 exact ret2 _ rfl rfl rfl
instance iSane : ConF Tryz.prog Gl 18 [] (GM Gl ∧ GD Gl) (.bool true) := ⟨e18, fun h => c_sane h.1 h.2⟩
end
section
variable {Gl : Glob}
attribute [local irreducible] PW PWL OpP PCalls PWO iValid iFormat PWT bothT
theorem c_reads (hT' : GT Gl) (hD' : GD Gl) (i : TInt) (hb : IBig i) (hi : IIn2 i) : PFun Tryz.prog Gl 25 [eIntent i] fun r => r = .bool true := by
 (refine PFun.of hT Tryz.func25 rfl fun B hD => ?_; refine pw_norm rfl ?_)
 (repeat' (first | refine zS ?_ | refine zq5 ?_ | refine zq6 ?_))
 (refine pl_op rfl (op_fun (c_format hT' hD' i hb hi) rfl rfl e28 zLe rfl (fun r hr => ?_)); subst hr; refine ⟨rfl, ?_⟩; (refine zNp ?_))
 (repeat' (first | refine zS ?_ | refine zq5 ?_ | refine zq6 ?_))
 (refine pl_op rfl (op_fun (c_rFormat16 i hb hi) rfl rfl e11 zLe rfl (fun r hr => ?_)); subst hr; refine ⟨rfl, ?_⟩; (refine zNp ?_))
 have hx := iFormat_len hi.toIIn
 generalize iFormat i = X at hx ⊢
 obtain ⟨x, e⟩ := X
 dsimp only at hx ⊢
 (repeat' (first | refine zS ?_ | refine zq5 ?_ | refine zq6 ?_))
 refine zDr [[0,1,2,3,4,5,6,7,8,9,11],[10,12],[13,14,15]] ?_
 refine zDn ?_
 refine zD ?_
 refine po_split 20 rfl (fun h1 => ?_) (fun h1 => ?_)
 ·refine zDn ?_
  refine zD ?_
  refine po_split 25 rfl (fun h2 => ?_) (fun h2 => ?_)
  ·refine zDn ?_
   refine zD ?_
   (refine po_on rfl rfl rfl (op_fun (c_iValid hD' i hb hi.wins) rfl rfl e29 zLe rfl (fun r hr => ?_)); subst hr; refine ⟨rfl, zLok, ?_⟩; refine zDn ?_)
   (refine po_on rfl rfl rfl (op_fun (c_rValid i hb hi.toIIn) rfl rfl e30 zLe rfl (fun r hr => ?_)); subst hr; refine ⟨rfl, zLok, ?_⟩; refine zDn ?_)
   (refine po_gval rfl rfl rfl (v_eqB hT rfl (by kernel_rfl) rfl rfl rfl) ?_; refine zDn ?_)
   refine zD ?_
   show PW _ _ _ _ _ _ _
   refine zNq ?_
   (repeat' (first | refine zS ?_ | refine zq5 ?_ | refine zq6 ?_))
   exact ret2 _ rfl (by simp) rfl
  ·exact absurd h2 (by simp)
 ·exact absurd h1 (by simp)
theorem c7 (hG : GM Gl) (hD' : GD Gl) (hT' : GT Gl) (l : List Int) (hl : Tp l) (x : TInt) (hx : ITy x) : PFun Tryz.prog Gl 7 [.sl (l.map eInt), eIntent x] fun r => r = .bool true := by
 (refine PFun.of hT Tryz.func7 rfl fun B hD => ?_; refine pw_norm rfl ?_)
 (repeat' (first | refine zS ?_ | refine zq5 ?_ | refine zq6 ?_))
 (refine pl_op rfl (zCl [] e10 (c10 l) (fun r s hq => ?_)); obtain ⟨rfl, rfl⟩ := hq; refine ⟨rfl, rfl, ?_⟩; (refine zNp ?_))
 (repeat' (first | refine zS ?_ | refine zq5 ?_ | refine zq6 ?_))
 refine zNq ?_
 refine pw_for hD (fun a : Nat × Nat => [(6, .int .i64 a.1)]) (fun a => [.box (eIntent x).cells, tape l a.2]) (fun a => a.1 ≤ 5 ∧ a.2 ≤ l.length) (fun a => 5 - a.1) (0, 0) ⟨Nat.zero_le _, Nat.zero_le _⟩ 2 rfl (fun _ => rfl) zLes (fun _ => rfl) (fun _ => rfl) zLe ?_
 rintro ⟨i, j⟩ ⟨hi, hj⟩
 dsimp only at hi hj ⊢
 refine zNq ?_
 (repeat' (first | refine zS ?_ | refine zq5 ?_ | refine zq6 ?_))
 refine zT ?_ ?_ <;> intro h <;> refine zNq ?_
 ·(repeat' (first | refine zS ?_ | refine zq5 ?_ | refine zq6 ?_))
  (refine pl_op rfl (zCl [1] e24 (c_draw l hl j hj) (fun r s hq => ?_)); obtain ⟨j1, ⟨y, hy, rfl⟩, hj1, rfl⟩ := hq; refine ⟨rfl, rfl, ?_⟩; (refine zNp ?_))
  (repeat' (first | refine zS ?_ | refine zq5 ?_ | refine zq6 ?_))
  (refine pl_op rfl (op_fun (c_reads hT' hD' y (hy.big (by decide)) (hy.iin (by decide))) rfl rfl e25 zLe rfl (fun r hr => ?_)); subst hr; refine ⟨rfl, ?_⟩; (refine zNp ?_))
  (repeat' (first | refine zS ?_ | refine zq5 ?_ | refine zq6 ?_))
  (refine pl_on rfl rfl (zCl [1] e26 (c_spoil l hl j1 hj1 y 20003 (by decide) hy) (fun r s hq => ?_)); obtain ⟨j2, ⟨z, hz, rfl⟩, hj2, rfl⟩ := hq; refine ⟨rfl, rfl, ?_⟩; (refine zNp ?_))
  (refine pl_on rfl rfl (op_fun (c_reads hT' hD' z (hz.big (by decide)) (hz.iin (by decide))) rfl rfl e25 zLe rfl (fun r hr => ?_)); subst hr; refine ⟨rfl, ?_⟩; (refine zNp ?_))
  (repeat' (first | refine zS ?_ | refine zq5 ?_ | refine zq6 ?_))
  exact ⟨(i + 1, j2), ⟨by dsimp only; omega, hj2⟩, by dsimp only; omega, zLe, zLes⟩
 ·(repeat' (first | refine zS ?_ | refine zq5 ?_ | refine zq6 ?_))
  (refine pl_op rfl (op_fun (c_huge x hx) rfl rfl e27 zLe rfl (fun r hr => ?_)); obtain ⟨b, rfl, hb⟩ := hr; refine ⟨rfl, ?_⟩; (refine zNp ?_))
  (repeat' (first | refine zS ?_ | refine zq5 ?_ | refine zq6 ?_))
  refine pl_split 28 rfl (fun hs => ?_) (fun hs => ?_)
  ·(repeat' (first | refine zS ?_ | refine zq5 ?_ | refine zq6 ?_))
   exact ret2 _ rfl rfl rfl
  ·have hp := hb hs
   (repeat' (first | refine zS ?_ | refine zq5 ?_ | refine zq6 ?_))
   (refine pl_on rfl rfl (op_fun (c_reads hT' hD' x (hp.big (by decide)) (hp.iin (by decide))) rfl rfl e25 zLe rfl (fun r hr => ?_)); subst hr; refine ⟨rfl, ?_⟩; (refine zNp ?_))
   (repeat' (first | refine zS ?_ | refine zq5 ?_ | refine zq6 ?_))
   exact ret2 _ rfl rfl rfl

end
end Go.Proofs.YtkaobkjcjodffaaGreatDoor