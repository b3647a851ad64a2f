/-
 Contracts of functions, walked over pure values.
-/
import Derived.Test.YtkaobkjcjodffaaGreatDoorBM5
import Derived.Test.YtkaobkjcjodffaaGreatDoorBK9
import Derived.Test.YtkaobkjcjodffaaGreatDoorBM7
import Derived.Test.YtkaobkjcjodffaaGreatDoorBK28
set_option maxHeartbeats 20000000
set_option maxRecDepth 100000
namespace Go.Proofs.YtkaobkjcjodffaaGreatDoor
open Go Go.Pw
section
variable {Gl : Glob}
attribute [local irreducible] PW PWL OpP PCalls PWO pDef pWin pStm pPub pHid PWT bothT
instance (s : Str) : ConF Tryz.prog Gl 45 [.str s] (GM Gl) (.tup [.sl ((lines s).1.map eLine), .int .i64 (lines s).2.1, .int .i64 (lines s).2.2]) := ⟨e45, fun h => c60 h s⟩
def boxI : PObj := .box [.nilsl, .nilsl, .nilsl, .nilsl, .nilsl, .nilsl]
def jst (i : TInt) (c : ICaps) : List PObj := [boxI, .box [.msl 2 2 0 (i.groups.map eDef).length c.1, .msl 2 3 0 (i.services.map eDef).length c.2.1, .msl 2 4 0 (i.windows.map eWin).length c.2.2.1, .msl 10 5 0 (i.stms.map eStm).length c.2.2.2.1, .msl 6 6 0 (i.pubs.map ePub).length c.2.2.2.2.1, .msl 5 7 0 (i.hids.map eHid).length c.2.2.2.2.2],
 .arr 2 (i.groups.map eDef) c.1, .arr 2 (i.services.map eDef) c.2.1, .arr 2 (i.windows.map eWin) c.2.2.1, .arr 10 (i.stms.map eStm) c.2.2.2.1, .arr 6 (i.pubs.map ePub) c.2.2.2.2.1, .arr 5 (i.hids.map eHid) c.2.2.2.2.2]
theorem c_iParse (hG : GM Gl) (hD' : GD Gl) (s : Str) : PFun Tryz.prog Gl 19 [.str s] fun r => r = .tup [eIntent (iParse s).1, .int .i64 (iParse s).2.1, .int .i64 (iParse s).2.2] := by
 have hok := lines_ok s
 have hat := fun k => @line_at s _ rfl k
 (refine PFun.of hT Tryz.func19 rfl fun B hD => ?_; refine pw_norm rfl ?_)
 unfold iParse
 (try refine zS ?_)
 have hfew := hok.few
 generalize lines s = L at hok hat hfew ⊢
 obtain ⟨ls, ln, le⟩ := L
 dsimp only at hok hat hfew ⊢
 refine zT ?_ ?_ <;> intro h <;> refine zNq ?_
 ·rw [if_pos h]
  (repeat' (first | (refine zDr [[0,1,2,3],[4],[5,6]] ?_; refine zDn ?_) | refine zS ?_ | refine zD ?_ | refine po_both ?_ ?_ | refine pwt_both ?_ ?_ | refine pwt_fork ?_ | refine pwt_lin ?_ | (refine po_test rfl rfl rfl rfl zB ?_ ?_ <;> intro hb <;> first | exact zX | refine zDn ?_) | (refine zT ?_ ?_ <;> intro h <;> first | exact zX | refine zNq ?_)))
  exact ret0 _ (.tup [eIntent int0, .int .i64 ln, .int .i64 le]) rfl rfl (by (refine .inr (.inr (.inr (.inr (.inr ⟨_, _, rfl, rfl, ?_⟩)))); (repeat (first | exact True.intro | refine ⟨.inr (.inl rfl), ?_⟩ | refine ⟨.inr (.inr (.inl ⟨rfl, rfl⟩)), ?_⟩ | refine ⟨.inr (.inr (.inr (.inl ⟨_, _, _, _, _, _, rfl, rfl, rfl, rfl, rfl⟩))), ?_⟩ | refine ⟨.inr (.inr (.inr (.inr (.inl ⟨_, _, rfl, rfl, ?_⟩)))), ?_⟩)))) rfl
 rw [if_neg h]
 (try refine zS ?_)
 refine pw_ghost 2 ?_
 refine pw_ghost 2 ?_
 refine pw_ghost 2 ?_
 refine pw_ghost 10 ?_
 refine pw_ghost 6 ?_
 refine pw_ghost 5 ?_
 refine zNq ?_
 refine pw_for hD (fun a : Nat × TInt × ICaps => [(26, .int .i64 a.1)]) (fun a => jst a.2.1 a.2.2)
  (fun a => iRun (ls.drop a.1) a.2.1 = iRun ls int0 ∧ a.1 ≤ ls.length ∧ ILim a.2.1) (fun a => ls.length - a.1) (0, int0, (0, 0, 0, 0, 0, 0)) ⟨rfl, Nat.zero_le _, int0_lim⟩ 8 rfl (fun _ => rfl)
  ?_ (fun _ => rfl) (fun _ => rfl) zLe ?_
 ·exact ⟨.inl rfl, .inr (.inr ⟨_, _, rfl, rfl, zLe⟩), .inl rfl, .inl rfl, .inl rfl, .inl rfl, .inl rfl, .inl rfl, trivial⟩
 rintro ⟨i, t, c⟩ ⟨hw, hi, ht⟩
 dsimp only at hw hi ht ⊢
 have hstep := @iRun_drop ls i
 have hat := hat i
 have hlx := iLine_lim ht (ls.getD i default).words
 unfold jst boxI
 refine zNq ?_
 (try refine zS ?_)
 refine zT ?_ ?_ <;> intro h1 <;> refine zNq ?_
 ·have hlt : i < ls.length := by omega
  obtain ⟨a1, a2, a3⟩ := hat hlt
  rw [hstep hlt] at hw
  (try refine zS ?_)
  generalize ls.getD i default = li at hw a1 a2 a3 hlx ⊢
  obtain ⟨num, w⟩ := li
  dsimp only at hw a1 a2 a3 hlx
  refine zNq ?_
  (repeat' (first | (refine zDr [[0,1,2,3],[4],[5,6]] ?_; refine zDn ?_) | refine zS ?_ | refine zD ?_ | refine po_both ?_ ?_ | refine pwt_both ?_ ?_ | refine pwt_fork ?_ | refine pwt_lin ?_ | (refine po_test rfl rfl rfl rfl zB ?_ ?_ <;> intro hb <;> first | exact zX | refine zDn ?_) | (refine zT ?_ ?_ <;> intro h <;> first | exact zX | refine zNq ?_)))
  ·have hx : iLine t w = ((pDef t.groups w false).1, { t with groups := (pDef t.groups w false).2 }) := by unfold iLine; (repeat (first | refine (if_pos (by assumption)).trans ?_ | refine (if_neg (by assumption)).trans ?_)); rfl
   rw [hx] at hw hlx
   (refine pl_op rfl (op_callA [1, 2, 3, 4, 5, 6, 7] rfl rfl e46 (by decide) rfl rfl rfl zLe zLes (c_defineG hG t ht.groups c w false a3 (by omega)) (fun r s hq => ?_)); obtain ⟨c', rfl, rfl⟩ := hq; refine ⟨rfl, rfl, ?_⟩; (refine zNp ?_))
   generalize pDef t.groups w false = x at hw hlx ⊢
   dsimp only at hw hlx
   (try refine zS ?_)
   (refine pw_mv 2 10 hD rfl rfl rfl rfl rfl ?_; refine pw_norm rfl ?_)
   (refine pw_mv 3 11 hD rfl rfl rfl rfl rfl ?_; refine pw_norm rfl ?_)
   (refine pw_mv 4 12 hD rfl rfl rfl rfl rfl ?_; refine pw_norm rfl ?_)
   (refine pw_mv 5 13 hD rfl rfl rfl rfl rfl ?_; refine pw_norm rfl ?_)
   (refine pw_mv 6 14 hD rfl rfl rfl rfl rfl ?_; refine pw_norm rfl ?_)
   (refine pw_mv 7 15 hD rfl rfl rfl rfl rfl ?_; refine pw_norm rfl ?_)
   (refine pw_trim 9 hD rfl rfl ?_; refine pw_norm rfl ?_)
   refine zT ?_ ?_ <;> intro h2 <;> refine zNq ?_
   ·rw [if_pos h2] at hw
    rw [← hw]
    (repeat' (first | (refine zDr [[0,1,2,3],[4],[5,6]] ?_; refine zDn ?_) | refine zS ?_ | refine zD ?_ | refine po_both ?_ ?_ | refine pwt_both ?_ ?_ | refine pwt_fork ?_ | refine pwt_lin ?_ | (refine po_test rfl rfl rfl rfl zB ?_ ?_ <;> intro hb <;> first | exact zX | refine zDn ?_) | (refine zT ?_ ?_ <;> intro h <;> first | exact zX | refine zNq ?_)))
    exact ret0 _ (.tup [eIntent int0, .int .i64 num, .int .i64 x.1]) rfl rfl (by (refine .inr (.inr (.inr (.inr (.inr ⟨_, _, rfl, rfl, ?_⟩)))); (repeat (first | exact True.intro | refine ⟨.inr (.inl rfl), ?_⟩ | refine ⟨.inr (.inr (.inl ⟨rfl, rfl⟩)), ?_⟩ | refine ⟨.inr (.inr (.inr (.inl ⟨_, _, _, _, _, _, rfl, rfl, rfl, rfl, rfl⟩))), ?_⟩ | refine ⟨.inr (.inr (.inr (.inr (.inl ⟨_, _, rfl, rfl, ?_⟩)))), ?_⟩)))) rfl
   ·rw [if_neg h2] at hw
    (repeat' (first | refine zS ?_ | (refine zT ?_ ?_ <;> intro h <;> first | exact zX | refine zNq ?_)))
    exact ⟨(i + 1, { t with groups := x.2 }, c'), ⟨hw, by show i + 1 ≤ _; omega, hlx⟩, by show _ - (i + 1) < _ - i; omega, zLe, zLes⟩
  ·have hx : iLine t w = ((pDef t.services w true).1, { t with services := (pDef t.services w true).2 }) := by unfold iLine; (repeat (first | refine (if_pos (by assumption)).trans ?_ | refine (if_neg (by assumption)).trans ?_)); rfl
   rw [hx] at hw hlx
   (refine pl_op rfl (op_callA [1, 2, 3, 4, 5, 6, 7] rfl rfl e46 (by decide) rfl rfl rfl zLe zLes (c_defineS hG t ht.services c w true a3 (by omega)) (fun r s hq => ?_)); obtain ⟨c', rfl, rfl⟩ := hq; refine ⟨rfl, rfl, ?_⟩; (refine zNp ?_))
   generalize pDef t.services w true = x at hw hlx ⊢
   dsimp only at hw hlx
   (try refine zS ?_)
   (refine pw_mv 2 10 hD rfl rfl rfl rfl rfl ?_; refine pw_norm rfl ?_)
   (refine pw_mv 3 11 hD rfl rfl rfl rfl rfl ?_; refine pw_norm rfl ?_)
   (refine pw_mv 4 12 hD rfl rfl rfl rfl rfl ?_; refine pw_norm rfl ?_)
   (refine pw_mv 5 13 hD rfl rfl rfl rfl rfl ?_; refine pw_norm rfl ?_)
   (refine pw_mv 6 14 hD rfl rfl rfl rfl rfl ?_; refine pw_norm rfl ?_)
   (refine pw_mv 7 15 hD rfl rfl rfl rfl rfl ?_; refine pw_norm rfl ?_)
   (refine pw_trim 9 hD rfl rfl ?_; refine pw_norm rfl ?_)
   refine zT ?_ ?_ <;> intro h2 <;> refine zNq ?_
   ·rw [if_pos h2] at hw
    rw [← hw]
    (repeat' (first | (refine zDr [[0,1,2,3],[4],[5,6]] ?_; refine zDn ?_) | refine zS ?_ | refine zD ?_ | refine po_both ?_ ?_ | refine pwt_both ?_ ?_ | refine pwt_fork ?_ | refine pwt_lin ?_ | (refine po_test rfl rfl rfl rfl zB ?_ ?_ <;> intro hb <;> first | exact zX | refine zDn ?_) | (refine zT ?_ ?_ <;> intro h <;> first | exact zX | refine zNq ?_)))
    exact ret0 _ (.tup [eIntent int0, .int .i64 num, .int .i64 x.1]) rfl rfl (by (refine .inr (.inr (.inr (.inr (.inr ⟨_, _, rfl, rfl, ?_⟩)))); (repeat (first | exact True.intro | refine ⟨.inr (.inl rfl), ?_⟩ | refine ⟨.inr (.inr (.inl ⟨rfl, rfl⟩)), ?_⟩ | refine ⟨.inr (.inr (.inr (.inl ⟨_, _, _, _, _, _, rfl, rfl, rfl, rfl, rfl⟩))), ?_⟩ | refine ⟨.inr (.inr (.inr (.inr (.inl ⟨_, _, rfl, rfl, ?_⟩)))), ?_⟩)))) rfl
   ·rw [if_neg h2] at hw
    (repeat' (first | refine zS ?_ | (refine zT ?_ ?_ <;> intro h <;> first | exact zX | refine zNq ?_)))
    exact ⟨(i + 1, { t with services := x.2 }, c'), ⟨hw, by show i + 1 ≤ _; omega, hlx⟩, by show _ - (i + 1) < _ - i; omega, zLe, zLes⟩
  ·have hx : iLine t w = ((pWin t.windows w).1, { t with windows := (pWin t.windows w).2 }) := by unfold iLine; (repeat (first | refine (if_pos (by assumption)).trans ?_ | refine (if_neg (by assumption)).trans ?_)); rfl
   rw [hx] at hw hlx
   (refine pl_op rfl (op_callA [1, 2, 3, 4, 5, 6, 7] rfl rfl e47 (by decide) rfl rfl rfl zLe zLes (c_readWindow hG hD' t ht.windows c w a3 (by omega)) (fun r s hq => ?_)); obtain ⟨c', rfl, rfl⟩ := hq; refine ⟨rfl, rfl, ?_⟩; (refine zNp ?_))
   generalize pWin t.windows w = x at hw hlx ⊢
   dsimp only at hw hlx
   (try refine zS ?_)
   (refine pw_mv 2 10 hD rfl rfl rfl rfl rfl ?_; refine pw_norm rfl ?_)
   (refine pw_mv 3 11 hD rfl rfl rfl rfl rfl ?_; refine pw_norm rfl ?_)
   (refine pw_mv 4 12 hD rfl rfl rfl rfl rfl ?_; refine pw_norm rfl ?_)
   (refine pw_mv 5 13 hD rfl rfl rfl rfl rfl ?_; refine pw_norm rfl ?_)
   (refine pw_mv 6 14 hD rfl rfl rfl rfl rfl ?_; refine pw_norm rfl ?_)
   (refine pw_mv 7 15 hD rfl rfl rfl rfl rfl ?_; refine pw_norm rfl ?_)
   (refine pw_trim 9 hD rfl rfl ?_; refine pw_norm rfl ?_)
   refine zT ?_ ?_ <;> intro h2 <;> refine zNq ?_
   ·rw [if_pos h2] at hw
    rw [← hw]
    (repeat' (first | (refine zDr [[0,1,2,3],[4],[5,6]] ?_; refine zDn ?_) | refine zS ?_ | refine zD ?_ | refine po_both ?_ ?_ | refine pwt_both ?_ ?_ | refine pwt_fork ?_ | refine pwt_lin ?_ | (refine po_test rfl rfl rfl rfl zB ?_ ?_ <;> intro hb <;> first | exact zX | refine zDn ?_) | (refine zT ?_ ?_ <;> intro h <;> first | exact zX | refine zNq ?_)))
    exact ret0 _ (.tup [eIntent int0, .int .i64 num, .int .i64 x.1]) rfl rfl (by (refine .inr (.inr (.inr (.inr (.inr ⟨_, _, rfl, rfl, ?_⟩)))); (repeat (first | exact True.intro | refine ⟨.inr (.inl rfl), ?_⟩ | refine ⟨.inr (.inr (.inl ⟨rfl, rfl⟩)), ?_⟩ | refine ⟨.inr (.inr (.inr (.inl ⟨_, _, _, _, _, _, rfl, rfl, rfl, rfl, rfl⟩))), ?_⟩ | refine ⟨.inr (.inr (.inr (.inr (.inl ⟨_, _, rfl, rfl, ?_⟩)))), ?_⟩)))) rfl
   ·rw [if_neg h2] at hw
    (repeat' (first | refine zS ?_ | (refine zT ?_ ?_ <;> intro h <;> first | exact zX | refine zNq ?_)))
    exact ⟨(i + 1, { t with windows := x.2 }, c'), ⟨hw, by show i + 1 ≤ _; omega, hlx⟩, by show _ - (i + 1) < _ - i; omega, zLe, zLes⟩
  ·have hx : iLine t w = ((pStm t.stms w).1, { t with stms := (pStm t.stms w).2 }) := by unfold iLine; (repeat (first | refine (if_pos (by assumption)).trans ?_ | refine (if_neg (by assumption)).trans ?_)); rfl
   rw [hx] at hw hlx
   (refine pl_op rfl (op_callA [1, 2, 3, 4, 5, 6, 7] rfl rfl e48 (by decide) rfl rfl rfl zLe zLes (c_readStatement t ht.stms c w a3 (by omega)) (fun r s hq => ?_)); obtain ⟨c', rfl, rfl⟩ := hq; refine ⟨rfl, rfl, ?_⟩; (refine zNp ?_))
   generalize pStm t.stms w = x at hw hlx ⊢
   dsimp only at hw hlx
   (try refine zS ?_)
   (refine pw_mv 2 10 hD rfl rfl rfl rfl rfl ?_; refine pw_norm rfl ?_)
   (refine pw_mv 3 11 hD rfl rfl rfl rfl rfl ?_; refine pw_norm rfl ?_)
   (refine pw_mv 4 12 hD rfl rfl rfl rfl rfl ?_; refine pw_norm rfl ?_)
   (refine pw_mv 5 13 hD rfl rfl rfl rfl rfl ?_; refine pw_norm rfl ?_)
   (refine pw_mv 6 14 hD rfl rfl rfl rfl rfl ?_; refine pw_norm rfl ?_)
   (refine pw_mv 7 15 hD rfl rfl rfl rfl rfl ?_; refine pw_norm rfl ?_)
   (refine pw_trim 9 hD rfl rfl ?_; refine pw_norm rfl ?_)
   refine zT ?_ ?_ <;> intro h2 <;> refine zNq ?_
   ·rw [if_pos h2] at hw
    rw [← hw]
    (repeat' (first | (refine zDr [[0,1,2,3],[4],[5,6]] ?_; refine zDn ?_) | refine zS ?_ | refine zD ?_ | refine po_both ?_ ?_ | refine pwt_both ?_ ?_ | refine pwt_fork ?_ | refine pwt_lin ?_ | (refine po_test rfl rfl rfl rfl zB ?_ ?_ <;> intro hb <;> first | exact zX | refine zDn ?_) | (refine zT ?_ ?_ <;> intro h <;> first | exact zX | refine zNq ?_)))
    exact ret0 _ (.tup [eIntent int0, .int .i64 num, .int .i64 x.1]) rfl rfl (by (refine .inr (.inr (.inr (.inr (.inr ⟨_, _, rfl, rfl, ?_⟩)))); (repeat (first | exact True.intro | refine ⟨.inr (.inl rfl), ?_⟩ | refine ⟨.inr (.inr (.inl ⟨rfl, rfl⟩)), ?_⟩ | refine ⟨.inr (.inr (.inr (.inl ⟨_, _, _, _, _, _, rfl, rfl, rfl, rfl, rfl⟩))), ?_⟩ | refine ⟨.inr (.inr (.inr (.inr (.inl ⟨_, _, rfl, rfl, ?_⟩)))), ?_⟩)))) rfl
   ·rw [if_neg h2] at hw
    (repeat' (first | refine zS ?_ | (refine zT ?_ ?_ <;> intro h <;> first | exact zX | refine zNq ?_)))
    exact ⟨(i + 1, { t with stms := x.2 }, c'), ⟨hw, by show i + 1 ≤ _; omega, hlx⟩, by show _ - (i + 1) < _ - i; omega, zLe, zLes⟩
  ·have hx : iLine t w = ((pStm t.stms w).1, { t with stms := (pStm t.stms w).2 }) := by unfold iLine; (repeat (first | refine (if_pos (by assumption)).trans ?_ | refine (if_neg (by assumption)).trans ?_)); rfl
   rw [hx] at hw hlx
   (refine pl_op rfl (op_callA [1, 2, 3, 4, 5, 6, 7] rfl rfl e48 (by decide) rfl rfl rfl zLe zLes (c_readStatement t ht.stms c w a3 (by omega)) (fun r s hq => ?_)); obtain ⟨c', rfl, rfl⟩ := hq; refine ⟨rfl, rfl, ?_⟩; (refine zNp ?_))
   generalize pStm t.stms w = x at hw hlx ⊢
   dsimp only at hw hlx
   (try refine zS ?_)
   (refine pw_mv 2 10 hD rfl rfl rfl rfl rfl ?_; refine pw_norm rfl ?_)
   (refine pw_mv 3 11 hD rfl rfl rfl rfl rfl ?_; refine pw_norm rfl ?_)
   (refine pw_mv 4 12 hD rfl rfl rfl rfl rfl ?_; refine pw_norm rfl ?_)
   (refine pw_mv 5 13 hD rfl rfl rfl rfl rfl ?_; refine pw_norm rfl ?_)
   (refine pw_mv 6 14 hD rfl rfl rfl rfl rfl ?_; refine pw_norm rfl ?_)
   (refine pw_mv 7 15 hD rfl rfl rfl rfl rfl ?_; refine pw_norm rfl ?_)
   (refine pw_trim 9 hD rfl rfl ?_; refine pw_norm rfl ?_)
   refine zT ?_ ?_ <;> intro h2 <;> refine zNq ?_
   ·rw [if_pos h2] at hw
    rw [← hw]
    (repeat' (first | (refine zDr [[0,1,2,3],[4],[5,6]] ?_; refine zDn ?_) | refine zS ?_ | refine zD ?_ | refine po_both ?_ ?_ | refine pwt_both ?_ ?_ | refine pwt_fork ?_ | refine pwt_lin ?_ | (refine po_test rfl rfl rfl rfl zB ?_ ?_ <;> intro hb <;> first | exact zX | refine zDn ?_) | (refine zT ?_ ?_ <;> intro h <;> first | exact zX | refine zNq ?_)))
    exact ret0 _ (.tup [eIntent int0, .int .i64 num, .int .i64 x.1]) rfl rfl (by (refine .inr (.inr (.inr (.inr (.inr ⟨_, _, rfl, rfl, ?_⟩)))); (repeat (first | exact True.intro | refine ⟨.inr (.inl rfl), ?_⟩ | refine ⟨.inr (.inr (.inl ⟨rfl, rfl⟩)), ?_⟩ | refine ⟨.inr (.inr (.inr (.inl ⟨_, _, _, _, _, _, rfl, rfl, rfl, rfl, rfl⟩))), ?_⟩ | refine ⟨.inr (.inr (.inr (.inr (.inl ⟨_, _, rfl, rfl, ?_⟩)))), ?_⟩)))) rfl
   ·rw [if_neg h2] at hw
    (repeat' (first | refine zS ?_ | (refine zT ?_ ?_ <;> intro h <;> first | exact zX | refine zNq ?_)))
    exact ⟨(i + 1, { t with stms := x.2 }, c'), ⟨hw, by show i + 1 ≤ _; omega, hlx⟩, by show _ - (i + 1) < _ - i; omega, zLe, zLes⟩
  ·have hx : iLine t w = ((pPub t.pubs w).1, { t with pubs := (pPub t.pubs w).2 }) := by unfold iLine; (repeat (first | refine (if_pos (by assumption)).trans ?_ | refine (if_neg (by assumption)).trans ?_)); rfl
   rw [hx] at hw hlx
   (refine pl_op rfl (op_callA [1, 2, 3, 4, 5, 6, 7] rfl rfl e49 (by decide) rfl rfl rfl zLe zLes (c_publish hG t ht.pubs c w a3 (by omega)) (fun r s hq => ?_)); obtain ⟨c', rfl, rfl⟩ := hq; refine ⟨rfl, rfl, ?_⟩; (refine zNp ?_))
   generalize pPub t.pubs w = x at hw hlx ⊢
   dsimp only at hw hlx
   (try refine zS ?_)
   (refine pw_mv 2 10 hD rfl rfl rfl rfl rfl ?_; refine pw_norm rfl ?_)
   (refine pw_mv 3 11 hD rfl rfl rfl rfl rfl ?_; refine pw_norm rfl ?_)
   (refine pw_mv 4 12 hD rfl rfl rfl rfl rfl ?_; refine pw_norm rfl ?_)
   (refine pw_mv 5 13 hD rfl rfl rfl rfl rfl ?_; refine pw_norm rfl ?_)
   (refine pw_mv 6 14 hD rfl rfl rfl rfl rfl ?_; refine pw_norm rfl ?_)
   (refine pw_mv 7 15 hD rfl rfl rfl rfl rfl ?_; refine pw_norm rfl ?_)
   (refine pw_trim 9 hD rfl rfl ?_; refine pw_norm rfl ?_)
   refine zT ?_ ?_ <;> intro h2 <;> refine zNq ?_
   ·rw [if_pos h2] at hw
    rw [← hw]
    (repeat' (first | (refine zDr [[0,1,2,3],[4],[5,6]] ?_; refine zDn ?_) | refine zS ?_ | refine zD ?_ | refine po_both ?_ ?_ | refine pwt_both ?_ ?_ | refine pwt_fork ?_ | refine pwt_lin ?_ | (refine po_test rfl rfl rfl rfl zB ?_ ?_ <;> intro hb <;> first | exact zX | refine zDn ?_) | (refine zT ?_ ?_ <;> intro h <;> first | exact zX | refine zNq ?_)))
    exact ret0 _ (.tup [eIntent int0, .int .i64 num, .int .i64 x.1]) rfl rfl (by (refine .inr (.inr (.inr (.inr (.inr ⟨_, _, rfl, rfl, ?_⟩)))); (repeat (first | exact True.intro | refine ⟨.inr (.inl rfl), ?_⟩ | refine ⟨.inr (.inr (.inl ⟨rfl, rfl⟩)), ?_⟩ | refine ⟨.inr (.inr (.inr (.inl ⟨_, _, _, _, _, _, rfl, rfl, rfl, rfl, rfl⟩))), ?_⟩ | refine ⟨.inr (.inr (.inr (.inr (.inl ⟨_, _, rfl, rfl, ?_⟩)))), ?_⟩)))) rfl
   ·rw [if_neg h2] at hw
    (repeat' (first | refine zS ?_ | (refine zT ?_ ?_ <;> intro h <;> first | exact zX | refine zNq ?_)))
    exact ⟨(i + 1, { t with pubs := x.2 }, c'), ⟨hw, by show i + 1 ≤ _; omega, hlx⟩, by show _ - (i + 1) < _ - i; omega, zLe, zLes⟩
  ·have hx : iLine t w = ((pHid t.hids w).1, { t with hids := (pHid t.hids w).2 }) := by unfold iLine; (repeat (first | refine (if_pos (by assumption)).trans ?_ | refine (if_neg (by assumption)).trans ?_)); rfl
   rw [hx] at hw hlx
   (refine pl_op rfl (op_callA [1, 2, 3, 4, 5, 6, 7] rfl rfl e50 (by decide) rfl rfl rfl zLe zLes (c_hide hG t ht.hids c w a3 (by omega)) (fun r s hq => ?_)); obtain ⟨c', rfl, rfl⟩ := hq; refine ⟨rfl, rfl, ?_⟩; (refine zNp ?_))
   generalize pHid t.hids w = x at hw hlx ⊢
   dsimp only at hw hlx
   (try refine zS ?_)
   (refine pw_mv 2 10 hD rfl rfl rfl rfl rfl ?_; refine pw_norm rfl ?_)
   (refine pw_mv 3 11 hD rfl rfl rfl rfl rfl ?_; refine pw_norm rfl ?_)
   (refine pw_mv 4 12 hD rfl rfl rfl rfl rfl ?_; refine pw_norm rfl ?_)
   (refine pw_mv 5 13 hD rfl rfl rfl rfl rfl ?_; refine pw_norm rfl ?_)
   (refine pw_mv 6 14 hD rfl rfl rfl rfl rfl ?_; refine pw_norm rfl ?_)
   (refine pw_mv 7 15 hD rfl rfl rfl rfl rfl ?_; refine pw_norm rfl ?_)
   (refine pw_trim 9 hD rfl rfl ?_; refine pw_norm rfl ?_)
   refine zT ?_ ?_ <;> intro h2 <;> refine zNq ?_
   ·rw [if_pos h2] at hw
    rw [← hw]
    (repeat' (first | (refine zDr [[0,1,2,3],[4],[5,6]] ?_; refine zDn ?_) | refine zS ?_ | refine zD ?_ | refine po_both ?_ ?_ | refine pwt_both ?_ ?_ | refine pwt_fork ?_ | refine pwt_lin ?_ | (refine po_test rfl rfl rfl rfl zB ?_ ?_ <;> intro hb <;> first | exact zX | refine zDn ?_) | (refine zT ?_ ?_ <;> intro h <;> first | exact zX | refine zNq ?_)))
    exact ret0 _ (.tup [eIntent int0, .int .i64 num, .int .i64 x.1]) rfl rfl (by (refine .inr (.inr (.inr (.inr (.inr ⟨_, _, rfl, rfl, ?_⟩)))); (repeat (first | exact True.intro | refine ⟨.inr (.inl rfl), ?_⟩ | refine ⟨.inr (.inr (.inl ⟨rfl, rfl⟩)), ?_⟩ | refine ⟨.inr (.inr (.inr (.inl ⟨_, _, _, _, _, _, rfl, rfl, rfl, rfl, rfl⟩))), ?_⟩ | refine ⟨.inr (.inr (.inr (.inr (.inl ⟨_, _, rfl, rfl, ?_⟩)))), ?_⟩)))) rfl
   ·rw [if_neg h2] at hw
    (repeat' (first | refine zS ?_ | (refine zT ?_ ?_ <;> intro h <;> first | exact zX | refine zNq ?_)))
    exact ⟨(i + 1, { t with hids := x.2 }, c'), ⟨hw, by show i + 1 ≤ _; omega, hlx⟩, by show _ - (i + 1) < _ - i; omega, zLe, zLes⟩
  ·have hx : iLine t w = (4, t) := by unfold iLine; (repeat (first | refine (if_pos (by assumption)).trans ?_ | refine (if_neg (by assumption)).trans ?_)); rfl
   rw [hx] at hw
   have hw' : (int0, num, (4 : Int)) = iRun ls int0 := hw
   rw [← hw']
   exact ret0 _ (.tup [eIntent int0, .int .i64 num, .int .i64 4]) rfl rfl (by (refine .inr (.inr (.inr (.inr (.inr ⟨_, _, rfl, rfl, ?_⟩)))); (repeat (first | exact True.intro | refine ⟨.inr (.inl rfl), ?_⟩ | refine ⟨.inr (.inr (.inl ⟨rfl, rfl⟩)), ?_⟩ | refine ⟨.inr (.inr (.inr (.inl ⟨_, _, _, _, _, _, rfl, rfl, rfl, rfl, rfl⟩))), ?_⟩ | refine ⟨.inr (.inr (.inr (.inr (.inl ⟨_, _, rfl, rfl, ?_⟩)))), ?_⟩)))) rfl
 ·have hie : i = ls.length := by omega
  subst hie
  rw [List.drop_length, iRun] at hw
  rw [← hw]
  (repeat' (first | refine zS ?_ | (refine zT ?_ ?_ <;> intro h <;> first | exact zX | refine zNq ?_)))
  exact ret0 _ (.tup [eIntent t, .int .i64 0, .int .i64 0]) rfl rfl (by (refine .inr (.inr (.inr (.inr (.inr ⟨_, _, rfl, rfl, ?_⟩)))); (repeat (first | exact True.intro | refine ⟨.inr (.inl rfl), ?_⟩ | refine ⟨.inr (.inr (.inl ⟨rfl, rfl⟩)), ?_⟩ | refine ⟨.inr (.inr (.inr (.inl ⟨_, _, _, _, _, _, rfl, rfl, rfl, rfl, rfl⟩))), ?_⟩ | refine ⟨.inr (.inr (.inr (.inr (.inl ⟨_, _, rfl, rfl, ?_⟩)))), ?_⟩)))) rfl
end
section
variable {Gl : Glob}
attribute [local irreducible] PW PWL OpP PCalls PWO vname vItem vStm wFormat PWT bothT
instance iValidItem' (x : TItem) (sv : Bool) : ConF Tryz.prog Gl 117 [.agg [.int .i64 x.kind, .str x.name, .int .u32 x.pfx.addr, .int .i64 x.pfx.bits, .int .i64 x.proto, .int .u32 x.ports.lo, .int .u32 x.ports.hi], .bool sv] True (.bool (vItem x sv)) := ⟨e117, fun _ => c_validItem x sv⟩
theorem c_validDefs (l : List TDef) (sv : Bool) (hl : l.length < 1000000) (hb : ∀ d ∈ l, d.items.length < 1000000) : PFun Tryz.prog Gl 67 [.sl (l.map eDef), .bool sv] fun r => r = .bool (vDefs l sv) := by
 (refine PFun.of hT Tryz.func67 rfl fun B hD => ?_; refine pw_norm rfl ?_)
 have hat : ∀ i, (l.getD i default).items.length < 1000000 := fun i => by
  rw [List.getD]
  cases h : l[i]? with
  | none => exact (by decide : (0 : Nat) < 1000000)
  | some x => exact hb x (List.mem_of_getElem? h)
 have hsm : Small l := by unfold Small; omega
 unfold vDefs
 (repeat' (first | refine zS ?_ | refine zq5 ?_ | refine zq6 ?_ | (refine zT ?_ ?_ <;> intro h <;> first | exact zX | refine zNq ?_)))
 refine pw_for hD (fun i : Nat => [(11, .int .i64 i)]) (fun _ => []) (fun i => i ≤ l.length ∧ ∀ j, j < i → dOk l sv j = true) (fun i => l.length - i) 0 ⟨Nat.zero_le _, fun j h => by omega⟩ 0 rfl (fun _ => rfl) zLes (fun _ => rfl) (fun _ => rfl) zLe ?_
 rintro i ⟨hi, hc⟩
 have hat := hat i
 (repeat' (first | refine zS ?_ | refine zq5 ?_ | refine zq6 ?_ | (refine zT ?_ ?_ <;> intro h <;> first | exact zX | refine zNq ?_)))
 ·have e : dOk l sv i = false := by
   unfold dOk
   rw [show dHead l i = false from by
    rw [Bool.eq_false_iff]
    intro q
    have q := (dHead_iff l i).1 q
    rcases h with ((h | h) | h) | h
    ·exact q (.inl (.inl (.inl h)))
    ·exact q (.inl (.inr (by omega)))
    ·exact q (.inr h)
    ·exact q (.inl (.inl (.inr h))), Bool.false_and]
  rw [dOk_fail (by omega) e, Bool.and_false]
  exact ret2 _ rfl rfl rfl
 ·have hh : dHead l i = true := (dHead_iff l i).2 (by
   rintro (((q | q) | q) | q)
   ·exact h (.inl (.inl (.inl q)))
   ·exact h (.inr q)
   ·exact h (.inl (.inl (.inr (by omega))))
   ·exact h (.inl (.inr q)))
  refine pw_for hD (fun k : Nat => [(43, .int .i64 k)]) (fun _ => [.box [.str (l.getD i default).name, .sl ((l.getD i default).items.map eItem)]]) (fun k => k ≤ (l.getD i default).items.length ∧ ∀ j, j < k → vItem ((l.getD i default).items.getD j default) sv = true) (fun k => (l.getD i default).items.length - k) 0 ⟨Nat.zero_le _, fun j h => by omega⟩ 1 rfl (fun _ => rfl) zLes (fun _ => rfl) (fun _ => rfl) zLe ?_
  rintro k ⟨hk, hkc⟩
  (repeat' (first | refine zS ?_ | refine zq5 ?_ | refine zq6 ?_ | (refine zT ?_ ?_ <;> intro h <;> first | exact zX | refine zNq ?_)))
  ·have e : dOk l sv i = false := by
    unfold dOk
    have : ((l.getD i default).items.all fun x => vItem x sv) = false := by
     rw [List.all_eq_false]
     exact ⟨_, getD_memD (by omega), h⟩
    rw [this, Bool.and_false]
   rw [dOk_fail (by omega) e, Bool.and_false]
   exact ret2 _ rfl rfl rfl
  ·refine ⟨k + 1, ⟨by omega, fun j hj => ?_⟩, by omega, zLe, zLes⟩
   rcases Nat.lt_succ_iff_lt_or_eq.1 hj with hj | rfl
   ·exact hkc j hj
   ·exact Decidable.not_not.1 h
  ·refine ⟨i + 1, ⟨by omega, fun j hj => ?_⟩, by omega, zLe, zLes⟩
   rcases Nat.lt_succ_iff_lt_or_eq.1 hj with hj | rfl
   ·exact hc j hj
   ·unfold dOk
    rw [hh, Bool.true_and]
    refine List.all_eq_true.2 fun x hx => ?_
    obtain ⟨n, hn⟩ := List.mem_iff_getElem?.1 hx
    have := hkc n (by have := (List.getElem?_eq_some_iff.1 hn).1; omega)
    rwa [List.getD, hn] at this
 ·rw [show (List.range l.length).all (dOk l sv) = true from List.all_eq_true.2 fun j hj => hc j (by have := List.mem_range.1 hj; omega), Bool.and_true]
  refine ret2 _ rfl ?_ rfl
  congr 1
  rw [decide_eq_decide]
  omega
theorem c_valid1 (n : Int) : PFun Tryz.prog Gl 70 [.int .i64 n] fun r => r = .bool (decide (n ≥ 0) && decide (n ≤ 65535)) := by
 (refine PFun.of hT Tryz.func70 rfl fun B hD => ?_; refine pw_norm rfl ?_)
 (repeat' (first | refine zS ?_ | refine zq5 ?_ | refine zq6 ?_ | (refine zT ?_ ?_ <;> intro h <;> first | exact zX | refine zNq ?_)))
 exact ret2 _ rfl rfl rfl
instance iValid1 (n : Int) : ConF Tryz.prog Gl 70 [.int .i64 n] True (.bool (decide (n ≥ 0) && decide (n ≤ 65535))) := ⟨e70, fun _ => c_valid1 n⟩
theorem c_valid2 (s : TStm) : PFun Tryz.prog Gl 72 [eStm s] fun r => r = .bool (!vStm s) := by
 (refine PFun.of hT Tryz.func72 rfl fun B hD => ?_; refine pw_norm rfl ?_)
 (repeat' (first | refine zS ?_ | (refine zT ?_ ?_ <;> intro h <;> first | exact zX | refine zNq ?_)))
 (refine pl_op rfl (op_fun (c_validStm s) rfl rfl e73 zLe rfl (fun r hr => ?_)); subst hr; refine ⟨rfl, ?_⟩; (refine zNp ?_))
 (repeat' (first | refine zS ?_ | (refine zT ?_ ?_ <;> intro h <;> first | exact zX | refine zNq ?_)))
 exact ret2 _ rfl rfl rfl
theorem c_idxStm (l : List TStm) (hl : l.length < 1000000) : PFun Tryz.prog Gl 120 [.sl (l.map eStm), .fn 72 []] fun r => r = .int .i64 (firstAt (fun s => !vStm s) l) := by
 (refine PFun.of hT Tryz.func120 rfl fun B hD => ?_; refine pw_norm rfl ?_)
 (repeat' (first | refine zS ?_ | (refine zT ?_ ?_ <;> intro h <;> first | exact zX | refine zNq ?_)))
 refine pw_for hD (fun i : Nat => [(8, .int .i64 i)]) (fun _ => []) (fun i => i ≤ l.length ∧ ∀ (j : Nat) d, j < i → l[j]? = some d → (!vStm d) = false) (fun i => l.length - i) 0 ⟨Nat.zero_le _, fun j d h => by omega⟩ 0 rfl (fun _ => rfl) zLes (fun _ => rfl) (fun _ => rfl) zLe ?_
 rintro i ⟨hi, hc⟩
 (repeat' (first | refine zS ?_ | (refine zT ?_ ?_ <;> intro h <;> first | exact zX | refine zNq ?_)))
 ·(refine pl_op rfl (op_fun (c_valid2 (l.getD i default)) rfl rfl e72 zLe rfl (fun r hr => ?_)); subst hr; refine ⟨rfl, ?_⟩; (refine zNp ?_))
  have hlt : i < l.length := by omega
  (repeat' (first | refine zS ?_ | (refine zT ?_ ?_ <;> intro h <;> first | exact zX | refine zNq ?_)))
  ·rw [firstAt_hit hlt (p := fun s => !vStm s) (by rw [List.getD, List.getElem?_eq_getElem hlt] at h; simpa using h) hc]
   exact ret2 _ rfl rfl rfl
  ·refine ⟨i + 1, ⟨by omega, fun j d hj hd => ?_⟩, by omega, zLe, zLes⟩
   rcases Nat.lt_succ_iff_lt_or_eq.1 hj with hj | rfl
   ·exact hc j d hj hd
   ·rw [List.getD, hd] at h; simpa using h
 ·rw [firstAt_miss fun j x hj => hc j x (by have := (List.getElem?_eq_some_iff.1 hj).1; omega) hj]
  exact ret2 _ rfl rfl rfl
theorem firstAt_all (l : List TStm) : (!decide (firstAt (fun s => !vStm s) l ≥ 0)) = l.all vStm := by
 unfold firstAt
 cases h : l.findIdx? fun s => !vStm s with
 | none =>
  rw [List.findIdx?_eq_none_iff] at h
  rw [List.all_eq_true.2 fun x hx => by simpa using h x hx]
  rfl
 | some k =>
  rw [List.findIdx?_eq_some_iff_getElem] at h
  obtain ⟨hk, h1, _⟩ := h
  rw [List.all_eq_false.2 ⟨l[k], List.getElem_mem hk, by simpa using h1⟩]
  show (!decide ((k : Int) ≥ 0)) = false
  rw [decide_eq_true (by omega)]
  rfl
instance iIdxStm (l : List TStm) : ConF Tryz.prog Gl 120 [.sl (l.map eStm), .fn 72 []] (l.length < 1000000) (.int .i64 (firstAt (fun s => !vStm s) l)) := ⟨e120, fun h => c_idxStm l h⟩
theorem c_hasStm (l : List TStm) (hl : l.length < 1000000) : PFun Tryz.prog Gl 71 [.sl (l.map eStm), .fn 72 []] fun r => r = .bool (decide (firstAt (fun s => !vStm s) l ≥ 0)) := by
 (refine PFun.of hT Tryz.func71 rfl fun B hD => ?_; refine pw_norm rfl ?_)
 (repeat' (first | refine zS ?_ | (refine zT ?_ ?_ <;> intro h <;> first | exact zX | refine zNq ?_)))
 exact ret2 _ rfl rfl rfl
instance iHasStm (l : List TStm) : ConF Tryz.prog Gl 71 [.sl (l.map eStm), .fn 72 []] (l.length < 1000000) (.bool (decide (firstAt (fun s => !vStm s) l ≥ 0))) := ⟨e71, fun h => c_hasStm l h⟩

end
end Go.Proofs.YtkaobkjcjodffaaGreatDoor