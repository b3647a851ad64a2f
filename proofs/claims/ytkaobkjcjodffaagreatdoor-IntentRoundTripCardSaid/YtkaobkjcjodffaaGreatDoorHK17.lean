/-
 The texts of the sanity check, reckoned by the kernel.
-/
import Derived.Test.YtkaobkjcjodffaaGreatDoorHK14
import Derived.Test.YtkaobkjcjodffaaGreatDoorHK9
import Derived.Test.YtkaobkjcjodffaaGreatDoorHK16
import Derived.Test.YtkaobkjcjodffaaGreatDoorHK37
import Derived.Test.YtkaobkjcjodffaaGreatDoorHK12
import Derived.ChangeKeysEq
import Derived.Test.YtkaobkjcjodffaaGreatDoorGPwCopy
import Derived.Test.YtkaobkjcjodffaaGreatDoorGPwApX
import Derived.Test.YtkaobkjcjodffaaGreatDoorHB8
import Derived.Test.YtkaobkjcjodffaaGreatDoorHK38
import Derived.KernelRfl
import Derived.Test.YtkaobkjcjodffaaGreatDoorHM12
import Derived.Test.YtkaobkjcjodffaaGreatDoorHM13
import Derived.Test.YtkaobkjcjodffaaGreatDoorHM16
set_option maxHeartbeats 20000000
set_option maxRecDepth 100000
namespace Go.Proofs.YtkaobkjcjodffaaGreatDoor
open Go Go.Pw
section
variable {Gl : Glob}
attribute [local irreducible] PW PWL OpP PCalls PWO pDef pWin pStm pPub pHid PWT bothT
instance (s : Str) : ConF Tryz.prog Gl 45 [.str s] (GM Gl) (.tup [.sl ((lines s).1.map eLine), .int .i64 (lines s).2.1, .int .i64 (lines s).2.2]) := ⟨e45, fun h => c60 h s⟩
def boxI : PObj := .box [.nilsl, .nilsl, .nilsl, .nilsl, .nilsl, .nilsl]
def jst (i : TInt) (c : ICaps) : List PObj := [boxI, .box [.msl 2 2 0 (i.groups.map eDef).length c.1, .msl 2 3 0 (i.services.map eDef).length c.2.1, .msl 2 4 0 (i.windows.map eWin).length c.2.2.1, .msl 10 5 0 (i.stms.map eStm).length c.2.2.2.1, .msl 6 6 0 (i.pubs.map ePub).length c.2.2.2.2.1, .msl 5 7 0 (i.hids.map eHid).length c.2.2.2.2.2],
 .arr 2 (i.groups.map eDef) c.1, .arr 2 (i.services.map eDef) c.2.1, .arr 2 (i.windows.map eWin) c.2.2.1, .arr 10 (i.stms.map eStm) c.2.2.2.1, .arr 6 (i.pubs.map ePub) c.2.2.2.2.1, .arr 5 (i.hids.map eHid) c.2.2.2.2.2]
theorem c_iParse (hG : GM Gl) (hD' : GD Gl) (s : Str) : PFun Tryz.prog Gl 19 [.str s] fun r => r = .tup [eIntent (iParse s).1, .int .i64 (iParse s).2.1, .int .i64 (iParse s).2.2] := by
 have hok := lines_ok s
 have hat := fun k => @line_at s _ rfl k
 (refine PFun.of hT Tryz.func19 rfl fun B hD => ?_; refine pw_norm rfl ?_)
 unfold iParse
 (try refine zS ?_)
 have hfew := hok.few
 generalize lines s = L at hok hat hfew ⊢
 obtain ⟨ls, ln, le⟩ := L
 dsimp only at hok hat hfew ⊢
 refine zT ?_ ?_ <;> intro h <;> refine zNq ?_
 ·rw [if_pos h]
  (repeat' (first | (refine zDr [[0,1,2,3],[4],[5,6]] ?_; refine zDn ?_) | refine zS ?_ | refine zD ?_ | refine po_both ?_ ?_ | refine pwt_both ?_ ?_ | refine pwt_fork ?_ | refine pwt_lin ?_ | (refine po_test rfl rfl rfl rfl zB ?_ ?_ <;> intro hb <;> first | exact zX | refine zDn ?_) | (refine zT ?_ ?_ <;> intro h <;> first | exact zX | refine zNq ?_)))
  exact ret0 _ (.tup [eIntent int0, .int .i64 ln, .int .i64 le]) rfl rfl (by (refine .inr (.inr (.inr (.inr (.inr ⟨_, _, rfl, rfl, ?_⟩)))); (repeat (first | exact True.intro | refine ⟨.inr (.inl rfl), ?_⟩ | refine ⟨.inr (.inr (.inl ⟨rfl, rfl⟩)), ?_⟩ | refine ⟨.inr (.inr (.inr (.inl ⟨_, _, _, _, _, _, rfl, rfl, rfl, rfl, rfl⟩))), ?_⟩ | refine ⟨.inr (.inr (.inr (.inr (.inl ⟨_, _, rfl, rfl, ?_⟩)))), ?_⟩)))) rfl
 rw [if_neg h]
 (try refine zS ?_)
 refine pw_ghost 2 ?_
 refine pw_ghost 2 ?_
 refine pw_ghost 2 ?_
 refine pw_ghost 10 ?_
 refine pw_ghost 6 ?_
 refine pw_ghost 5 ?_
 refine zNq ?_
 refine pw_for hD (fun a : Nat × TInt × ICaps => [(26, .int .i64 a.1)]) (fun a => jst a.2.1 a.2.2)
  (fun a => iRun (ls.drop a.1) a.2.1 = iRun ls int0 ∧ a.1 ≤ ls.length ∧ ILim a.2.1) (fun a => ls.length - a.1) (0, int0, (0, 0, 0, 0, 0, 0)) ⟨rfl, Nat.zero_le _, int0_lim⟩ 8 rfl (fun _ => rfl)
  ?_ (fun _ => rfl) (fun _ => rfl) zLe ?_
 ·exact ⟨.inl rfl, .inr (.inr ⟨_, _, rfl, rfl, zLe⟩), .inl rfl, .inl rfl, .inl rfl, .inl rfl, .inl rfl, .inl rfl, trivial⟩
 rintro ⟨i, t, c⟩ ⟨hw, hi, ht⟩
 dsimp only at hw hi ht ⊢
 have hstep := @iRun_drop ls i
 have hat := hat i
 have hlx := iLine_lim ht (ls.getD i default).words
 unfold jst boxI
 refine zNq ?_
 (try refine zS ?_)
 refine zT ?_ ?_ <;> intro h1 <;> refine zNq ?_
 ·have hlt : i < ls.length := by omega
  obtain ⟨a1, a2, a3⟩ := hat hlt
  rw [hstep hlt] at hw
  (try refine zS ?_)
  generalize ls.getD i default = li at hw a1 a2 a3 hlx ⊢
  obtain ⟨num, w⟩ := li
  dsimp only at hw a1 a2 a3 hlx
  refine zNq ?_
  (repeat' (first | (refine zDr [[0,1,2,3],[4],[5,6]] ?_; refine zDn ?_) | refine zS ?_ | refine zD ?_ | refine po_both ?_ ?_ | refine pwt_both ?_ ?_ | refine pwt_fork ?_ | refine pwt_lin ?_ | (refine po_test rfl rfl rfl rfl zB ?_ ?_ <;> intro hb <;> first | exact zX | refine zDn ?_) | (refine zT ?_ ?_ <;> intro h <;> first | exact zX | refine zNq ?_)))
  ·have hx : iLine t w = ((pDef t.groups w false).1, { t with groups := (pDef t.groups w false).2 }) := by unfold iLine; (repeat (first | refine (if_pos (by assumption)).trans ?_ | refine (if_neg (by assumption)).trans ?_)); rfl
   rw [hx] at hw hlx
   (refine pl_op rfl (op_callA [1, 2, 3, 4, 5, 6, 7] rfl rfl e46 (by decide) rfl rfl rfl zLe zLes (c_defineG hG t ht.groups c w false a3 (by omega)) (fun r s hq => ?_)); obtain ⟨c', rfl, rfl⟩ := hq; refine ⟨rfl, rfl, ?_⟩; (refine zNp ?_))
   generalize pDef t.groups w false = x at hw hlx ⊢
   dsimp only at hw hlx
   (try refine zS ?_)
   (refine pw_mv 2 10 hD rfl rfl rfl rfl rfl ?_; refine pw_norm rfl ?_)
   (refine pw_mv 3 11 hD rfl rfl rfl rfl rfl ?_; refine pw_norm rfl ?_)
   (refine pw_mv 4 12 hD rfl rfl rfl rfl rfl ?_; refine pw_norm rfl ?_)
   (refine pw_mv 5 13 hD rfl rfl rfl rfl rfl ?_; refine pw_norm rfl ?_)
   (refine pw_mv 6 14 hD rfl rfl rfl rfl rfl ?_; refine pw_norm rfl ?_)
   (refine pw_mv 7 15 hD rfl rfl rfl rfl rfl ?_; refine pw_norm rfl ?_)
   (refine pw_trim 9 hD rfl rfl ?_; refine pw_norm rfl ?_)
   refine zT ?_ ?_ <;> intro h2 <;> refine zNq ?_
   ·rw [if_pos h2] at hw
    rw [← hw]
    (repeat' (first | (refine zDr [[0,1,2,3],[4],[5,6]] ?_; refine zDn ?_) | refine zS ?_ | refine zD ?_ | refine po_both ?_ ?_ | refine pwt_both ?_ ?_ | refine pwt_fork ?_ | refine pwt_lin ?_ | (refine po_test rfl rfl rfl rfl zB ?_ ?_ <;> intro hb <;> first | exact zX | refine zDn ?_) | (refine zT ?_ ?_ <;> intro h <;> first | exact zX | refine zNq ?_)))
    exact ret0 _ (.tup [eIntent int0, .int .i64 num, .int .i64 x.1]) rfl rfl (by (refine .inr (.inr (.inr (.inr (.inr ⟨_, _, rfl, rfl, ?_⟩)))); (repeat (first | exact True.intro | refine ⟨.inr (.inl rfl), ?_⟩ | refine ⟨.inr (.inr (.inl ⟨rfl, rfl⟩)), ?_⟩ | refine ⟨.inr (.inr (.inr (.inl ⟨_, _, _, _, _, _, rfl, rfl, rfl, rfl, rfl⟩))), ?_⟩ | refine ⟨.inr (.inr (.inr (.inr (.inl ⟨_, _, rfl, rfl, ?_⟩)))), ?_⟩)))) rfl
   ·rw [if_neg h2] at hw
    (repeat' (first | refine zS ?_ | (refine zT ?_ ?_ <;> intro h <;> first | exact zX | refine zNq ?_)))
    exact ⟨(i + 1, { t with groups := x.2 }, c'), ⟨hw, by show i + 1 ≤ _; omega, hlx⟩, by show _ - (i + 1) < _ - i; omega, zLe, zLes⟩
  ·have hx : iLine t w = ((pDef t.services w true).1, { t with services := (pDef t.services w true).2 }) := by unfold iLine; (repeat (first | refine (if_pos (by assumption)).trans ?_ | refine (if_neg (by assumption)).trans ?_)); rfl
   rw [hx] at hw hlx
   (refine pl_op rfl (op_callA [1, 2, 3, 4, 5, 6, 7] rfl rfl e46 (by decide) rfl rfl rfl zLe zLes (c_defineS hG t ht.services c w true a3 (by omega)) (fun r s hq => ?_)); obtain ⟨c', rfl, rfl⟩ := hq; refine ⟨rfl, rfl, ?_⟩; (refine zNp ?_))
   generalize pDef t.services w true = x at hw hlx ⊢
   dsimp only at hw hlx
   (try refine zS ?_)
   (refine pw_mv 2 10 hD rfl rfl rfl rfl rfl ?_; refine pw_norm rfl ?_)
   (refine pw_mv 3 11 hD rfl rfl rfl rfl rfl ?_; refine pw_norm rfl ?_)
   (refine pw_mv 4 12 hD rfl rfl rfl rfl rfl ?_; refine pw_norm rfl ?_)
   (refine pw_mv 5 13 hD rfl rfl rfl rfl rfl ?_; refine pw_norm rfl ?_)
   (refine pw_mv 6 14 hD rfl rfl rfl rfl rfl ?_; refine pw_norm rfl ?_)
   (refine pw_mv 7 15 hD rfl rfl rfl rfl rfl ?_; refine pw_norm rfl ?_)
   (refine pw_trim 9 hD rfl rfl ?_; refine pw_norm rfl ?_)
   refine zT ?_ ?_ <;> intro h2 <;> refine zNq ?_
   ·rw [if_pos h2] at hw
    rw [← hw]
    (repeat' (first | (refine zDr [[0,1,2,3],[4],[5,6]] ?_; refine zDn ?_) | refine zS ?_ | refine zD ?_ | refine po_both ?_ ?_ | refine pwt_both ?_ ?_ | refine pwt_fork ?_ | refine pwt_lin ?_ | (refine po_test rfl rfl rfl rfl zB ?_ ?_ <;> intro hb <;> first | exact zX | refine zDn ?_) | (refine zT ?_ ?_ <;> intro h <;> first | exact zX | refine zNq ?_)))
    exact ret0 _ (.tup [eIntent int0, .int .i64 num, .int .i64 x.1]) rfl rfl (by (refine .inr (.inr (.inr (.inr (.inr ⟨_, _, rfl, rfl, ?_⟩)))); (repeat (first | exact True.intro | refine ⟨.inr (.inl rfl), ?_⟩ | refine ⟨.inr (.inr (.inl ⟨rfl, rfl⟩)), ?_⟩ | refine ⟨.inr (.inr (.inr (.inl ⟨_, _, _, _, _, _, rfl, rfl, rfl, rfl, rfl⟩))), ?_⟩ | refine ⟨.inr (.inr (.inr (.inr (.inl ⟨_, _, rfl, rfl, ?_⟩)))), ?_⟩)))) rfl
   ·rw [if_neg h2] at hw
    (repeat' (first | refine zS ?_ | (refine zT ?_ ?_ <;> intro h <;> first | exact zX | refine zNq ?_)))
    exact ⟨(i + 1, { t with services := x.2 }, c'), ⟨hw, by show i + 1 ≤ _; omega, hlx⟩, by show _ - (i + 1) < _ - i; omega, zLe, zLes⟩
  ·have hx : iLine t w = ((pWin t.windows w).1, { t with windows := (pWin t.windows w).2 }) := by unfold iLine; (repeat (first | refine (if_pos (by assumption)).trans ?_ | refine (if_neg (by assumption)).trans ?_)); rfl
   rw [hx] at hw hlx
   (refine pl_op rfl (op_callA [1, 2, 3, 4, 5, 6, 7] rfl rfl e47 (by decide) rfl rfl rfl zLe zLes (c_readWindow hG hD' t ht.windows c w a3 (by omega)) (fun r s hq => ?_)); obtain ⟨c', rfl, rfl⟩ := hq; refine ⟨rfl, rfl, ?_⟩; (refine zNp ?_))
   generalize pWin t.windows w = x at hw hlx ⊢
   dsimp only at hw hlx
   (try refine zS ?_)
   (refine pw_mv 2 10 hD rfl rfl rfl rfl rfl ?_; refine pw_norm rfl ?_)
   (refine pw_mv 3 11 hD rfl rfl rfl rfl rfl ?_; refine pw_norm rfl ?_)
   (refine pw_mv 4 12 hD rfl rfl rfl rfl rfl ?_; refine pw_norm rfl ?_)
   (refine pw_mv 5 13 hD rfl rfl rfl rfl rfl ?_; refine pw_norm rfl ?_)
   (refine pw_mv 6 14 hD rfl rfl rfl rfl rfl ?_; refine pw_norm rfl ?_)
   (refine pw_mv 7 15 hD rfl rfl rfl rfl rfl ?_; refine pw_norm rfl ?_)
   (refine pw_trim 9 hD rfl rfl ?_; refine pw_norm rfl ?_)
   refine zT ?_ ?_ <;> intro h2 <;> refine zNq ?_
   ·rw [if_pos h2] at hw
    rw [← hw]
    (repeat' (first | (refine zDr [[0,1,2,3],[4],[5,6]] ?_; refine zDn ?_) | refine zS ?_ | refine zD ?_ | refine po_both ?_ ?_ | refine pwt_both ?_ ?_ | refine pwt_fork ?_ | refine pwt_lin ?_ | (refine po_test rfl rfl rfl rfl zB ?_ ?_ <;> intro hb <;> first | exact zX | refine zDn ?_) | (refine zT ?_ ?_ <;> intro h <;> first | exact zX | refine zNq ?_)))
    exact ret0 _ (.tup [eIntent int0, .int .i64 num, .int .i64 x.1]) rfl rfl (by (refine .inr (.inr (.inr (.inr (.inr ⟨_, _, rfl, rfl, ?_⟩)))); (repeat (first | exact True.intro | refine ⟨.inr (.inl rfl), ?_⟩ | refine ⟨.inr (.inr (.inl ⟨rfl, rfl⟩)), ?_⟩ | refine ⟨.inr (.inr (.inr (.inl ⟨_, _, _, _, _, _, rfl, rfl, rfl, rfl, rfl⟩))), ?_⟩ | refine ⟨.inr (.inr (.inr (.inr (.inl ⟨_, _, rfl, rfl, ?_⟩)))), ?_⟩)))) rfl
   ·rw [if_neg h2] at hw
    (repeat' (first | refine zS ?_ | (refine zT ?_ ?_ <;> intro h <;> first | exact zX | refine zNq ?_)))
    exact ⟨(i + 1, { t with windows := x.2 }, c'), ⟨hw, by show i + 1 ≤ _; omega, hlx⟩, by show _ - (i + 1) < _ - i; omega, zLe, zLes⟩
  ·have hx : iLine t w = ((pStm t.stms w).1, { t with stms := (pStm t.stms w).2 }) := by unfold iLine; (repeat (first | refine (if_pos (by assumption)).trans ?_ | refine (if_neg (by assumption)).trans ?_)); rfl
   rw [hx] at hw hlx
   (refine pl_op rfl (op_callA [1, 2, 3, 4, 5, 6, 7] rfl rfl e48 (by decide) rfl rfl rfl zLe zLes (c_readStatement t ht.stms c w a3 (by omega)) (fun r s hq => ?_)); obtain ⟨c', rfl, rfl⟩ := hq; refine ⟨rfl, rfl, ?_⟩; (refine zNp ?_))
   generalize pStm t.stms w = x at hw hlx ⊢
   dsimp only at hw hlx
   (try refine zS ?_)
   (refine pw_mv 2 10 hD rfl rfl rfl rfl rfl ?_; refine pw_norm rfl ?_)
   (refine pw_mv 3 11 hD rfl rfl rfl rfl rfl ?_; refine pw_norm rfl ?_)
   (refine pw_mv 4 12 hD rfl rfl rfl rfl rfl ?_; refine pw_norm rfl ?_)
   (refine pw_mv 5 13 hD rfl rfl rfl rfl rfl ?_; refine pw_norm rfl ?_)
   (refine pw_mv 6 14 hD rfl rfl rfl rfl rfl ?_; refine pw_norm rfl ?_)
   (refine pw_mv 7 15 hD rfl rfl rfl rfl rfl ?_; refine pw_norm rfl ?_)
   (refine pw_trim 9 hD rfl rfl ?_; refine pw_norm rfl ?_)
   refine zT ?_ ?_ <;> intro h2 <;> refine zNq ?_
   ·rw [if_pos h2] at hw
    rw [← hw]
    (repeat' (first | (refine zDr [[0,1,2,3],[4],[5,6]] ?_; refine zDn ?_) | refine zS ?_ | refine zD ?_ | refine po_both ?_ ?_ | refine pwt_both ?_ ?_ | refine pwt_fork ?_ | refine pwt_lin ?_ | (refine po_test rfl rfl rfl rfl zB ?_ ?_ <;> intro hb <;> first | exact zX | refine zDn ?_) | (refine zT ?_ ?_ <;> intro h <;> first | exact zX | refine zNq ?_)))
    exact ret0 _ (.tup [eIntent int0, .int .i64 num, .int .i64 x.1]) rfl rfl (by (refine .inr (.inr (.inr (.inr (.inr ⟨_, _, rfl, rfl, ?_⟩)))); (repeat (first | exact True.intro | refine ⟨.inr (.inl rfl), ?_⟩ | refine ⟨.inr (.inr (.inl ⟨rfl, rfl⟩)), ?_⟩ | refine ⟨.inr (.inr (.inr (.inl ⟨_, _, _, _, _, _, rfl, rfl, rfl, rfl, rfl⟩))), ?_⟩ | refine ⟨.inr (.inr (.inr (.inr (.inl ⟨_, _, rfl, rfl, ?_⟩)))), ?_⟩)))) rfl
   ·rw [if_neg h2] at hw
    (repeat' (first | refine zS ?_ | (refine zT ?_ ?_ <;> intro h <;> first | exact zX | refine zNq ?_)))
    exact ⟨(i + 1, { t with stms := x.2 }, c'), ⟨hw, by show i + 1 ≤ _; omega, hlx⟩, by show _ - (i + 1) < _ - i; omega, zLe, zLes⟩
  ·have hx : iLine t w = ((pStm t.stms w).1, { t with stms := (pStm t.stms w).2 }) := by unfold iLine; (repeat (first | refine (if_pos (by assumption)).trans ?_ | refine (if_neg (by assumption)).trans ?_)); rfl
   rw [hx] at hw hlx
   (refine pl_op rfl (op_callA [1, 2, 3, 4, 5, 6, 7] rfl rfl e48 (by decide) rfl rfl rfl zLe zLes (c_readStatement t ht.stms c w a3 (by omega)) (fun r s hq => ?_)); obtain ⟨c', rfl, rfl⟩ := hq; refine ⟨rfl, rfl, ?_⟩; (refine zNp ?_))
   generalize pStm t.stms w = x at hw hlx ⊢
   dsimp only at hw hlx
   (try refine zS ?_)
   (refine pw_mv 2 10 hD rfl rfl rfl rfl rfl ?_; refine pw_norm rfl ?_)
   (refine pw_mv 3 11 hD rfl rfl rfl rfl rfl ?_; refine pw_norm rfl ?_)
   (refine pw_mv 4 12 hD rfl rfl rfl rfl rfl ?_; refine pw_norm rfl ?_)
   (refine pw_mv 5 13 hD rfl rfl rfl rfl rfl ?_; refine pw_norm rfl ?_)
   (refine pw_mv 6 14 hD rfl rfl rfl rfl rfl ?_; refine pw_norm rfl ?_)
   (refine pw_mv 7 15 hD rfl rfl rfl rfl rfl ?_; refine pw_norm rfl ?_)
   (refine pw_trim 9 hD rfl rfl ?_; refine pw_norm rfl ?_)
   refine zT ?_ ?_ <;> intro h2 <;> refine zNq ?_
   ·rw [if_pos h2] at hw
    rw [← hw]
    (repeat' (first | (refine zDr [[0,1,2,3],[4],[5,6]] ?_; refine zDn ?_) | refine zS ?_ | refine zD ?_ | refine po_both ?_ ?_ | refine pwt_both ?_ ?_ | refine pwt_fork ?_ | refine pwt_lin ?_ | (refine po_test rfl rfl rfl rfl zB ?_ ?_ <;> intro hb <;> first | exact zX | refine zDn ?_) | (refine zT ?_ ?_ <;> intro h <;> first | exact zX | refine zNq ?_)))
    exact ret0 _ (.tup [eIntent int0, .int .i64 num, .int .i64 x.1]) rfl rfl (by (refine .inr (.inr (.inr (.inr (.inr ⟨_, _, rfl, rfl, ?_⟩)))); (repeat (first | exact True.intro | refine ⟨.inr (.inl rfl), ?_⟩ | refine ⟨.inr (.inr (.inl ⟨rfl, rfl⟩)), ?_⟩ | refine ⟨.inr (.inr (.inr (.inl ⟨_, _, _, _, _, _, rfl, rfl, rfl, rfl, rfl⟩))), ?_⟩ | refine ⟨.inr (.inr (.inr (.inr (.inl ⟨_, _, rfl, rfl, ?_⟩)))), ?_⟩)))) rfl
   ·rw [if_neg h2] at hw
    (repeat' (first | refine zS ?_ | (refine zT ?_ ?_ <;> intro h <;> first | exact zX | refine zNq ?_)))
    exact ⟨(i + 1, { t with stms := x.2 }, c'), ⟨hw, by show i + 1 ≤ _; omega, hlx⟩, by show _ - (i + 1) < _ - i; omega, zLe, zLes⟩
  ·have hx : iLine t w = ((pPub t.pubs w).1, { t with pubs := (pPub t.pubs w).2 }) := by unfold iLine; (repeat (first | refine (if_pos (by assumption)).trans ?_ | refine (if_neg (by assumption)).trans ?_)); rfl
   rw [hx] at hw hlx
   (refine pl_op rfl (op_callA [1, 2, 3, 4, 5, 6, 7] rfl rfl e49 (by decide) rfl rfl rfl zLe zLes (c_publish hG t ht.pubs c w a3 (by omega)) (fun r s hq => ?_)); obtain ⟨c', rfl, rfl⟩ := hq; refine ⟨rfl, rfl, ?_⟩; (refine zNp ?_))
   generalize pPub t.pubs w = x at hw hlx ⊢
   dsimp only at hw hlx
   (try refine zS ?_)
   (refine pw_mv 2 10 hD rfl rfl rfl rfl rfl ?_; refine pw_norm rfl ?_)
   (refine pw_mv 3 11 hD rfl rfl rfl rfl rfl ?_; refine pw_norm rfl ?_)
   (refine pw_mv 4 12 hD rfl rfl rfl rfl rfl ?_; refine pw_norm rfl ?_)
   (refine pw_mv 5 13 hD rfl rfl rfl rfl rfl ?_; refine pw_norm rfl ?_)
   (refine pw_mv 6 14 hD rfl rfl rfl rfl rfl ?_; refine pw_norm rfl ?_)
   (refine pw_mv 7 15 hD rfl rfl rfl rfl rfl ?_; refine pw_norm rfl ?_)
   (refine pw_trim 9 hD rfl rfl ?_; refine pw_norm rfl ?_)
   refine zT ?_ ?_ <;> intro h2 <;> refine zNq ?_
   ·rw [if_pos h2] at hw
    rw [← hw]
    (repeat' (first | (refine zDr [[0,1,2,3],[4],[5,6]] ?_; refine zDn ?_) | refine zS ?_ | refine zD ?_ | refine po_both ?_ ?_ | refine pwt_both ?_ ?_ | refine pwt_fork ?_ | refine pwt_lin ?_ | (refine po_test rfl rfl rfl rfl zB ?_ ?_ <;> intro hb <;> first | exact zX | refine zDn ?_) | (refine zT ?_ ?_ <;> intro h <;> first | exact zX | refine zNq ?_)))
    exact ret0 _ (.tup [eIntent int0, .int .i64 num, .int .i64 x.1]) rfl rfl (by (refine .inr (.inr (.inr (.inr (.inr ⟨_, _, rfl, rfl, ?_⟩)))); (repeat (first | exact True.intro | refine ⟨.inr (.inl rfl), ?_⟩ | refine ⟨.inr (.inr (.inl ⟨rfl, rfl⟩)), ?_⟩ | refine ⟨.inr (.inr (.inr (.inl ⟨_, _, _, _, _, _, rfl, rfl, rfl, rfl, rfl⟩))), ?_⟩ | refine ⟨.inr (.inr (.inr (.inr (.inl ⟨_, _, rfl, rfl, ?_⟩)))), ?_⟩)))) rfl
   ·rw [if_neg h2] at hw
    (repeat' (first | refine zS ?_ | (refine zT ?_ ?_ <;> intro h <;> first | exact zX | refine zNq ?_)))
    exact ⟨(i + 1, { t with pubs := x.2 }, c'), ⟨hw, by show i + 1 ≤ _; omega, hlx⟩, by show _ - (i + 1) < _ - i; omega, zLe, zLes⟩
  ·have hx : iLine t w = ((pHid t.hids w).1, { t with hids := (pHid t.hids w).2 }) := by unfold iLine; (repeat (first | refine (if_pos (by assumption)).trans ?_ | refine (if_neg (by assumption)).trans ?_)); rfl
   rw [hx] at hw hlx
   (refine pl_op rfl (op_callA [1, 2, 3, 4, 5, 6, 7] rfl rfl e50 (by decide) rfl rfl rfl zLe zLes (c_hide hG t ht.hids c w a3 (by omega)) (fun r s hq => ?_)); obtain ⟨c', rfl, rfl⟩ := hq; refine ⟨rfl, rfl, ?_⟩; (refine zNp ?_))
   generalize pHid t.hids w = x at hw hlx ⊢
   dsimp only at hw hlx
   (try refine zS ?_)
   (refine pw_mv 2 10 hD rfl rfl rfl rfl rfl ?_; refine pw_norm rfl ?_)
   (refine pw_mv 3 11 hD rfl rfl rfl rfl rfl ?_; refine pw_norm rfl ?_)
   (refine pw_mv 4 12 hD rfl rfl rfl rfl rfl ?_; refine pw_norm rfl ?_)
   (refine pw_mv 5 13 hD rfl rfl rfl rfl rfl ?_; refine pw_norm rfl ?_)
   (refine pw_mv 6 14 hD rfl rfl rfl rfl rfl ?_; refine pw_norm rfl ?_)
   (refine pw_mv 7 15 hD rfl rfl rfl rfl rfl ?_; refine pw_norm rfl ?_)
   (refine pw_trim 9 hD rfl rfl ?_; refine pw_norm rfl ?_)
   refine zT ?_ ?_ <;> intro h2 <;> refine zNq ?_
   ·rw [if_pos h2] at hw
    rw [← hw]
    (repeat' (first | (refine zDr [[0,1,2,3],[4],[5,6]] ?_; refine zDn ?_) | refine zS ?_ | refine zD ?_ | refine po_both ?_ ?_ | refine pwt_both ?_ ?_ | refine pwt_fork ?_ | refine pwt_lin ?_ | (refine po_test rfl rfl rfl rfl zB ?_ ?_ <;> intro hb <;> first | exact zX | refine zDn ?_) | (refine zT ?_ ?_ <;> intro h <;> first | exact zX | refine zNq ?_)))
    exact ret0 _ (.tup [eIntent int0, .int .i64 num, .int .i64 x.1]) rfl rfl (by (refine .inr (.inr (.inr (.inr (.inr ⟨_, _, rfl, rfl, ?_⟩)))); (repeat (first | exact True.intro | refine ⟨.inr (.inl rfl), ?_⟩ | refine ⟨.inr (.inr (.inl ⟨rfl, rfl⟩)), ?_⟩ | refine ⟨.inr (.inr (.inr (.inl ⟨_, _, _, _, _, _, rfl, rfl, rfl, rfl, rfl⟩))), ?_⟩ | refine ⟨.inr (.inr (.inr (.inr (.inl ⟨_, _, rfl, rfl, ?_⟩)))), ?_⟩)))) rfl
   ·rw [if_neg h2] at hw
    (repeat' (first | refine zS ?_ | (refine zT ?_ ?_ <;> intro h <;> first | exact zX | refine zNq ?_)))
    exact ⟨(i + 1, { t with hids := x.2 }, c'), ⟨hw, by show i + 1 ≤ _; omega, hlx⟩, by show _ - (i + 1) < _ - i; omega, zLe, zLes⟩
  ·have hx : iLine t w = (4, t) := by unfold iLine; (repeat (first | refine (if_pos (by assumption)).trans ?_ | refine (if_neg (by assumption)).trans ?_)); rfl
   rw [hx] at hw
   have hw' : (int0, num, (4 : Int)) = iRun ls int0 := hw
   rw [← hw']
   exact ret0 _ (.tup [eIntent int0, .int .i64 num, .int .i64 4]) rfl rfl (by (refine .inr (.inr (.inr (.inr (.inr ⟨_, _, rfl, rfl, ?_⟩)))); (repeat (first | exact True.intro | refine ⟨.inr (.inl rfl), ?_⟩ | refine ⟨.inr (.inr (.inl ⟨rfl, rfl⟩)), ?_⟩ | refine ⟨.inr (.inr (.inr (.inl ⟨_, _, _, _, _, _, rfl, rfl, rfl, rfl, rfl⟩))), ?_⟩ | refine ⟨.inr (.inr (.inr (.inr (.inl ⟨_, _, rfl, rfl, ?_⟩)))), ?_⟩)))) rfl
 ·have hie : i = ls.length := by omega
  subst hie
  rw [List.drop_length, iRun] at hw
  rw [← hw]
  (repeat' (first | refine zS ?_ | (refine zT ?_ ?_ <;> intro h <;> first | exact zX | refine zNq ?_)))
  exact ret0 _ (.tup [eIntent t, .int .i64 0, .int .i64 0]) rfl rfl (by (refine .inr (.inr (.inr (.inr (.inr ⟨_, _, rfl, rfl, ?_⟩)))); (repeat (first | exact True.intro | refine ⟨.inr (.inl rfl), ?_⟩ | refine ⟨.inr (.inr (.inl ⟨rfl, rfl⟩)), ?_⟩ | refine ⟨.inr (.inr (.inr (.inl ⟨_, _, _, _, _, _, rfl, rfl, rfl, rfl, rfl⟩))), ?_⟩ | refine ⟨.inr (.inr (.inr (.inr (.inl ⟨_, _, rfl, rfl, ?_⟩)))), ?_⟩)))) rfl
end
section
structure RRd where
 s : TStm
 g0 : Bool
 g1 : Bool
 g2 : Bool
 g3 : Bool
 g4 : Bool
 rest : List Str
def RRd.good (x : RRd) : Bool := (((x.g0 && x.g1) && x.g2) && x.g3) && x.g4
variable {Gl : Glob}
attribute [local irreducible] PW PWL OpP PCalls PWO PWT bothT
theorem ILim.big {i : TInt} (h : ILim i) (h1 : ∀ d ∈ i.groups, d.items.length < 1000000) (h2 : ∀ d ∈ i.services, d.items.length < 1000000) (h3 : ∀ d ∈ i.windows, d.active.length < 1000000) : IBig i :=
 ⟨Nat.lt_of_le_of_lt h.groups (by decide), Nat.lt_of_le_of_lt h.services (by decide), Nat.lt_of_le_of_lt h.windows (by decide), Nat.lt_of_le_of_lt h.stms (by decide), Nat.lt_of_le_of_lt h.pubs (by decide), Nat.lt_of_le_of_lt h.hids (by decide), h1, h2, h3⟩
end
section
def saneI1 : Str := [115, 101, 114, 118, 105, 99, 101, 32, 119, 101, 98, 32, 61, 32, 116, 99, 112, 32, 56, 48, 32, 44, 32, 116, 99, 112, 32, 52, 52, 51] ++ [10] ++ [97, 108, 108, 111, 119, 32, 97, 110, 121, 32, 45, 62, 32, 115, 101, 114, 118, 101, 114, 115, 32, 119, 101, 98, 32, 101, 120, 99, 101, 112, 116, 32, 103, 117, 101, 115, 116, 115, 32, 45, 62, 32, 97, 110, 121, 32, 118, 105, 97, 32, 105, 112, 115, 32, 100, 117, 114, 105, 110, 103, 32, 119, 111, 114, 107, 32, 112, 114, 105, 111, 114, 105, 116, 121, 32, 53]
def saneI2 : Str := [115, 101, 114, 118, 105, 99, 101, 32, 120, 32, 61, 32, 112, 114, 111, 116, 111, 32, 54]
def saneStm : TStm := ⟨true, [], [115, 101, 114, 118, 101, 114, 115], [119, 101, 98], true, [103, 117, 101, 115, 116, 115], [], [105, 112, 115], [119, 111, 114, 107], 5⟩
def saneI : TInt := ⟨[], [⟨[119, 101, 98], [⟨4, [], pfx0, 6, ⟨80, 80⟩⟩, ⟨4, [], pfx0, 6, ⟨443, 443⟩⟩]⟩], [], [saneStm], [], []⟩
theorem saneI1_is : iParse saneI1 = (saneI, 0, 0) := by kernel_rfl
theorem saneI2_is : iParse saneI2 = (int0, 1, 2) := by kernel_rfl
variable {Gl : Glob}
attribute [local irreducible] PW PWL OpP PCalls PWO iParse iValid PWT bothT
theorem saneI_valid : iValid saneI = true := by kernel_rfl
theorem saneI_big : IBig saneI := ⟨by decide, by decide, by decide, by decide, by decide, by decide, by decide, by decide, by decide⟩
theorem c_sane (hG : GM Gl) (hD' : GD Gl) : PFun Tryz.prog Gl 18 [] fun r => r = .bool true := by
 (refine PFun.of hT Tryz.func18 rfl fun B hD => ?_; refine pw_norm rfl ?_)
 (repeat' (first | refine zS ?_ | refine zq5 ?_ | refine zq6 ?_ | (refine zT ?_ ?_ <;> intro h <;> first | exact zX | refine zNq ?_)))
 (refine pl_op rfl (op_fun (c_iParse hG hD' saneI1) rfl rfl e19 zLe rfl (fun r hr => ?_)); subst hr; refine ⟨rfl, ?_⟩; (refine zNp ?_))
 rw [saneI1_is]
 (repeat' (first | refine zS ?_ | refine zq5 ?_ | refine zq6 ?_ | (refine zT ?_ ?_ <;> intro h <;> first | exact zX | refine zNq ?_)))
 (refine pl_op rfl (op_fun (c_iParse hG hD' saneI2) rfl rfl e19 zLe rfl (fun r hr => ?_)); subst hr; refine ⟨rfl, ?_⟩; (refine zNp ?_))
 rw [saneI2_is]
 (repeat' (first | refine zS ?_ | refine zq5 ?_ | refine zq6 ?_ | (refine zT ?_ ?_ <;> intro h <;> first | exact zX | refine zNq ?_)))
 (refine pl_op rfl (op_of (v_index (p := eStm saneStm) hT rfl rfl rfl rfl (by omega) (rfl) rfl) ?_); (refine zNp ?_))
 (repeat' (first | refine zS ?_ | refine zq5 ?_ | refine zq6 ?_ | (refine zT ?_ ?_ <;> intro h <;> first | exact zX | refine zNq ?_)))
 (refine pl_on rfl rfl (op_fun (c_iValid hD' saneI saneI_big (fun d h => by cases h)) rfl rfl e29 zLe rfl (fun r hr => ?_)); subst hr; refine ⟨rfl, ?_⟩; (refine zNp ?_))
 rw [saneI_valid]
 (repeat' (first | refine zS ?_ | refine zq5 ?_ | refine zq6 ?_ | (refine zT ?_ ?_ <;> intro h <;> first | exact zX | refine zNq ?_)))
 exact ret2 _ rfl rfl rfl
instance iSane : ConF Tryz.prog Gl 18 [] (GM Gl ∧ GD Gl) (.bool true) := ⟨e18, fun h => c_sane h.1 h.2⟩
attribute [local irreducible] iFormat
theorem iParse_long {s : Str} (h : 16384 < s.length) : iParse s = (int0, 0, 3) := by
 unfold iParse lines
 rw [decide_eq_true (show (s.length : Int) > 16384 by omega)]
 rfl
def c8env : List PV := [.any, .any, .any, .ptr 0 0, .bool false] ++ List.replicate 70 .any
theorem c8_rest (hG : GM Gl) (hD' : GD Gl) (hT' : GT Gl) {B : Base} (_hD : ∀ j, B.D j = dOf [] j) (l : List Int) (x : TInt) (hb : IBig x) (hi2 : IIn2 x) (j : Nat) :
  PW Tryz.prog Gl B (tlC 3 (codeOf Tryz.f8)) c8env [.box (eIntent x).cells, tape l j] (retF tys Tryz.f8.results.toList 0 fun r s => r = .bool true ∧ s = []) := by
 unfold c8env
 refine pw_code rfl ?_
 refine zNq ?_
 have hfm := c_format (Gl := Gl) hT' hD' x hb hi2
 cases hval : iValid x with
 | false =>
  have hF : iFormat x = ([], 1) := by unfold iFormat; rw [if_neg (by rw [hval]; decide)]
  rw [hF] at hfm
  (repeat' (first | refine zS ?_ | refine zq5 ?_ | refine zq6 ?_))
  (refine pl_op rfl (op_fun (hfm) rfl rfl e28 zLe rfl (fun r hr => ?_)); subst hr; refine ⟨rfl, ?_⟩; (refine zNp ?_))
  (repeat' (first | refine zS ?_ | refine zq5 ?_ | refine zq6 ?_))
  (refine pl_on rfl rfl (op_fun (c_iValid hD' x hb hi2.wins) rfl rfl e29 zLe rfl (fun r hr => ?_)); subst hr; refine ⟨rfl, ?_⟩; (refine zNp ?_))
  rw [hval]
  (repeat' (first | refine zS ?_ | refine zq5 ?_ | refine zq6 ?_))
  exact ret2 _ rfl rfl rfl
 | true =>
  have hF : iFormat x = (textS (iLines x), 0) := by unfold iFormat; rw [if_pos hval]
  rw [hF] at hfm
  dsimp only at hfm
  (repeat' (first | refine zS ?_ | refine zq5 ?_ | refine zq6 ?_))
  (refine pl_op rfl (op_fun (hfm) rfl rfl e28 zLe rfl (fun r hr => ?_)); subst hr; refine ⟨rfl, ?_⟩; (refine zNp ?_))
  (repeat' (first | refine zS ?_ | refine zq5 ?_ | refine zq6 ?_))
  (refine pl_op rfl (op_fun (c_iParse hG hD' (textS (iLines x))) rfl rfl e19 zLe rfl (fun r hr => ?_)); subst hr; refine ⟨rfl, ?_⟩; (refine zNp ?_))
  by_cases hlong : (textS (iLines x)).length ≤ 16384
  ·rw [iParse_text hval hi2 hlong]
   (repeat' (first | refine zS ?_ | refine zq5 ?_ | refine zq6 ?_))
   refine zT ?_ ?_ <;> intro h <;> refine zNq ?_
   ·exfalso; omega
   ·(repeat' (first | refine zS ?_ | refine zq5 ?_ | refine zq6 ?_))
    (refine pl_on rfl rfl (op_fun (c_same x hb) rfl rfl e22 zLe rfl (fun r hr => ?_)); subst hr; refine ⟨rfl, ?_⟩; (refine zNp ?_))
    (repeat' (first | refine zS ?_ | refine zq5 ?_ | refine zq6 ?_))
    (refine pl_on rfl rfl (op_fun (c_iValid hD' x hb hi2.wins) rfl rfl e29 zLe rfl (fun r hr => ?_)); subst hr; refine ⟨rfl, ?_⟩; (refine zNp ?_))
    rw [hval]
    (repeat' (first | refine zS ?_ | refine zq5 ?_ | refine zq6 ?_))
    exact ret2 _ rfl rfl rfl
  ·rw [iParse_long (by omega)]
   (repeat' (first | refine zS ?_ | refine zq5 ?_ | refine zq6 ?_))
   refine zT ?_ ?_ <;> intro h <;> refine zNq ?_
   ·(repeat' (first | refine zS ?_ | refine zq5 ?_ | refine zq6 ?_))
    exact ret2 _ rfl rfl rfl
   ·exfalso; omega
theorem c8 (hG : GM Gl) (hD' : GD Gl) (hT' : GT Gl) (l : List Int) (hl : Tp l) (x : TInt) (hx : ITy x) : PFun Tryz.prog Gl 8 [.sl (l.map eInt), eIntent x] fun r => r = .bool true := by
 (refine PFun.of hT Tryz.func8 rfl fun B hD => ?_; refine pw_norm rfl ?_)
 (repeat' (first | refine zS ?_ | refine zq5 ?_ | refine zq6 ?_))
 (refine pl_op rfl (zCl [] e10 (c10 l) (fun r s hq => ?_)); obtain ⟨rfl, rfl⟩ := hq; refine ⟨rfl, rfl, ?_⟩; (refine zNp ?_))
 (repeat' (first | refine zS ?_ | refine zq5 ?_ | refine zq6 ?_))
 (refine pl_op rfl (op_fun (c_huge x hx) rfl rfl e27 zLe rfl (fun r hr => ?_)); obtain ⟨b, rfl, hb⟩ := hr; refine ⟨rfl, ?_⟩; (refine zNp ?_))
 (repeat' (first | refine zS ?_ | refine zq5 ?_ | refine zq6 ?_))
 refine pl_split 15 rfl (fun hs => ?_) (fun hs => ?_)
 ·(repeat' (first | refine zS ?_ | refine zq5 ?_ | refine zq6 ?_))
  (refine pl_op rfl (zCl [1] e24 (c_draw l hl 0 (Nat.zero_le _)) (fun r s hq => ?_)); obtain ⟨j1, ⟨y, hy, rfl⟩, hj1, rfl⟩ := hq; refine ⟨rfl, rfl, ?_⟩; (refine zNp ?_))
  (repeat (first | refine pl_pure hT rfl ?_ | (refine pl_op rfl (op_storeF hT rfl rfl rfl rfl rfl rfl rfl rfl (Nat.le_of_ble_eq_true rfl) ?_); (first | refine pl_norm rfl ?_ | refine pl_normE rfl ?_))))
  refine pl_nil ?_
  refine zNq ?_
  exact pw_less (st' := [.box (eIntent y).cells, tape l j1]) (env' := c8env) zLe zLes (c8_rest hG hD' hT' hD l y (hy.big (by decide)) (hy.iin (by decide)) j1)
 ·have hp := hb hs
  (repeat' (first | refine zS ?_ | refine zq5 ?_ | refine zq6 ?_))
  (refine pl_on rfl rfl (zCl [1] e17 (c13n l hl 0 (Nat.zero_le _) 3 (by decide) (by decide)) (fun r s hq => ?_)); obtain ⟨j0, ⟨m0, hm0, rfl⟩, hj0, rfl⟩ := hq; refine ⟨rfl, rfl, ?_⟩; (refine zNp ?_))
  (repeat' (first | refine zS ?_ | refine zq5 ?_ | refine zq6 ?_))
  refine zT ?_ ?_ <;> intro h <;> refine zNq ?_
  ·(repeat' (first | refine zS ?_ | refine zq5 ?_ | refine zq6 ?_))
   (refine pl_op rfl (zCl [1] e24 (c_draw l hl j0 hj0) (fun r s hq => ?_)); obtain ⟨j1, ⟨y, hy, rfl⟩, hj1, rfl⟩ := hq; refine ⟨rfl, rfl, ?_⟩; (refine zNp ?_))
   (repeat (first | refine pl_pure hT rfl ?_ | (refine pl_op rfl (op_storeF hT rfl rfl rfl rfl rfl rfl rfl rfl (Nat.le_of_ble_eq_true rfl) ?_); (first | refine pl_norm rfl ?_ | refine pl_normE rfl ?_))))
   refine pl_nil ?_
   refine zNq ?_
   exact pw_less (st' := [.box (eIntent y).cells, tape l j1]) (env' := c8env) zLe zLes (c8_rest hG hD' hT' hD l y (hy.big (by decide)) (hy.iin (by decide)) j1)
  ·refine pw_skip ?_
   refine zNq ?_
   exact pw_less (st' := [.box (eIntent x).cells, tape l j0]) (env' := c8env) zLe zLes (c8_rest hG hD' hT' hD l x (hp.big (by decide)) (hp.iin (by decide)) j0)

end
end Go.Proofs.YtkaobkjcjodffaaGreatDoor