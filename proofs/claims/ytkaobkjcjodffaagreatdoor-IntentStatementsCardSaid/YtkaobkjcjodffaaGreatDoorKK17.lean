/-
  The texts of IntentStatements and of IntentCounts, reckoned by the kernel.
-/
import Derived.Test.YtkaobkjcjodffaaGreatDoorKK13
import Derived.Test.YtkaobkjcjodffaaGreatDoorKM6
import Derived.Test.YtkaobkjcjodffaaGreatDoorKL5
import Derived.KernelRfl
import Derived.Test.YtkaobkjcjodffaaGreatDoorKB6
namespace Go.Proofs.YtkaobkjcjodffaaGreatDoor
open Go Go.Pw
variable {Gl : Glob}
attribute [local irreducible] PW PWL OpP PCalls PWO pDef pWin pStm pPub pHid
set_option maxHeartbeats 20000000
set_option maxRecDepth 100000
instance (s : Str) : ConF Tryz.prog Gl 45 [.str s] (GM Gl) (.tup [.sl ((lines s).1.map eLine), .int .i64 (lines s).2.1, .int .i64 (lines s).2.2]) := ⟨e45, fun h => c60 h s⟩
def boxI : PObj := .box [.nilsl, .nilsl, .nilsl, .nilsl, .nilsl, .nilsl]
def jst (i : TInt) (c : ICaps) : List PObj := [boxI, .box [.msl 2 2 0 (i.groups.map eDef).length c.1, .msl 2 3 0 (i.services.map eDef).length c.2.1, .msl 2 4 0 (i.windows.map eWin).length c.2.2.1, .msl 10 5 0 (i.stms.map eStm).length c.2.2.2.1, .msl 6 6 0 (i.pubs.map ePub).length c.2.2.2.2.1, .msl 5 7 0 (i.hids.map eHid).length c.2.2.2.2.2],
  .arr 2 (i.groups.map eDef) c.1, .arr 2 (i.services.map eDef) c.2.1, .arr 2 (i.windows.map eWin) c.2.2.1, .arr 10 (i.stms.map eStm) c.2.2.2.1, .arr 6 (i.pubs.map ePub) c.2.2.2.2.1, .arr 5 (i.hids.map eHid) c.2.2.2.2.2]
theorem c_iParse (hG : GM Gl) (hD' : GD Gl) (s : Str) : PFun Tryz.prog Gl 19 [.str s] fun r => r = .tup [eIntent (iParse s).1, .int .i64 (iParse s).2.1, .int .i64 (iParse s).2.2] := by
  have hok := lines_ok s
  have hat := fun k => @line_at s _ rfl k
  (refine PFun.of hT Tryz.func19 rfl fun B hD => ?_; refine pw_norm rfl ?_)
  unfold iParse
  (repeat' (first | refine zS ?_ | refine zlA1 rfl rfl rfl rfl zB rfl rfl (zNp ?_) | refine zlO1 rfl rfl rfl rfl zB rfl rfl (zNp ?_) | refine zlA2 rfl rfl rfl rfl zB rfl rfl (zNp ?_) | refine zlO2 rfl rfl rfl rfl zB rfl rfl (zNp ?_) | refine zlA3 rfl rfl rfl rfl zB rfl rfl (zNp ?_) | refine zlO3 rfl rfl rfl rfl zB rfl rfl (zNp ?_)))
  have hfew := hok.few
  generalize lines s = L at hok hat hfew ⊢
  obtain ⟨ls, ln, le⟩ := L
  dsimp only at hok hat hfew ⊢
  refine pw_test rfl rfl zB ?_ ?_ <;> intro h <;> refine zNq ?_
  · rw [if_pos h]
    (repeat' (first | (refine pw_draw [(0, true), (1, true), (2, true), (3, true), (4, false), (5, true), (6, true)] hmix (by decide +kernel) ?_; refine zDn ?_) | refine zS ?_ | refine zD ?_ | refine po_both ?_ ?_ | refine Go.Pw.pwt_both ?_ ?_ | refine Go.Pw.pwt_fork ?_ | refine Go.Pw.pwt_lin ?_ | (refine po_test rfl rfl rfl rfl zB ?_ ?_ <;> intro hb <;> first | (exfalso; omega) | refine zDn ?_) | refine zlA1 rfl rfl rfl rfl zB rfl rfl (zNp ?_) | refine zlO1 rfl rfl rfl rfl zB rfl rfl (zNp ?_) | refine zlA2 rfl rfl rfl rfl zB rfl rfl (zNp ?_) | refine zlO2 rfl rfl rfl rfl zB rfl rfl (zNp ?_) | refine zlA3 rfl rfl rfl rfl zB rfl rfl (zNp ?_) | refine zlO3 rfl rfl rfl rfl zB rfl rfl (zNp ?_) | (refine pw_test rfl rfl zB ?_ ?_ <;> intro h <;> first | (exfalso; omega) | refine zNq ?_)))
    exact ret0 _ (.tup [eIntent int0, .int .i64 ln, .int .i64 le]) rfl rfl (by (refine .inr (.inr (.inr (.inr (.inr ⟨_, _, rfl, rfl, ?_⟩)))); (repeat (first | exact True.intro | refine ⟨.inr (.inl rfl), ?_⟩ | refine ⟨.inr (.inr (.inl ⟨rfl, rfl⟩)), ?_⟩ | refine ⟨.inr (.inr (.inr (.inl ⟨_, _, _, _, _, _, rfl, rfl, rfl, rfl, rfl⟩))), ?_⟩ | refine ⟨.inr (.inr (.inr (.inr (.inl ⟨_, _, rfl, rfl, ?_⟩)))), ?_⟩)))) rfl
  rw [if_neg h]
  (repeat' (first | refine zS ?_ | refine zlA1 rfl rfl rfl rfl zB rfl rfl (zNp ?_) | refine zlO1 rfl rfl rfl rfl zB rfl rfl (zNp ?_) | refine zlA2 rfl rfl rfl rfl zB rfl rfl (zNp ?_) | refine zlO2 rfl rfl rfl rfl zB rfl rfl (zNp ?_) | refine zlA3 rfl rfl rfl rfl zB rfl rfl (zNp ?_) | refine zlO3 rfl rfl rfl rfl zB rfl rfl (zNp ?_)))
  refine pw_ghost 2 ?_
  refine pw_ghost 2 ?_
  refine pw_ghost 2 ?_
  refine pw_ghost 10 ?_
  refine pw_ghost 6 ?_
  refine pw_ghost 5 ?_
  refine zNq ?_
  refine pw_for hD (fun a : Nat × TInt × ICaps => [(26, .int .i64 a.1)]) (fun a => jst a.2.1 a.2.2)
    (fun a => iRun (ls.drop a.1) a.2.1 = iRun ls int0 ∧ a.1 ≤ ls.length ∧ ILim a.2.1) (fun a => ls.length - a.1) (0, int0, (0, 0, 0, 0, 0, 0)) ⟨rfl, Nat.zero_le _, int0_lim⟩ 8 rfl (fun _ => rfl)
    ?_ (fun _ => rfl) (fun _ => rfl) (by (exact zLe)) ?_
  · exact ⟨.inl rfl, .inr (.inr ⟨_, _, rfl, rfl, by (exact zLe)⟩), .inl rfl, .inl rfl, .inl rfl, .inl rfl, .inl rfl, .inl rfl, trivial⟩
  rintro ⟨i, t, c⟩ ⟨hw, hi, ht⟩
  dsimp only at hw hi ht ⊢
  have hstep := @iRun_drop ls i
  have hat := hat i
  have hlx := iLine_lim ht (ls.getD i default).words
  unfold jst boxI
  refine zNq ?_
  (repeat' (first | refine zS ?_ | refine zlA1 rfl rfl rfl rfl zB rfl rfl (zNp ?_) | refine zlO1 rfl rfl rfl rfl zB rfl rfl (zNp ?_) | refine zlA2 rfl rfl rfl rfl zB rfl rfl (zNp ?_) | refine zlO2 rfl rfl rfl rfl zB rfl rfl (zNp ?_) | refine zlA3 rfl rfl rfl rfl zB rfl rfl (zNp ?_) | refine zlO3 rfl rfl rfl rfl zB rfl rfl (zNp ?_)))
  refine pw_test rfl rfl zB ?_ ?_ <;> intro h1 <;> refine zNq ?_
  · have hlt : i < ls.length := by omega
    obtain ⟨a1, a2, a3⟩ := hat hlt
    rw [hstep hlt] at hw
    (repeat' (first | refine zS ?_ | refine zlA1 rfl rfl rfl rfl zB rfl rfl (zNp ?_) | refine zlO1 rfl rfl rfl rfl zB rfl rfl (zNp ?_) | refine zlA2 rfl rfl rfl rfl zB rfl rfl (zNp ?_) | refine zlO2 rfl rfl rfl rfl zB rfl rfl (zNp ?_) | refine zlA3 rfl rfl rfl rfl zB rfl rfl (zNp ?_) | refine zlO3 rfl rfl rfl rfl zB rfl rfl (zNp ?_)))
    generalize ls.getD i default = li at hw a1 a2 a3 hlx ⊢
    obtain ⟨num, w⟩ := li
    dsimp only at hw a1 a2 a3 hlx
    refine zNq ?_
    (repeat' (first | (refine pw_draw [(0, true), (1, true), (2, true), (3, true), (4, false), (5, true), (6, true)] hmix (by decide +kernel) ?_; refine zDn ?_) | refine zS ?_ | refine zD ?_ | refine po_both ?_ ?_ | refine Go.Pw.pwt_both ?_ ?_ | refine Go.Pw.pwt_fork ?_ | refine Go.Pw.pwt_lin ?_ | (refine po_test rfl rfl rfl rfl zB ?_ ?_ <;> intro hb <;> first | (exfalso; omega) | refine zDn ?_) | refine zlA1 rfl rfl rfl rfl zB rfl rfl (zNp ?_) | refine zlO1 rfl rfl rfl rfl zB rfl rfl (zNp ?_) | refine zlA2 rfl rfl rfl rfl zB rfl rfl (zNp ?_) | refine zlO2 rfl rfl rfl rfl zB rfl rfl (zNp ?_) | refine zlA3 rfl rfl rfl rfl zB rfl rfl (zNp ?_) | refine zlO3 rfl rfl rfl rfl zB rfl rfl (zNp ?_) | (refine pw_test rfl rfl zB ?_ ?_ <;> intro h <;> first | (exfalso; omega) | refine zNq ?_)))
    · have hx : iLine t w = ((pDef t.groups w false).1, { t with groups := (pDef t.groups w false).2 }) := by unfold iLine; (repeat (first | refine (if_pos (by assumption)).trans ?_ | refine (if_neg (by assumption)).trans ?_)); rfl
      rw [hx] at hw hlx
      (refine pl_op rfl (op_callA [1, 2, 3, 4, 5, 6, 7] rfl rfl e46 (by decide) rfl rfl rfl zLe zLes (c_defineG hG t ht.groups c w false a3 (by omega)) (fun r s hq => ?_)); obtain ⟨c', rfl, rfl⟩ := hq; refine ⟨rfl, rfl, ?_⟩; (refine zNp ?_))
      generalize pDef t.groups w false = x at hw hlx ⊢
      dsimp only at hw hlx
      (repeat' (first | refine zS ?_ | refine zlA1 rfl rfl rfl rfl zB rfl rfl (zNp ?_) | refine zlO1 rfl rfl rfl rfl zB rfl rfl (zNp ?_) | refine zlA2 rfl rfl rfl rfl zB rfl rfl (zNp ?_) | refine zlO2 rfl rfl rfl rfl zB rfl rfl (zNp ?_) | refine zlA3 rfl rfl rfl rfl zB rfl rfl (zNp ?_) | refine zlO3 rfl rfl rfl rfl zB rfl rfl (zNp ?_)))
      (refine pw_mv 2 10 hD rfl rfl rfl rfl rfl ?_; refine pw_norm rfl ?_)
      (refine pw_mv 3 11 hD rfl rfl rfl rfl rfl ?_; refine pw_norm rfl ?_)
      (refine pw_mv 4 12 hD rfl rfl rfl rfl rfl ?_; refine pw_norm rfl ?_)
      (refine pw_mv 5 13 hD rfl rfl rfl rfl rfl ?_; refine pw_norm rfl ?_)
      (refine pw_mv 6 14 hD rfl rfl rfl rfl rfl ?_; refine pw_norm rfl ?_)
      (refine pw_mv 7 15 hD rfl rfl rfl rfl rfl ?_; refine pw_norm rfl ?_)
      (refine pw_trim 9 hD rfl rfl ?_; refine pw_norm rfl ?_)
      refine pw_test rfl rfl zB ?_ ?_ <;> intro h2 <;> refine zNq ?_
      · rw [if_pos h2] at hw
        rw [← hw]
        (repeat' (first | (refine pw_draw [(0, true), (1, true), (2, true), (3, true), (4, false), (5, true), (6, true)] hmix (by decide +kernel) ?_; refine zDn ?_) | refine zS ?_ | refine zD ?_ | refine po_both ?_ ?_ | refine Go.Pw.pwt_both ?_ ?_ | refine Go.Pw.pwt_fork ?_ | refine Go.Pw.pwt_lin ?_ | (refine po_test rfl rfl rfl rfl zB ?_ ?_ <;> intro hb <;> first | (exfalso; omega) | refine zDn ?_) | refine zlA1 rfl rfl rfl rfl zB rfl rfl (zNp ?_) | refine zlO1 rfl rfl rfl rfl zB rfl rfl (zNp ?_) | refine zlA2 rfl rfl rfl rfl zB rfl rfl (zNp ?_) | refine zlO2 rfl rfl rfl rfl zB rfl rfl (zNp ?_) | refine zlA3 rfl rfl rfl rfl zB rfl rfl (zNp ?_) | refine zlO3 rfl rfl rfl rfl zB rfl rfl (zNp ?_) | (refine pw_test rfl rfl zB ?_ ?_ <;> intro h <;> first | (exfalso; omega) | refine zNq ?_)))
        exact ret0 _ (.tup [eIntent int0, .int .i64 num, .int .i64 x.1]) rfl rfl (by (refine .inr (.inr (.inr (.inr (.inr ⟨_, _, rfl, rfl, ?_⟩)))); (repeat (first | exact True.intro | refine ⟨.inr (.inl rfl), ?_⟩ | refine ⟨.inr (.inr (.inl ⟨rfl, rfl⟩)), ?_⟩ | refine ⟨.inr (.inr (.inr (.inl ⟨_, _, _, _, _, _, rfl, rfl, rfl, rfl, rfl⟩))), ?_⟩ | refine ⟨.inr (.inr (.inr (.inr (.inl ⟨_, _, rfl, rfl, ?_⟩)))), ?_⟩)))) rfl
      · rw [if_neg h2] at hw
        (repeat' (first | refine zS ?_ | refine zlA1 rfl rfl rfl rfl zB rfl rfl (zNp ?_) | refine zlO1 rfl rfl rfl rfl zB rfl rfl (zNp ?_) | refine zlA2 rfl rfl rfl rfl zB rfl rfl (zNp ?_) | refine zlO2 rfl rfl rfl rfl zB rfl rfl (zNp ?_) | refine zlA3 rfl rfl rfl rfl zB rfl rfl (zNp ?_) | refine zlO3 rfl rfl rfl rfl zB rfl rfl (zNp ?_) | (refine pw_test rfl rfl zB ?_ ?_ <;> intro h <;> first | (exfalso; omega) | refine zNq ?_)))
        exact ⟨(i + 1, { t with groups := x.2 }, c'), ⟨hw, by show i + 1 ≤ _; omega, hlx⟩, by show _ - (i + 1) < _ - i; omega, by (exact zLe), by (exact zLes)⟩
    · have hx : iLine t w = ((pDef t.services w true).1, { t with services := (pDef t.services w true).2 }) := by unfold iLine; (repeat (first | refine (if_pos (by assumption)).trans ?_ | refine (if_neg (by assumption)).trans ?_)); rfl
      rw [hx] at hw hlx
      (refine pl_op rfl (op_callA [1, 2, 3, 4, 5, 6, 7] rfl rfl e46 (by decide) rfl rfl rfl zLe zLes (c_defineS hG t ht.services c w true a3 (by omega)) (fun r s hq => ?_)); obtain ⟨c', rfl, rfl⟩ := hq; refine ⟨rfl, rfl, ?_⟩; (refine zNp ?_))
      generalize pDef t.services w true = x at hw hlx ⊢
      dsimp only at hw hlx
      (repeat' (first | refine zS ?_ | refine zlA1 rfl rfl rfl rfl zB rfl rfl (zNp ?_) | refine zlO1 rfl rfl rfl rfl zB rfl rfl (zNp ?_) | refine zlA2 rfl rfl rfl rfl zB rfl rfl (zNp ?_) | refine zlO2 rfl rfl rfl rfl zB rfl rfl (zNp ?_) | refine zlA3 rfl rfl rfl rfl zB rfl rfl (zNp ?_) | refine zlO3 rfl rfl rfl rfl zB rfl rfl (zNp ?_)))
      (refine pw_mv 2 10 hD rfl rfl rfl rfl rfl ?_; refine pw_norm rfl ?_)
      (refine pw_mv 3 11 hD rfl rfl rfl rfl rfl ?_; refine pw_norm rfl ?_)
      (refine pw_mv 4 12 hD rfl rfl rfl rfl rfl ?_; refine pw_norm rfl ?_)
      (refine pw_mv 5 13 hD rfl rfl rfl rfl rfl ?_; refine pw_norm rfl ?_)
      (refine pw_mv 6 14 hD rfl rfl rfl rfl rfl ?_; refine pw_norm rfl ?_)
      (refine pw_mv 7 15 hD rfl rfl rfl rfl rfl ?_; refine pw_norm rfl ?_)
      (refine pw_trim 9 hD rfl rfl ?_; refine pw_norm rfl ?_)
      refine pw_test rfl rfl zB ?_ ?_ <;> intro h2 <;> refine zNq ?_
      · rw [if_pos h2] at hw
        rw [← hw]
        (repeat' (first | (refine pw_draw [(0, true), (1, true), (2, true), (3, true), (4, false), (5, true), (6, true)] hmix (by decide +kernel) ?_; refine zDn ?_) | refine zS ?_ | refine zD ?_ | refine po_both ?_ ?_ | refine Go.Pw.pwt_both ?_ ?_ | refine Go.Pw.pwt_fork ?_ | refine Go.Pw.pwt_lin ?_ | (refine po_test rfl rfl rfl rfl zB ?_ ?_ <;> intro hb <;> first | (exfalso; omega) | refine zDn ?_) | refine zlA1 rfl rfl rfl rfl zB rfl rfl (zNp ?_) | refine zlO1 rfl rfl rfl rfl zB rfl rfl (zNp ?_) | refine zlA2 rfl rfl rfl rfl zB rfl rfl (zNp ?_) | refine zlO2 rfl rfl rfl rfl zB rfl rfl (zNp ?_) | refine zlA3 rfl rfl rfl rfl zB rfl rfl (zNp ?_) | refine zlO3 rfl rfl rfl rfl zB rfl rfl (zNp ?_) | (refine pw_test rfl rfl zB ?_ ?_ <;> intro h <;> first | (exfalso; omega) | refine zNq ?_)))
        exact ret0 _ (.tup [eIntent int0, .int .i64 num, .int .i64 x.1]) rfl rfl (by (refine .inr (.inr (.inr (.inr (.inr ⟨_, _, rfl, rfl, ?_⟩)))); (repeat (first | exact True.intro | refine ⟨.inr (.inl rfl), ?_⟩ | refine ⟨.inr (.inr (.inl ⟨rfl, rfl⟩)), ?_⟩ | refine ⟨.inr (.inr (.inr (.inl ⟨_, _, _, _, _, _, rfl, rfl, rfl, rfl, rfl⟩))), ?_⟩ | refine ⟨.inr (.inr (.inr (.inr (.inl ⟨_, _, rfl, rfl, ?_⟩)))), ?_⟩)))) rfl
      · rw [if_neg h2] at hw
        (repeat' (first | refine zS ?_ | refine zlA1 rfl rfl rfl rfl zB rfl rfl (zNp ?_) | refine zlO1 rfl rfl rfl rfl zB rfl rfl (zNp ?_) | refine zlA2 rfl rfl rfl rfl zB rfl rfl (zNp ?_) | refine zlO2 rfl rfl rfl rfl zB rfl rfl (zNp ?_) | refine zlA3 rfl rfl rfl rfl zB rfl rfl (zNp ?_) | refine zlO3 rfl rfl rfl rfl zB rfl rfl (zNp ?_) | (refine pw_test rfl rfl zB ?_ ?_ <;> intro h <;> first | (exfalso; omega) | refine zNq ?_)))
        exact ⟨(i + 1, { t with services := x.2 }, c'), ⟨hw, by show i + 1 ≤ _; omega, hlx⟩, by show _ - (i + 1) < _ - i; omega, by (exact zLe), by (exact zLes)⟩
    · have hx : iLine t w = ((pWin t.windows w).1, { t with windows := (pWin t.windows w).2 }) := by unfold iLine; (repeat (first | refine (if_pos (by assumption)).trans ?_ | refine (if_neg (by assumption)).trans ?_)); rfl
      rw [hx] at hw hlx
      (refine pl_op rfl (op_callA [1, 2, 3, 4, 5, 6, 7] rfl rfl e47 (by decide) rfl rfl rfl zLe zLes (c_readWindow hG hD' t ht.windows c w a3 (by omega)) (fun r s hq => ?_)); obtain ⟨c', rfl, rfl⟩ := hq; refine ⟨rfl, rfl, ?_⟩; (refine zNp ?_))
      generalize pWin t.windows w = x at hw hlx ⊢
      dsimp only at hw hlx
      (repeat' (first | refine zS ?_ | refine zlA1 rfl rfl rfl rfl zB rfl rfl (zNp ?_) | refine zlO1 rfl rfl rfl rfl zB rfl rfl (zNp ?_) | refine zlA2 rfl rfl rfl rfl zB rfl rfl (zNp ?_) | refine zlO2 rfl rfl rfl rfl zB rfl rfl (zNp ?_) | refine zlA3 rfl rfl rfl rfl zB rfl rfl (zNp ?_) | refine zlO3 rfl rfl rfl rfl zB rfl rfl (zNp ?_)))
      (refine pw_mv 2 10 hD rfl rfl rfl rfl rfl ?_; refine pw_norm rfl ?_)
      (refine pw_mv 3 11 hD rfl rfl rfl rfl rfl ?_; refine pw_norm rfl ?_)
      (refine pw_mv 4 12 hD rfl rfl rfl rfl rfl ?_; refine pw_norm rfl ?_)
      (refine pw_mv 5 13 hD rfl rfl rfl rfl rfl ?_; refine pw_norm rfl ?_)
      (refine pw_mv 6 14 hD rfl rfl rfl rfl rfl ?_; refine pw_norm rfl ?_)
      (refine pw_mv 7 15 hD rfl rfl rfl rfl rfl ?_; refine pw_norm rfl ?_)
      (refine pw_trim 9 hD rfl rfl ?_; refine pw_norm rfl ?_)
      refine pw_test rfl rfl zB ?_ ?_ <;> intro h2 <;> refine zNq ?_
      · rw [if_pos h2] at hw
        rw [← hw]
        (repeat' (first | (refine pw_draw [(0, true), (1, true), (2, true), (3, true), (4, false), (5, true), (6, true)] hmix (by decide +kernel) ?_; refine zDn ?_) | refine zS ?_ | refine zD ?_ | refine po_both ?_ ?_ | refine Go.Pw.pwt_both ?_ ?_ | refine Go.Pw.pwt_fork ?_ | refine Go.Pw.pwt_lin ?_ | (refine po_test rfl rfl rfl rfl zB ?_ ?_ <;> intro hb <;> first | (exfalso; omega) | refine zDn ?_) | refine zlA1 rfl rfl rfl rfl zB rfl rfl (zNp ?_) | refine zlO1 rfl rfl rfl rfl zB rfl rfl (zNp ?_) | refine zlA2 rfl rfl rfl rfl zB rfl rfl (zNp ?_) | refine zlO2 rfl rfl rfl rfl zB rfl rfl (zNp ?_) | refine zlA3 rfl rfl rfl rfl zB rfl rfl (zNp ?_) | refine zlO3 rfl rfl rfl rfl zB rfl rfl (zNp ?_) | (refine pw_test rfl rfl zB ?_ ?_ <;> intro h <;> first | (exfalso; omega) | refine zNq ?_)))
        exact ret0 _ (.tup [eIntent int0, .int .i64 num, .int .i64 x.1]) rfl rfl (by (refine .inr (.inr (.inr (.inr (.inr ⟨_, _, rfl, rfl, ?_⟩)))); (repeat (first | exact True.intro | refine ⟨.inr (.inl rfl), ?_⟩ | refine ⟨.inr (.inr (.inl ⟨rfl, rfl⟩)), ?_⟩ | refine ⟨.inr (.inr (.inr (.inl ⟨_, _, _, _, _, _, rfl, rfl, rfl, rfl, rfl⟩))), ?_⟩ | refine ⟨.inr (.inr (.inr (.inr (.inl ⟨_, _, rfl, rfl, ?_⟩)))), ?_⟩)))) rfl
      · rw [if_neg h2] at hw
        (repeat' (first | refine zS ?_ | refine zlA1 rfl rfl rfl rfl zB rfl rfl (zNp ?_) | refine zlO1 rfl rfl rfl rfl zB rfl rfl (zNp ?_) | refine zlA2 rfl rfl rfl rfl zB rfl rfl (zNp ?_) | refine zlO2 rfl rfl rfl rfl zB rfl rfl (zNp ?_) | refine zlA3 rfl rfl rfl rfl zB rfl rfl (zNp ?_) | refine zlO3 rfl rfl rfl rfl zB rfl rfl (zNp ?_) | (refine pw_test rfl rfl zB ?_ ?_ <;> intro h <;> first | (exfalso; omega) | refine zNq ?_)))
        exact ⟨(i + 1, { t with windows := x.2 }, c'), ⟨hw, by show i + 1 ≤ _; omega, hlx⟩, by show _ - (i + 1) < _ - i; omega, by (exact zLe), by (exact zLes)⟩
    · have hx : iLine t w = ((pStm t.stms w).1, { t with stms := (pStm t.stms w).2 }) := by unfold iLine; (repeat (first | refine (if_pos (by assumption)).trans ?_ | refine (if_neg (by assumption)).trans ?_)); rfl
      rw [hx] at hw hlx
      (refine pl_op rfl (op_callA [1, 2, 3, 4, 5, 6, 7] rfl rfl e48 (by decide) rfl rfl rfl zLe zLes (c_readStatement t ht.stms c w a3 (by omega)) (fun r s hq => ?_)); obtain ⟨c', rfl, rfl⟩ := hq; refine ⟨rfl, rfl, ?_⟩; (refine zNp ?_))
      generalize pStm t.stms w = x at hw hlx ⊢
      dsimp only at hw hlx
      (repeat' (first | refine zS ?_ | refine zlA1 rfl rfl rfl rfl zB rfl rfl (zNp ?_) | refine zlO1 rfl rfl rfl rfl zB rfl rfl (zNp ?_) | refine zlA2 rfl rfl rfl rfl zB rfl rfl (zNp ?_) | refine zlO2 rfl rfl rfl rfl zB rfl rfl (zNp ?_) | refine zlA3 rfl rfl rfl rfl zB rfl rfl (zNp ?_) | refine zlO3 rfl rfl rfl rfl zB rfl rfl (zNp ?_)))
      (refine pw_mv 2 10 hD rfl rfl rfl rfl rfl ?_; refine pw_norm rfl ?_)
      (refine pw_mv 3 11 hD rfl rfl rfl rfl rfl ?_; refine pw_norm rfl ?_)
      (refine pw_mv 4 12 hD rfl rfl rfl rfl rfl ?_; refine pw_norm rfl ?_)
      (refine pw_mv 5 13 hD rfl rfl rfl rfl rfl ?_; refine pw_norm rfl ?_)
      (refine pw_mv 6 14 hD rfl rfl rfl rfl rfl ?_; refine pw_norm rfl ?_)
      (refine pw_mv 7 15 hD rfl rfl rfl rfl rfl ?_; refine pw_norm rfl ?_)
      (refine pw_trim 9 hD rfl rfl ?_; refine pw_norm rfl ?_)
      refine pw_test rfl rfl zB ?_ ?_ <;> intro h2 <;> refine zNq ?_
      · rw [if_pos h2] at hw
        rw [← hw]
        (repeat' (first | (refine pw_draw [(0, true), (1, true), (2, true), (3, true), (4, false), (5, true), (6, true)] hmix (by decide +kernel) ?_; refine zDn ?_) | refine zS ?_ | refine zD ?_ | refine po_both ?_ ?_ | refine Go.Pw.pwt_both ?_ ?_ | refine Go.Pw.pwt_fork ?_ | refine Go.Pw.pwt_lin ?_ | (refine po_test rfl rfl rfl rfl zB ?_ ?_ <;> intro hb <;> first | (exfalso; omega) | refine zDn ?_) | refine zlA1 rfl rfl rfl rfl zB rfl rfl (zNp ?_) | refine zlO1 rfl rfl rfl rfl zB rfl rfl (zNp ?_) | refine zlA2 rfl rfl rfl rfl zB rfl rfl (zNp ?_) | refine zlO2 rfl rfl rfl rfl zB rfl rfl (zNp ?_) | refine zlA3 rfl rfl rfl rfl zB rfl rfl (zNp ?_) | refine zlO3 rfl rfl rfl rfl zB rfl rfl (zNp ?_) | (refine pw_test rfl rfl zB ?_ ?_ <;> intro h <;> first | (exfalso; omega) | refine zNq ?_)))
        exact ret0 _ (.tup [eIntent int0, .int .i64 num, .int .i64 x.1]) rfl rfl (by (refine .inr (.inr (.inr (.inr (.inr ⟨_, _, rfl, rfl, ?_⟩)))); (repeat (first | exact True.intro | refine ⟨.inr (.inl rfl), ?_⟩ | refine ⟨.inr (.inr (.inl ⟨rfl, rfl⟩)), ?_⟩ | refine ⟨.inr (.inr (.inr (.inl ⟨_, _, _, _, _, _, rfl, rfl, rfl, rfl, rfl⟩))), ?_⟩ | refine ⟨.inr (.inr (.inr (.inr (.inl ⟨_, _, rfl, rfl, ?_⟩)))), ?_⟩)))) rfl
      · rw [if_neg h2] at hw
        (repeat' (first | refine zS ?_ | refine zlA1 rfl rfl rfl rfl zB rfl rfl (zNp ?_) | refine zlO1 rfl rfl rfl rfl zB rfl rfl (zNp ?_) | refine zlA2 rfl rfl rfl rfl zB rfl rfl (zNp ?_) | refine zlO2 rfl rfl rfl rfl zB rfl rfl (zNp ?_) | refine zlA3 rfl rfl rfl rfl zB rfl rfl (zNp ?_) | refine zlO3 rfl rfl rfl rfl zB rfl rfl (zNp ?_) | (refine pw_test rfl rfl zB ?_ ?_ <;> intro h <;> first | (exfalso; omega) | refine zNq ?_)))
        exact ⟨(i + 1, { t with stms := x.2 }, c'), ⟨hw, by show i + 1 ≤ _; omega, hlx⟩, by show _ - (i + 1) < _ - i; omega, by (exact zLe), by (exact zLes)⟩
    · have hx : iLine t w = ((pStm t.stms w).1, { t with stms := (pStm t.stms w).2 }) := by unfold iLine; (repeat (first | refine (if_pos (by assumption)).trans ?_ | refine (if_neg (by assumption)).trans ?_)); rfl
      rw [hx] at hw hlx
      (refine pl_op rfl (op_callA [1, 2, 3, 4, 5, 6, 7] rfl rfl e48 (by decide) rfl rfl rfl zLe zLes (c_readStatement t ht.stms c w a3 (by omega)) (fun r s hq => ?_)); obtain ⟨c', rfl, rfl⟩ := hq; refine ⟨rfl, rfl, ?_⟩; (refine zNp ?_))
      generalize pStm t.stms w = x at hw hlx ⊢
      dsimp only at hw hlx
      (repeat' (first | refine zS ?_ | refine zlA1 rfl rfl rfl rfl zB rfl rfl (zNp ?_) | refine zlO1 rfl rfl rfl rfl zB rfl rfl (zNp ?_) | refine zlA2 rfl rfl rfl rfl zB rfl rfl (zNp ?_) | refine zlO2 rfl rfl rfl rfl zB rfl rfl (zNp ?_) | refine zlA3 rfl rfl rfl rfl zB rfl rfl (zNp ?_) | refine zlO3 rfl rfl rfl rfl zB rfl rfl (zNp ?_)))
      (refine pw_mv 2 10 hD rfl rfl rfl rfl rfl ?_; refine pw_norm rfl ?_)
      (refine pw_mv 3 11 hD rfl rfl rfl rfl rfl ?_; refine pw_norm rfl ?_)
      (refine pw_mv 4 12 hD rfl rfl rfl rfl rfl ?_; refine pw_norm rfl ?_)
      (refine pw_mv 5 13 hD rfl rfl rfl rfl rfl ?_; refine pw_norm rfl ?_)
      (refine pw_mv 6 14 hD rfl rfl rfl rfl rfl ?_; refine pw_norm rfl ?_)
      (refine pw_mv 7 15 hD rfl rfl rfl rfl rfl ?_; refine pw_norm rfl ?_)
      (refine pw_trim 9 hD rfl rfl ?_; refine pw_norm rfl ?_)
      refine pw_test rfl rfl zB ?_ ?_ <;> intro h2 <;> refine zNq ?_
      · rw [if_pos h2] at hw
        rw [← hw]
        (repeat' (first | (refine pw_draw [(0, true), (1, true), (2, true), (3, true), (4, false), (5, true), (6, true)] hmix (by decide +kernel) ?_; refine zDn ?_) | refine zS ?_ | refine zD ?_ | refine po_both ?_ ?_ | refine Go.Pw.pwt_both ?_ ?_ | refine Go.Pw.pwt_fork ?_ | refine Go.Pw.pwt_lin ?_ | (refine po_test rfl rfl rfl rfl zB ?_ ?_ <;> intro hb <;> first | (exfalso; omega) | refine zDn ?_) | refine zlA1 rfl rfl rfl rfl zB rfl rfl (zNp ?_) | refine zlO1 rfl rfl rfl rfl zB rfl rfl (zNp ?_) | refine zlA2 rfl rfl rfl rfl zB rfl rfl (zNp ?_) | refine zlO2 rfl rfl rfl rfl zB rfl rfl (zNp ?_) | refine zlA3 rfl rfl rfl rfl zB rfl rfl (zNp ?_) | refine zlO3 rfl rfl rfl rfl zB rfl rfl (zNp ?_) | (refine pw_test rfl rfl zB ?_ ?_ <;> intro h <;> first | (exfalso; omega) | refine zNq ?_)))
        exact ret0 _ (.tup [eIntent int0, .int .i64 num, .int .i64 x.1]) rfl rfl (by (refine .inr (.inr (.inr (.inr (.inr ⟨_, _, rfl, rfl, ?_⟩)))); (repeat (first | exact True.intro | refine ⟨.inr (.inl rfl), ?_⟩ | refine ⟨.inr (.inr (.inl ⟨rfl, rfl⟩)), ?_⟩ | refine ⟨.inr (.inr (.inr (.inl ⟨_, _, _, _, _, _, rfl, rfl, rfl, rfl, rfl⟩))), ?_⟩ | refine ⟨.inr (.inr (.inr (.inr (.inl ⟨_, _, rfl, rfl, ?_⟩)))), ?_⟩)))) rfl
      · rw [if_neg h2] at hw
        (repeat' (first | refine zS ?_ | refine zlA1 rfl rfl rfl rfl zB rfl rfl (zNp ?_) | refine zlO1 rfl rfl rfl rfl zB rfl rfl (zNp ?_) | refine zlA2 rfl rfl rfl rfl zB rfl rfl (zNp ?_) | refine zlO2 rfl rfl rfl rfl zB rfl rfl (zNp ?_) | refine zlA3 rfl rfl rfl rfl zB rfl rfl (zNp ?_) | refine zlO3 rfl rfl rfl rfl zB rfl rfl (zNp ?_) | (refine pw_test rfl rfl zB ?_ ?_ <;> intro h <;> first | (exfalso; omega) | refine zNq ?_)))
        exact ⟨(i + 1, { t with stms := x.2 }, c'), ⟨hw, by show i + 1 ≤ _; omega, hlx⟩, by show _ - (i + 1) < _ - i; omega, by (exact zLe), by (exact zLes)⟩
    · have hx : iLine t w = ((pPub t.pubs w).1, { t with pubs := (pPub t.pubs w).2 }) := by unfold iLine; (repeat (first | refine (if_pos (by assumption)).trans ?_ | refine (if_neg (by assumption)).trans ?_)); rfl
      rw [hx] at hw hlx
      (refine pl_op rfl (op_callA [1, 2, 3, 4, 5, 6, 7] rfl rfl e49 (by decide) rfl rfl rfl zLe zLes (c_publish hG t ht.pubs c w a3 (by omega)) (fun r s hq => ?_)); obtain ⟨c', rfl, rfl⟩ := hq; refine ⟨rfl, rfl, ?_⟩; (refine zNp ?_))
      generalize pPub t.pubs w = x at hw hlx ⊢
      dsimp only at hw hlx
      (repeat' (first | refine zS ?_ | refine zlA1 rfl rfl rfl rfl zB rfl rfl (zNp ?_) | refine zlO1 rfl rfl rfl rfl zB rfl rfl (zNp ?_) | refine zlA2 rfl rfl rfl rfl zB rfl rfl (zNp ?_) | refine zlO2 rfl rfl rfl rfl zB rfl rfl (zNp ?_) | refine zlA3 rfl rfl rfl rfl zB rfl rfl (zNp ?_) | refine zlO3 rfl rfl rfl rfl zB rfl rfl (zNp ?_)))
      (refine pw_mv 2 10 hD rfl rfl rfl rfl rfl ?_; refine pw_norm rfl ?_)
      (refine pw_mv 3 11 hD rfl rfl rfl rfl rfl ?_; refine pw_norm rfl ?_)
      (refine pw_mv 4 12 hD rfl rfl rfl rfl rfl ?_; refine pw_norm rfl ?_)
      (refine pw_mv 5 13 hD rfl rfl rfl rfl rfl ?_; refine pw_norm rfl ?_)
      (refine pw_mv 6 14 hD rfl rfl rfl rfl rfl ?_; refine pw_norm rfl ?_)
      (refine pw_mv 7 15 hD rfl rfl rfl rfl rfl ?_; refine pw_norm rfl ?_)
      (refine pw_trim 9 hD rfl rfl ?_; refine pw_norm rfl ?_)
      refine pw_test rfl rfl zB ?_ ?_ <;> intro h2 <;> refine zNq ?_
      · rw [if_pos h2] at hw
        rw [← hw]
        (repeat' (first | (refine pw_draw [(0, true), (1, true), (2, true), (3, true), (4, false), (5, true), (6, true)] hmix (by decide +kernel) ?_; refine zDn ?_) | refine zS ?_ | refine zD ?_ | refine po_both ?_ ?_ | refine Go.Pw.pwt_both ?_ ?_ | refine Go.Pw.pwt_fork ?_ | refine Go.Pw.pwt_lin ?_ | (refine po_test rfl rfl rfl rfl zB ?_ ?_ <;> intro hb <;> first | (exfalso; omega) | refine zDn ?_) | refine zlA1 rfl rfl rfl rfl zB rfl rfl (zNp ?_) | refine zlO1 rfl rfl rfl rfl zB rfl rfl (zNp ?_) | refine zlA2 rfl rfl rfl rfl zB rfl rfl (zNp ?_) | refine zlO2 rfl rfl rfl rfl zB rfl rfl (zNp ?_) | refine zlA3 rfl rfl rfl rfl zB rfl rfl (zNp ?_) | refine zlO3 rfl rfl rfl rfl zB rfl rfl (zNp ?_) | (refine pw_test rfl rfl zB ?_ ?_ <;> intro h <;> first | (exfalso; omega) | refine zNq ?_)))
        exact ret0 _ (.tup [eIntent int0, .int .i64 num, .int .i64 x.1]) rfl rfl (by (refine .inr (.inr (.inr (.inr (.inr ⟨_, _, rfl, rfl, ?_⟩)))); (repeat (first | exact True.intro | refine ⟨.inr (.inl rfl), ?_⟩ | refine ⟨.inr (.inr (.inl ⟨rfl, rfl⟩)), ?_⟩ | refine ⟨.inr (.inr (.inr (.inl ⟨_, _, _, _, _, _, rfl, rfl, rfl, rfl, rfl⟩))), ?_⟩ | refine ⟨.inr (.inr (.inr (.inr (.inl ⟨_, _, rfl, rfl, ?_⟩)))), ?_⟩)))) rfl
      · rw [if_neg h2] at hw
        (repeat' (first | refine zS ?_ | refine zlA1 rfl rfl rfl rfl zB rfl rfl (zNp ?_) | refine zlO1 rfl rfl rfl rfl zB rfl rfl (zNp ?_) | refine zlA2 rfl rfl rfl rfl zB rfl rfl (zNp ?_) | refine zlO2 rfl rfl rfl rfl zB rfl rfl (zNp ?_) | refine zlA3 rfl rfl rfl rfl zB rfl rfl (zNp ?_) | refine zlO3 rfl rfl rfl rfl zB rfl rfl (zNp ?_) | (refine pw_test rfl rfl zB ?_ ?_ <;> intro h <;> first | (exfalso; omega) | refine zNq ?_)))
        exact ⟨(i + 1, { t with pubs := x.2 }, c'), ⟨hw, by show i + 1 ≤ _; omega, hlx⟩, by show _ - (i + 1) < _ - i; omega, by (exact zLe), by (exact zLes)⟩
    · have hx : iLine t w = ((pHid t.hids w).1, { t with hids := (pHid t.hids w).2 }) := by unfold iLine; (repeat (first | refine (if_pos (by assumption)).trans ?_ | refine (if_neg (by assumption)).trans ?_)); rfl
      rw [hx] at hw hlx
      (refine pl_op rfl (op_callA [1, 2, 3, 4, 5, 6, 7] rfl rfl e50 (by decide) rfl rfl rfl zLe zLes (c_hide hG t ht.hids c w a3 (by omega)) (fun r s hq => ?_)); obtain ⟨c', rfl, rfl⟩ := hq; refine ⟨rfl, rfl, ?_⟩; (refine zNp ?_))
      generalize pHid t.hids w = x at hw hlx ⊢
      dsimp only at hw hlx
      (repeat' (first | refine zS ?_ | refine zlA1 rfl rfl rfl rfl zB rfl rfl (zNp ?_) | refine zlO1 rfl rfl rfl rfl zB rfl rfl (zNp ?_) | refine zlA2 rfl rfl rfl rfl zB rfl rfl (zNp ?_) | refine zlO2 rfl rfl rfl rfl zB rfl rfl (zNp ?_) | refine zlA3 rfl rfl rfl rfl zB rfl rfl (zNp ?_) | refine zlO3 rfl rfl rfl rfl zB rfl rfl (zNp ?_)))
      (refine pw_mv 2 10 hD rfl rfl rfl rfl rfl ?_; refine pw_norm rfl ?_)
      (refine pw_mv 3 11 hD rfl rfl rfl rfl rfl ?_; refine pw_norm rfl ?_)
      (refine pw_mv 4 12 hD rfl rfl rfl rfl rfl ?_; refine pw_norm rfl ?_)
      (refine pw_mv 5 13 hD rfl rfl rfl rfl rfl ?_; refine pw_norm rfl ?_)
      (refine pw_mv 6 14 hD rfl rfl rfl rfl rfl ?_; refine pw_norm rfl ?_)
      (refine pw_mv 7 15 hD rfl rfl rfl rfl rfl ?_; refine pw_norm rfl ?_)
      (refine pw_trim 9 hD rfl rfl ?_; refine pw_norm rfl ?_)
      refine pw_test rfl rfl zB ?_ ?_ <;> intro h2 <;> refine zNq ?_
      · rw [if_pos h2] at hw
        rw [← hw]
        (repeat' (first | (refine pw_draw [(0, true), (1, true), (2, true), (3, true), (4, false), (5, true), (6, true)] hmix (by decide +kernel) ?_; refine zDn ?_) | refine zS ?_ | refine zD ?_ | refine po_both ?_ ?_ | refine Go.Pw.pwt_both ?_ ?_ | refine Go.Pw.pwt_fork ?_ | refine Go.Pw.pwt_lin ?_ | (refine po_test rfl rfl rfl rfl zB ?_ ?_ <;> intro hb <;> first | (exfalso; omega) | refine zDn ?_) | refine zlA1 rfl rfl rfl rfl zB rfl rfl (zNp ?_) | refine zlO1 rfl rfl rfl rfl zB rfl rfl (zNp ?_) | refine zlA2 rfl rfl rfl rfl zB rfl rfl (zNp ?_) | refine zlO2 rfl rfl rfl rfl zB rfl rfl (zNp ?_) | refine zlA3 rfl rfl rfl rfl zB rfl rfl (zNp ?_) | refine zlO3 rfl rfl rfl rfl zB rfl rfl (zNp ?_) | (refine pw_test rfl rfl zB ?_ ?_ <;> intro h <;> first | (exfalso; omega) | refine zNq ?_)))
        exact ret0 _ (.tup [eIntent int0, .int .i64 num, .int .i64 x.1]) rfl rfl (by (refine .inr (.inr (.inr (.inr (.inr ⟨_, _, rfl, rfl, ?_⟩)))); (repeat (first | exact True.intro | refine ⟨.inr (.inl rfl), ?_⟩ | refine ⟨.inr (.inr (.inl ⟨rfl, rfl⟩)), ?_⟩ | refine ⟨.inr (.inr (.inr (.inl ⟨_, _, _, _, _, _, rfl, rfl, rfl, rfl, rfl⟩))), ?_⟩ | refine ⟨.inr (.inr (.inr (.inr (.inl ⟨_, _, rfl, rfl, ?_⟩)))), ?_⟩)))) rfl
      · rw [if_neg h2] at hw
        (repeat' (first | refine zS ?_ | refine zlA1 rfl rfl rfl rfl zB rfl rfl (zNp ?_) | refine zlO1 rfl rfl rfl rfl zB rfl rfl (zNp ?_) | refine zlA2 rfl rfl rfl rfl zB rfl rfl (zNp ?_) | refine zlO2 rfl rfl rfl rfl zB rfl rfl (zNp ?_) | refine zlA3 rfl rfl rfl rfl zB rfl rfl (zNp ?_) | refine zlO3 rfl rfl rfl rfl zB rfl rfl (zNp ?_) | (refine pw_test rfl rfl zB ?_ ?_ <;> intro h <;> first | (exfalso; omega) | refine zNq ?_)))
        exact ⟨(i + 1, { t with hids := x.2 }, c'), ⟨hw, by show i + 1 ≤ _; omega, hlx⟩, by show _ - (i + 1) < _ - i; omega, by (exact zLe), by (exact zLes)⟩
    · have hx : iLine t w = (4, t) := by unfold iLine; (repeat (first | refine (if_pos (by assumption)).trans ?_ | refine (if_neg (by assumption)).trans ?_)); rfl
      rw [hx] at hw
      have hw' : (int0, num, (4 : Int)) = iRun ls int0 := hw
      rw [← hw']
      exact ret0 _ (.tup [eIntent int0, .int .i64 num, .int .i64 4]) rfl rfl (by (refine .inr (.inr (.inr (.inr (.inr ⟨_, _, rfl, rfl, ?_⟩)))); (repeat (first | exact True.intro | refine ⟨.inr (.inl rfl), ?_⟩ | refine ⟨.inr (.inr (.inl ⟨rfl, rfl⟩)), ?_⟩ | refine ⟨.inr (.inr (.inr (.inl ⟨_, _, _, _, _, _, rfl, rfl, rfl, rfl, rfl⟩))), ?_⟩ | refine ⟨.inr (.inr (.inr (.inr (.inl ⟨_, _, rfl, rfl, ?_⟩)))), ?_⟩)))) rfl
  · have hie : i = ls.length := by omega
    subst hie
    rw [List.drop_length, iRun] at hw
    rw [← hw]
    (repeat' (first | refine zS ?_ | refine zlA1 rfl rfl rfl rfl zB rfl rfl (zNp ?_) | refine zlO1 rfl rfl rfl rfl zB rfl rfl (zNp ?_) | refine zlA2 rfl rfl rfl rfl zB rfl rfl (zNp ?_) | refine zlO2 rfl rfl rfl rfl zB rfl rfl (zNp ?_) | refine zlA3 rfl rfl rfl rfl zB rfl rfl (zNp ?_) | refine zlO3 rfl rfl rfl rfl zB rfl rfl (zNp ?_) | (refine pw_test rfl rfl zB ?_ ?_ <;> intro h <;> first | (exfalso; omega) | refine zNq ?_)))
    exact ret0 _ (.tup [eIntent t, .int .i64 0, .int .i64 0]) rfl rfl (by (refine .inr (.inr (.inr (.inr (.inr ⟨_, _, rfl, rfl, ?_⟩)))); (repeat (first | exact True.intro | refine ⟨.inr (.inl rfl), ?_⟩ | refine ⟨.inr (.inr (.inl ⟨rfl, rfl⟩)), ?_⟩ | refine ⟨.inr (.inr (.inr (.inl ⟨_, _, _, _, _, _, rfl, rfl, rfl, rfl, rfl⟩))), ?_⟩ | refine ⟨.inr (.inr (.inr (.inr (.inl ⟨_, _, rfl, rfl, ?_⟩)))), ?_⟩)))) rfl
end Go.Proofs.YtkaobkjcjodffaaGreatDoor
namespace Go.Proofs.YtkaobkjcjodffaaGreatDoor
open Go Go.Pw
variable {Gl : Glob}
attribute [local irreducible] PW PWL OpP PCalls PWO iParse iValid
set_option maxHeartbeats 20000000
set_option maxRecDepth 100000
theorem saneI_valid : iValid saneI = true := by kernel_rfl
theorem saneI_big : IBig saneI := ⟨by decide, by decide, by decide, by decide, by decide, by decide, by decide, by decide, by decide⟩
theorem c_sane (hG : GM Gl) (hD' : GD Gl) : PFun Tryz.prog Gl 18 [] fun r => r = .bool true := by
  (refine PFun.of hT Tryz.func18 rfl fun B hD => ?_; refine pw_norm rfl ?_)
  (repeat' (first | refine zS ?_ | refine zlA1 rfl rfl rfl rfl zB rfl rfl (zNp ?_) | refine zlO1 rfl rfl rfl rfl zB rfl rfl (zNp ?_) | refine zlA2 rfl rfl rfl rfl zB rfl rfl (zNp ?_) | refine zlO2 rfl rfl rfl rfl zB rfl rfl (zNp ?_) | refine zlA3 rfl rfl rfl rfl zB rfl rfl (zNp ?_) | refine zlO3 rfl rfl rfl rfl zB rfl rfl (zNp ?_) | (refine pw_test rfl rfl zB ?_ ?_ <;> intro h <;> first | (exfalso; omega) | refine zNq ?_)))
  (refine pl_op rfl (op_fun (c_iParse hG hD' saneI1) rfl rfl e19 zLe rfl (fun r hr => ?_)); subst hr; refine ⟨rfl, ?_⟩; (refine zNp ?_))
  rw [saneI1_is]
  (repeat' (first | refine zS ?_ | refine zlA1 rfl rfl rfl rfl zB rfl rfl (zNp ?_) | refine zlO1 rfl rfl rfl rfl zB rfl rfl (zNp ?_) | refine zlA2 rfl rfl rfl rfl zB rfl rfl (zNp ?_) | refine zlO2 rfl rfl rfl rfl zB rfl rfl (zNp ?_) | refine zlA3 rfl rfl rfl rfl zB rfl rfl (zNp ?_) | refine zlO3 rfl rfl rfl rfl zB rfl rfl (zNp ?_) | (refine pw_test rfl rfl zB ?_ ?_ <;> intro h <;> first | (exfalso; omega) | refine zNq ?_)))
  (refine pl_op rfl (op_fun (c_iParse hG hD' saneI2) rfl rfl e19 zLe rfl (fun r hr => ?_)); subst hr; refine ⟨rfl, ?_⟩; (refine zNp ?_))
  rw [saneI2_is]
  (repeat' (first | refine zS ?_ | refine zlA1 rfl rfl rfl rfl zB rfl rfl (zNp ?_) | refine zlO1 rfl rfl rfl rfl zB rfl rfl (zNp ?_) | refine zlA2 rfl rfl rfl rfl zB rfl rfl (zNp ?_) | refine zlO2 rfl rfl rfl rfl zB rfl rfl (zNp ?_) | refine zlA3 rfl rfl rfl rfl zB rfl rfl (zNp ?_) | refine zlO3 rfl rfl rfl rfl zB rfl rfl (zNp ?_) | (refine pw_test rfl rfl zB ?_ ?_ <;> intro h <;> first | (exfalso; omega) | refine zNq ?_)))
  (refine pl_op rfl (op_of (v_index (p := eStm saneStm) hT rfl rfl rfl rfl (by omega) (rfl) rfl) ?_); (refine zNp ?_))
  (repeat' (first | refine zS ?_ | refine zlA1 rfl rfl rfl rfl zB rfl rfl (zNp ?_) | refine zlO1 rfl rfl rfl rfl zB rfl rfl (zNp ?_) | refine zlA2 rfl rfl rfl rfl zB rfl rfl (zNp ?_) | refine zlO2 rfl rfl rfl rfl zB rfl rfl (zNp ?_) | refine zlA3 rfl rfl rfl rfl zB rfl rfl (zNp ?_) | refine zlO3 rfl rfl rfl rfl zB rfl rfl (zNp ?_) | (refine pw_test rfl rfl zB ?_ ?_ <;> intro h <;> first | (exfalso; omega) | refine zNq ?_)))
  (refine pl_on rfl rfl (op_fun (c_iValid hD' saneI saneI_big (fun d h => by cases h)) rfl rfl e29 zLe rfl (fun r hr => ?_)); subst hr; refine ⟨rfl, ?_⟩; (refine zNp ?_))
  rw [saneI_valid]
  (repeat' (first | refine zS ?_ | refine zlA1 rfl rfl rfl rfl zB rfl rfl (zNp ?_) | refine zlO1 rfl rfl rfl rfl zB rfl rfl (zNp ?_) | refine zlA2 rfl rfl rfl rfl zB rfl rfl (zNp ?_) | refine zlO2 rfl rfl rfl rfl zB rfl rfl (zNp ?_) | refine zlA3 rfl rfl rfl rfl zB rfl rfl (zNp ?_) | refine zlO3 rfl rfl rfl rfl zB rfl rfl (zNp ?_) | (refine pw_test rfl rfl zB ?_ ?_ <;> intro h <;> first | (exfalso; omega) | refine zNq ?_)))
  exact ret2 _ rfl rfl rfl
instance iSane : ConF Tryz.prog Gl 18 [] (GM Gl ∧ GD Gl) (.bool true) := ⟨e18, fun h => c_sane h.1 h.2⟩
end Go.Proofs.YtkaobkjcjodffaaGreatDoor
namespace Go.Proofs.YtkaobkjcjodffaaGreatDoor
open Go Go.Pw
def digit10 (n : Nat) : Str := [UInt8.ofNat (48 + n)]
def stmText (pm ex du cl : Bool) (n : Nat) : Str :=
  ((((if pm = true then [97, 108, 108, 111, 119, 32, 97, 32, 45, 62, 32, 98, 32, 99] else [100, 101, 110, 121, 32, 97, 32, 45, 62, 32, 98, 32, 99]) ++ if ex = true then [32, 101, 120, 99, 101, 112, 116, 32, 97, 110, 121, 32, 45, 62, 32, 120] else []) ++ if cl = true ∧ pm = true then [32, 118, 105, 97, 32, 105, 112, 115] else []) ++ if du = true then [32, 100, 117, 114, 105, 110, 103, 32, 119] else []) ++ if 0 < n then [32, 112, 114, 105, 111, 114, 105, 116, 121, 32] ++ digit10 n else []
def stmWant (pm ex du cl : Bool) (n : Nat) : TStm :=
  ⟨pm, [97], [98], [99], ex, [], if ex = true then [120] else [], if cl = true ∧ pm = true then [105, 112, 115] else [], if du = true then [119] else [], n⟩
set_option maxRecDepth 100000
theorem stm_is (pm ex du cl : Bool) (n : Nat) (hn : n < 10) : iParse (stmText pm ex du cl n) = ({ int0 with stms := [stmWant pm ex du cl n] }, 0, 0) := by
  match n, hn with
  | 0, _ => cases pm <;> cases ex <;> cases du <;> cases cl <;> (show iParse _ = _; kernel_rfl)
  | 1, _ => cases pm <;> cases ex <;> cases du <;> cases cl <;> (show iParse _ = _; kernel_rfl)
  | 2, _ => cases pm <;> cases ex <;> cases du <;> cases cl <;> (show iParse _ = _; kernel_rfl)
  | 3, _ => cases pm <;> cases ex <;> cases du <;> cases cl <;> (show iParse _ = _; kernel_rfl)
  | 4, _ => cases pm <;> cases ex <;> cases du <;> cases cl <;> (show iParse _ = _; kernel_rfl)
  | 5, _ => cases pm <;> cases ex <;> cases du <;> cases cl <;> (show iParse _ = _; kernel_rfl)
  | 6, _ => cases pm <;> cases ex <;> cases du <;> cases cl <;> (show iParse _ = _; kernel_rfl)
  | 7, _ => cases pm <;> cases ex <;> cases du <;> cases cl <;> (show iParse _ = _; kernel_rfl)
  | 8, _ => cases pm <;> cases ex <;> cases du <;> cases cl <;> (show iParse _ = _; kernel_rfl)
  | 9, _ => cases pm <;> cases ex <;> cases du <;> cases cl <;> (show iParse _ = _; kernel_rfl)
def cntLine : Nat → Str
  | 0 => [97, 108, 108, 111, 119, 32, 97, 110, 121, 32, 45, 62, 32, 97, 110, 121, 32, 97, 110, 121] ++ [10]
  | 1 => [112, 117, 98, 108, 105, 115, 104, 32, 49, 46, 50, 46, 51, 46, 52, 32, 116, 99, 112, 32, 56, 48, 32, 97, 116, 32, 101, 49, 32, 116, 111, 32, 49, 48, 46, 48, 46, 48, 46, 49, 32, 56, 48, 56, 48] ++ [10]
  | 2 => [104, 105, 100, 101, 32, 103, 49, 32, 97, 116, 32, 101, 49, 32, 98, 101, 104, 105, 110, 100, 32, 49, 46, 50, 46, 51, 46, 52, 32, 112, 111, 114, 116, 115, 32, 49, 48, 50, 52] ++ [10]
  | _ => [100, 101, 110, 121, 32, 97, 110, 121, 32, 45, 62, 32, 97, 110, 121, 32, 97, 110, 121] ++ [10]
def cntMost : Nat → Nat
  | 0 => 64
  | 1 => 16
  | 2 => 8
  | _ => 64
def cntText (n k : Nat) : Str := (List.replicate k (cntLine n)).flatten
end Go.Proofs.YtkaobkjcjodffaaGreatDoor
namespace Go.Proofs.YtkaobkjcjodffaaGreatDoor
open Go Go.Pw
variable {Gl : Glob}
attribute [local irreducible] PW PWL OpP PCalls PWO iParse
set_option maxHeartbeats 20000000
set_option maxRecDepth 100000
def digs10 : Str := [48, 49, 50, 51, 52, 53, 54, 55, 56, 57]
theorem digs_at {k : Nat} (h : k < 10) : (digs10.take ((k : Int) + 1).toNat).drop (k : Int).toNat = digit10 k := by
  match k, h with
  | 0, _ => rfl
  | 1, _ => rfl
  | 2, _ => rfl
  | 3, _ => rfl
  | 4, _ => rfl
  | 5, _ => rfl
  | 6, _ => rfl
  | 7, _ => rfl
  | 8, _ => rfl
  | 9, _ => rfl
theorem stmText_pos (pm ex du cl : Bool) {k : Nat} (h : 0 < k) : (stmText pm ex du cl 0 ++ [32, 112, 114, 105, 111, 114, 105, 116, 121, 32]) ++ digit10 k = stmText pm ex du cl k := by
  unfold stmText
  rw [if_pos h, if_neg (Nat.lt_irrefl 0), List.append_nil, List.append_assoc]
end Go.Proofs.YtkaobkjcjodffaaGreatDoor
