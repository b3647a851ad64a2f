/-
 The generators of lines and of changed texts.
-/
import Derived.Test.YtkaobkjcjodffaaGreatDoorBK44
import Derived.Test.YtkaobkjcjodffaaGreatDoorBK22
import Derived.Test.YtkaobkjcjodffaaGreatDoorBM7
import Derived.Test.YtkaobkjcjodffaaGreatDoorAPwApX
import Derived.Test.YtkaobkjcjodffaaGreatDoorBK17
import Derived.Test.YtkaobkjcjodffaaGreatDoorBE3
import Derived.Test.YtkaobkjcjodffaaGreatDoorBK28
import Derived.Test.YtkaobkjcjodffaaGreatDoorBB6
import Derived.Test.YtkaobkjcjodffaaGreatDoorAPwGlob
set_option maxHeartbeats 20000000
set_option maxRecDepth 100000
namespace Go.Proofs.YtkaobkjcjodffaaGreatDoor
open Go Go.Pw
section
variable {Gl : Glob}
attribute [local irreducible] PW PWL OpP PCalls PWO pDef pWin rdStm rPub rHid PWT bothT
def rAgg (i : TInt) (c : ICaps) : PV := .agg [.msl 2 0 0 (i.groups.map eDef).length c.1, .msl 2 1 0 (i.services.map eDef).length c.2.1, .msl 2 2 0 (i.windows.map eWin).length c.2.2.1, .msl 10 3 0 (i.stms.map eStm).length c.2.2.2.1, .msl 6 4 0 (i.pubs.map ePub).length c.2.2.2.2.1, .msl 5 5 0 (i.hids.map eHid).length c.2.2.2.2.2]
def rArr (i : TInt) (c : ICaps) : List PObj := [.arr 2 (i.groups.map eDef) c.1, .arr 2 (i.services.map eDef) c.2.1, .arr 2 (i.windows.map eWin) c.2.2.1, .arr 10 (i.stms.map eStm) c.2.2.2.1, .arr 6 (i.pubs.map ePub) c.2.2.2.2.1, .arr 5 (i.hids.map eHid) c.2.2.2.2.2]
theorem c_rLine (i : TInt) (hi : ILim i) (c : ICaps) (w : List Str) (hw : WOk w) (hl : w.length ≤ 1000) (h0 : 0 < w.length) : PCalls Tryz.prog Gl 91 [rAgg i c, .sl (w.map .str)] (rArr i c) fun r s => ∃ j c', r = .tup [rAgg j c', .int .i64 (iLine i w).1] ∧ s = rArr j c' ∧ ((iLine i w).1 = 0 → j = (iLine i w).2) := by
 refine PCalls.of hT Tryz.func91 rfl 6 (Nat.le_refl _) fun B hD => ?_
 unfold rAgg rArr
 refine pw_norm rfl ?_
 have l4 := hi.stms
 have l5 := hi.pubs
 have l6 := hi.hids
 have hl4 : (i.stms.map eStm).length = i.stms.length := List.length_map ..
 have hl5 : (i.pubs.map ePub).length = i.pubs.length := List.length_map ..
 have hl6 : (i.hids.map eHid).length = i.hids.length := List.length_map ..
 (repeat' (first | refine zS ?_ | refine zD ?_ | refine po_both ?_ ?_ | refine pwt_both ?_ ?_ | refine pwt_fork ?_ | refine pwt_lin ?_ | (refine po_test rfl rfl rfl rfl zB ?_ ?_ <;> intro hb <;> first | exact zX | refine zDn ?_) | refine zq5 ?_ | refine zq6 ?_ | (refine zT ?_ ?_ <;> intro h <;> first | exact zX | refine zNq ?_)))
 ·have hx : iLine i w = ((pDef i.groups w false).1, { i with groups := (pDef i.groups w false).2 }) := by unfold iLine; (repeat (first | refine (if_pos (by assumption)).trans ?_ | refine (if_neg (by assumption)).trans ?_)); rfl
  rw [hx]
  dsimp only
  (refine pl_op rfl (op_callA [0] rfl rfl e131 (by decide) rfl rfl rfl (by (repeat (first | exact True.intro | refine ⟨.inr (.inl rfl), ?_⟩ | refine ⟨.inl rfl, ?_⟩ | refine ⟨.inr (.inr (.inl ⟨rfl, rfl⟩)), ?_⟩ | refine ⟨.inr (.inr (.inr (.inl ⟨rfl, _, _, rfl⟩))), ?_⟩))) (by (repeat (first | exact True.intro | refine ⟨.inl rfl, ?_⟩ | refine ⟨.inr (.inl rfl), ?_⟩))) (c_rDefG i.groups hi.groups c.1 w hw hl) (fun r s hq => ?_)); rcases hq with ⟨hz, cz, rfl, rfl⟩ | ⟨hz, rfl, rfl⟩ <;> (refine ⟨rfl, rfl, ?_⟩; (first | refine pl_norm rfl ?_ | refine pl_normE rfl ?_)))
  ·rw [hz]
   (repeat (first | refine pl_pure hT rfl ?_ | (refine pl_op rfl (op_storeF hT rfl rfl rfl rfl rfl rfl rfl rfl (Nat.le_of_ble_eq_true rfl) ?_); (first | refine pl_norm rfl ?_ | refine pl_normE rfl ?_))))
   refine pl_nil ?_
   (refine pw_mv 0 8 hD rfl rfl rfl rfl rfl ?_; refine pw_norm rfl ?_)
   (repeat' (first | refine zS ?_ | refine zq5 ?_ | refine zq6 ?_ | (refine zT ?_ ?_ <;> intro h <;> first | exact zX | refine zNq ?_)))
   exact ⟨_, _, _, rfl, ⟨{ i with groups := (pDef i.groups w false).2 }, (cz, c.2), rfl, rfl, fun _ => rfl⟩, .inr (.inl rfl), zF, rfl, rfl⟩
  ·(repeat (first | refine pl_pure hT rfl ?_ | (refine pl_op rfl (op_storeF hT rfl rfl rfl rfl rfl rfl rfl rfl (Nat.le_of_ble_eq_true rfl) ?_); (first | refine pl_norm rfl ?_ | refine pl_normE rfl ?_))))
   refine pl_nil ?_
   refine pw_revive 0 2 rfl ?_
   refine pw_nilm 6 2 0 (cs1 := []) rfl ?_
   refine zNq ?_
   (repeat' (first | refine zS ?_ | refine zq5 ?_ | refine zq6 ?_ | (refine zT ?_ ?_ <;> intro h <;> first | exact zX | refine zNq ?_)))
   exact ⟨_, _, _, rfl, ⟨{ i with groups := [] }, (0, c.2), rfl, rfl, fun q => (hz q).elim⟩, .inr (.inl rfl), zF, rfl, rfl⟩
 ·have hx : iLine i w = ((pDef i.services w true).1, { i with services := (pDef i.services w true).2 }) := by unfold iLine; (repeat (first | refine (if_pos (by assumption)).trans ?_ | refine (if_neg (by assumption)).trans ?_)); rfl
  rw [hx]
  dsimp only
  (refine pl_op rfl (op_callA [1] rfl rfl e131 (by decide) rfl rfl rfl (by (repeat (first | exact True.intro | refine ⟨.inr (.inl rfl), ?_⟩ | refine ⟨.inl rfl, ?_⟩ | refine ⟨.inr (.inr (.inl ⟨rfl, rfl⟩)), ?_⟩ | refine ⟨.inr (.inr (.inr (.inl ⟨rfl, _, _, rfl⟩))), ?_⟩))) (by (repeat (first | exact True.intro | refine ⟨.inl rfl, ?_⟩ | refine ⟨.inr (.inl rfl), ?_⟩))) (c_rDefS i.services hi.services c.2.1 w hw hl) (fun r s hq => ?_)); rcases hq with ⟨hz, cz, rfl, rfl⟩ | ⟨hz, rfl, rfl⟩ <;> (refine ⟨rfl, rfl, ?_⟩; (first | refine pl_norm rfl ?_ | refine pl_normE rfl ?_)))
  ·rw [hz]
   (repeat (first | refine pl_pure hT rfl ?_ | (refine pl_op rfl (op_storeF hT rfl rfl rfl rfl rfl rfl rfl rfl (Nat.le_of_ble_eq_true rfl) ?_); (first | refine pl_norm rfl ?_ | refine pl_normE rfl ?_))))
   refine pl_nil ?_
   (refine pw_mv 1 8 hD rfl rfl rfl rfl rfl ?_; refine pw_norm rfl ?_)
   (repeat' (first | refine zS ?_ | refine zq5 ?_ | refine zq6 ?_ | (refine zT ?_ ?_ <;> intro h <;> first | exact zX | refine zNq ?_)))
   exact ⟨_, _, _, rfl, ⟨{ i with services := (pDef i.services w true).2 }, (c.1, cz, c.2.2), rfl, rfl, fun _ => rfl⟩, .inr (.inl rfl), zF, rfl, rfl⟩
  ·(repeat (first | refine pl_pure hT rfl ?_ | (refine pl_op rfl (op_storeF hT rfl rfl rfl rfl rfl rfl rfl rfl (Nat.le_of_ble_eq_true rfl) ?_); (first | refine pl_norm rfl ?_ | refine pl_normE rfl ?_))))
   refine pl_nil ?_
   refine pw_revive 1 2 rfl ?_
   refine pw_nilm 6 2 1 (cs1 := [_]) rfl ?_
   refine zNq ?_
   (repeat' (first | refine zS ?_ | refine zq5 ?_ | refine zq6 ?_ | (refine zT ?_ ?_ <;> intro h <;> first | exact zX | refine zNq ?_)))
   exact ⟨_, _, _, rfl, ⟨{ i with services := [] }, (c.1, 0, c.2.2), rfl, rfl, fun q => (hz q).elim⟩, .inr (.inl rfl), zF, rfl, rfl⟩
 ·have hx : iLine i w = ((pWin i.windows w).1, { i with windows := (pWin i.windows w).2 }) := by unfold iLine; (repeat (first | refine (if_pos (by assumption)).trans ?_ | refine (if_neg (by assumption)).trans ?_)); rfl
  rw [hx]
  dsimp only
  (refine pl_op rfl (op_callA [2] rfl rfl e132 (by decide) rfl rfl rfl (by (repeat (first | exact True.intro | refine ⟨.inr (.inl rfl), ?_⟩ | refine ⟨.inl rfl, ?_⟩ | refine ⟨.inr (.inr (.inl ⟨rfl, rfl⟩)), ?_⟩ | refine ⟨.inr (.inr (.inr (.inl ⟨rfl, _, _, rfl⟩))), ?_⟩))) (by (repeat (first | exact True.intro | refine ⟨.inl rfl, ?_⟩ | refine ⟨.inr (.inl rfl), ?_⟩))) (c_rWindow i.windows hi.windows c.2.2.1 w hw hl) (fun r s hq => ?_)); rcases hq with ⟨hz, cz, rfl, rfl⟩ | ⟨hz, rfl, rfl⟩ <;> (refine ⟨rfl, rfl, ?_⟩; (first | refine pl_norm rfl ?_ | refine pl_normE rfl ?_)))
  ·rw [hz]
   (repeat (first | refine pl_pure hT rfl ?_ | (refine pl_op rfl (op_storeF hT rfl rfl rfl rfl rfl rfl rfl rfl (Nat.le_of_ble_eq_true rfl) ?_); (first | refine pl_norm rfl ?_ | refine pl_normE rfl ?_))))
   refine pl_nil ?_
   (refine pw_mv 2 8 hD rfl rfl rfl rfl rfl ?_; refine pw_norm rfl ?_)
   (repeat' (first | refine zS ?_ | refine zq5 ?_ | refine zq6 ?_ | (refine zT ?_ ?_ <;> intro h <;> first | exact zX | refine zNq ?_)))
   exact ⟨_, _, _, rfl, ⟨{ i with windows := (pWin i.windows w).2 }, (c.1, c.2.1, cz, c.2.2.2), rfl, rfl, fun _ => rfl⟩, .inr (.inl rfl), zF, rfl, rfl⟩
  ·(repeat (first | refine pl_pure hT rfl ?_ | (refine pl_op rfl (op_storeF hT rfl rfl rfl rfl rfl rfl rfl rfl (Nat.le_of_ble_eq_true rfl) ?_); (first | refine pl_norm rfl ?_ | refine pl_normE rfl ?_))))
   refine pl_nil ?_
   refine pw_revive 2 2 rfl ?_
   refine pw_nilm 6 2 2 (cs1 := [_, _]) rfl ?_
   refine zNq ?_
   (repeat' (first | refine zS ?_ | refine zq5 ?_ | refine zq6 ?_ | (refine zT ?_ ?_ <;> intro h <;> first | exact zX | refine zNq ?_)))
   exact ⟨_, _, _, rfl, ⟨{ i with windows := [] }, (c.1, c.2.1, 0, c.2.2.2), rfl, rfl, fun q => (hz q).elim⟩, .inr (.inl rfl), zF, rfl, rfl⟩
 ·have hx : iLine i w = ((pStm i.stms w).1, { i with stms := (pStm i.stms w).2 }) := by unfold iLine; (repeat (first | refine (if_pos (by assumption)).trans ?_ | refine (if_neg (by assumption)).trans ?_)); rfl
  have key : pStm i.stms w = if ¬ (rdStm w).1 = 0 then ((rdStm w).1, i.stms) else if 64 ≤ i.stms.length then (3, i.stms) else (0, i.stms ++ [(rdStm w).2]) := rfl
  rw [hx]
  dsimp only
  rw [show pStm i.stms w = (3, i.stms) from by rw [key, if_neg (fun q => q h.1), if_pos (by omega)]]
  (refine pl_append (b := 136) hT hD rfl rfl rfl rfl rfl rfl rfl rfl (.inl (Nat.zero_lt_succ _)) rfl rfl (by simp; omega) (fun cap' _ hcap => ?_); (refine zNp ?_))
  (repeat' (first | refine zS ?_ | refine zq5 ?_ | refine zq6 ?_ | (refine zT ?_ ?_ <;> intro h <;> first | exact zX | refine zNq ?_)))
  refine ⟨_, _, _, rfl, ⟨{ i with stms := i.stms ++ [(rdStm w).2] }, (c.1, c.2.1, c.2.2.1, cap', c.2.2.2.2), rfl, rfl, fun q => by cases q⟩, .inr (.inl ?_), ⟨.inr (.inl rfl), .inr (.inl rfl), .inr (.inl rfl), .inr (.inl ?_), .inr (.inl rfl), .inr (.inl rfl), trivial⟩, rfl, rfl⟩
  all_goals simp only [List.map_append, List.length_append]; rfl
 ·have hx : iLine i w = ((pStm i.stms w).1, { i with stms := (pStm i.stms w).2 }) := by unfold iLine; (repeat (first | refine (if_pos (by assumption)).trans ?_ | refine (if_neg (by assumption)).trans ?_)); rfl
  have key : pStm i.stms w = if ¬ (rdStm w).1 = 0 then ((rdStm w).1, i.stms) else if 64 ≤ i.stms.length then (3, i.stms) else (0, i.stms ++ [(rdStm w).2]) := rfl
  rw [hx]
  dsimp only
  have k1 : (pStm i.stms w).1 = (rdStm w).1 := by
   rw [key]
   split
   ·rfl
   ·rename_i q
    have q := Decidable.not_not.1 q
    rw [if_neg (by omega), q]
  have k2 : (rdStm w).1 = 0 → (pStm i.stms w).2 = i.stms ++ [(rdStm w).2] := fun q => by rw [key, if_neg (fun a => a q), if_neg (by omega)]
  rw [k1]
  (refine pl_append (b := 136) hT hD rfl rfl rfl rfl rfl rfl rfl rfl (.inl (Nat.zero_lt_succ _)) rfl rfl (by simp; omega) (fun cap' _ hcap => ?_); (refine zNp ?_))
  (repeat' (first | refine zS ?_ | refine zq5 ?_ | refine zq6 ?_ | (refine zT ?_ ?_ <;> intro h <;> first | exact zX | refine zNq ?_)))
  refine ⟨_, _, _, rfl, ⟨{ i with stms := i.stms ++ [(rdStm w).2] }, (c.1, c.2.1, c.2.2.1, cap', c.2.2.2.2), rfl, rfl, fun q => by rw [k2 q]⟩, .inr (.inl ?_), ⟨.inr (.inl rfl), .inr (.inl rfl), .inr (.inl rfl), .inr (.inl ?_), .inr (.inl rfl), .inr (.inl rfl), trivial⟩, rfl, rfl⟩
  all_goals simp only [List.map_append, List.length_append]; rfl
 ·have hx : iLine i w = ((pStm i.stms w).1, { i with stms := (pStm i.stms w).2 }) := by unfold iLine; (repeat (first | refine (if_pos (by assumption)).trans ?_ | refine (if_neg (by assumption)).trans ?_)); rfl
  have key : pStm i.stms w = if ¬ (rdStm w).1 = 0 then ((rdStm w).1, i.stms) else if 64 ≤ i.stms.length then (3, i.stms) else (0, i.stms ++ [(rdStm w).2]) := rfl
  rw [hx]
  dsimp only
  rw [show pStm i.stms w = (3, i.stms) from by rw [key, if_neg (fun q => q h.1), if_pos (by omega)]]
  (refine pl_append (b := 136) hT hD rfl rfl rfl rfl rfl rfl rfl rfl (.inl (Nat.zero_lt_succ _)) rfl rfl (by simp; omega) (fun cap' _ hcap => ?_); (refine zNp ?_))
  (repeat' (first | refine zS ?_ | refine zq5 ?_ | refine zq6 ?_ | (refine zT ?_ ?_ <;> intro h <;> first | exact zX | refine zNq ?_)))
  refine ⟨_, _, _, rfl, ⟨{ i with stms := i.stms ++ [(rdStm w).2] }, (c.1, c.2.1, c.2.2.1, cap', c.2.2.2.2), rfl, rfl, fun q => by cases q⟩, .inr (.inl ?_), ⟨.inr (.inl rfl), .inr (.inl rfl), .inr (.inl rfl), .inr (.inl ?_), .inr (.inl rfl), .inr (.inl rfl), trivial⟩, rfl, rfl⟩
  all_goals simp only [List.map_append, List.length_append]; rfl
 ·have hx : iLine i w = ((pStm i.stms w).1, { i with stms := (pStm i.stms w).2 }) := by unfold iLine; (repeat (first | refine (if_pos (by assumption)).trans ?_ | refine (if_neg (by assumption)).trans ?_)); rfl
  have key : pStm i.stms w = if ¬ (rdStm w).1 = 0 then ((rdStm w).1, i.stms) else if 64 ≤ i.stms.length then (3, i.stms) else (0, i.stms ++ [(rdStm w).2]) := rfl
  rw [hx]
  dsimp only
  have k1 : (pStm i.stms w).1 = (rdStm w).1 := by
   rw [key]
   split
   ·rfl
   ·rename_i q
    have q := Decidable.not_not.1 q
    rw [if_neg (by omega), q]
  have k2 : (rdStm w).1 = 0 → (pStm i.stms w).2 = i.stms ++ [(rdStm w).2] := fun q => by rw [key, if_neg (fun a => a q), if_neg (by omega)]
  rw [k1]
  (refine pl_append (b := 136) hT hD rfl rfl rfl rfl rfl rfl rfl rfl (.inl (Nat.zero_lt_succ _)) rfl rfl (by simp; omega) (fun cap' _ hcap => ?_); (refine zNp ?_))
  (repeat' (first | refine zS ?_ | refine zq5 ?_ | refine zq6 ?_ | (refine zT ?_ ?_ <;> intro h <;> first | exact zX | refine zNq ?_)))
  refine ⟨_, _, _, rfl, ⟨{ i with stms := i.stms ++ [(rdStm w).2] }, (c.1, c.2.1, c.2.2.1, cap', c.2.2.2.2), rfl, rfl, fun q => by rw [k2 q]⟩, .inr (.inl ?_), ⟨.inr (.inl rfl), .inr (.inl rfl), .inr (.inl rfl), .inr (.inl ?_), .inr (.inl rfl), .inr (.inl rfl), trivial⟩, rfl, rfl⟩
  all_goals simp only [List.map_append, List.length_append]; rfl
 ·have hx : iLine i w = ((pPub i.pubs w).1, { i with pubs := (pPub i.pubs w).2 }) := by unfold iLine; (repeat (first | refine (if_pos (by assumption)).trans ?_ | refine (if_neg (by assumption)).trans ?_)); rfl
  have key : pPub i.pubs w = if ¬ (rPub w).1 = 0 then ((rPub w).1, i.pubs) else if 16 ≤ i.pubs.length then (3, i.pubs) else (0, i.pubs ++ [(rPub w).2]) := pPub_r _ _
  rw [hx]
  dsimp only
  rw [show pPub i.pubs w = (3, i.pubs) from by rw [key, if_neg (fun q => q h.1), if_pos (by omega)]]
  (refine pl_append (b := 56) hT hD rfl rfl rfl rfl rfl rfl rfl rfl (.inl (Nat.zero_lt_succ _)) rfl rfl (by simp; omega) (fun cap' _ hcap => ?_); (refine zNp ?_))
  (repeat' (first | refine zS ?_ | refine zq5 ?_ | refine zq6 ?_ | (refine zT ?_ ?_ <;> intro h <;> first | exact zX | refine zNq ?_)))
  refine ⟨_, _, _, rfl, ⟨{ i with pubs := i.pubs ++ [(rPub w).2] }, (c.1, c.2.1, c.2.2.1, c.2.2.2.1, cap', c.2.2.2.2.2), rfl, rfl, fun q => by cases q⟩, .inr (.inl ?_), ⟨.inr (.inl rfl), .inr (.inl rfl), .inr (.inl rfl), .inr (.inl rfl), .inr (.inl ?_), .inr (.inl rfl), trivial⟩, rfl, rfl⟩
  all_goals simp only [List.map_append, List.length_append]; rfl
 ·have hx : iLine i w = ((pPub i.pubs w).1, { i with pubs := (pPub i.pubs w).2 }) := by unfold iLine; (repeat (first | refine (if_pos (by assumption)).trans ?_ | refine (if_neg (by assumption)).trans ?_)); rfl
  have key : pPub i.pubs w = if ¬ (rPub w).1 = 0 then ((rPub w).1, i.pubs) else if 16 ≤ i.pubs.length then (3, i.pubs) else (0, i.pubs ++ [(rPub w).2]) := pPub_r _ _
  rw [hx]
  dsimp only
  have k1 : (pPub i.pubs w).1 = (rPub w).1 := by
   rw [key]
   split
   ·rfl
   ·rename_i q
    have q := Decidable.not_not.1 q
    rw [if_neg (by omega), q]
  have k2 : (rPub w).1 = 0 → (pPub i.pubs w).2 = i.pubs ++ [(rPub w).2] := fun q => by rw [key, if_neg (fun a => a q), if_neg (by omega)]
  rw [k1]
  (refine pl_append (b := 56) hT hD rfl rfl rfl rfl rfl rfl rfl rfl (.inl (Nat.zero_lt_succ _)) rfl rfl (by simp; omega) (fun cap' _ hcap => ?_); (refine zNp ?_))
  (repeat' (first | refine zS ?_ | refine zq5 ?_ | refine zq6 ?_ | (refine zT ?_ ?_ <;> intro h <;> first | exact zX | refine zNq ?_)))
  refine ⟨_, _, _, rfl, ⟨{ i with pubs := i.pubs ++ [(rPub w).2] }, (c.1, c.2.1, c.2.2.1, c.2.2.2.1, cap', c.2.2.2.2.2), rfl, rfl, fun q => by rw [k2 q]⟩, .inr (.inl ?_), ⟨.inr (.inl rfl), .inr (.inl rfl), .inr (.inl rfl), .inr (.inl rfl), .inr (.inl ?_), .inr (.inl rfl), trivial⟩, rfl, rfl⟩
  all_goals simp only [List.map_append, List.length_append]; rfl
 ·have hx : iLine i w = ((pHid i.hids w).1, { i with hids := (pHid i.hids w).2 }) := by unfold iLine; (repeat (first | refine (if_pos (by assumption)).trans ?_ | refine (if_neg (by assumption)).trans ?_)); rfl
  have key : pHid i.hids w = if ¬ (rHid w).1 = 0 then ((rHid w).1, i.hids) else if 8 ≤ i.hids.length then (3, i.hids) else (0, i.hids ++ [(rHid w).2]) := pHid_r _ _
  rw [hx]
  dsimp only
  rw [show pHid i.hids w = (3, i.hids) from by rw [key, if_neg (fun q => q h.1), if_pos (by omega)]]
  (refine pl_append (b := 48) hT hD rfl rfl rfl rfl rfl rfl rfl rfl (.inl (Nat.zero_lt_succ _)) rfl rfl (by simp; omega) (fun cap' _ hcap => ?_); (refine zNp ?_))
  (repeat' (first | refine zS ?_ | refine zq5 ?_ | refine zq6 ?_ | (refine zT ?_ ?_ <;> intro h <;> first | exact zX | refine zNq ?_)))
  refine ⟨_, _, _, rfl, ⟨{ i with hids := i.hids ++ [(rHid w).2] }, (c.1, c.2.1, c.2.2.1, c.2.2.2.1, c.2.2.2.2.1, cap'), rfl, rfl, fun q => by cases q⟩, .inr (.inl ?_), ⟨.inr (.inl rfl), .inr (.inl rfl), .inr (.inl rfl), .inr (.inl rfl), .inr (.inl rfl), .inr (.inl ?_), trivial⟩, rfl, rfl⟩
  all_goals simp only [List.map_append, List.length_append]; rfl
 ·have hx : iLine i w = ((pHid i.hids w).1, { i with hids := (pHid i.hids w).2 }) := by unfold iLine; (repeat (first | refine (if_pos (by assumption)).trans ?_ | refine (if_neg (by assumption)).trans ?_)); rfl
  have key : pHid i.hids w = if ¬ (rHid w).1 = 0 then ((rHid w).1, i.hids) else if 8 ≤ i.hids.length then (3, i.hids) else (0, i.hids ++ [(rHid w).2]) := pHid_r _ _
  rw [hx]
  dsimp only
  have k1 : (pHid i.hids w).1 = (rHid w).1 := by
   rw [key]
   split
   ·rfl
   ·rename_i q
    have q := Decidable.not_not.1 q
    rw [if_neg (by omega), q]
  have k2 : (rHid w).1 = 0 → (pHid i.hids w).2 = i.hids ++ [(rHid w).2] := fun q => by rw [key, if_neg (fun a => a q), if_neg (by omega)]
  rw [k1]
  (refine pl_append (b := 48) hT hD rfl rfl rfl rfl rfl rfl rfl rfl (.inl (Nat.zero_lt_succ _)) rfl rfl (by simp; omega) (fun cap' _ hcap => ?_); (refine zNp ?_))
  (repeat' (first | refine zS ?_ | refine zq5 ?_ | refine zq6 ?_ | (refine zT ?_ ?_ <;> intro h <;> first | exact zX | refine zNq ?_)))
  refine ⟨_, _, _, rfl, ⟨{ i with hids := i.hids ++ [(rHid w).2] }, (c.1, c.2.1, c.2.2.1, c.2.2.2.1, c.2.2.2.2.1, cap'), rfl, rfl, fun q => by rw [k2 q]⟩, .inr (.inl ?_), ⟨.inr (.inl rfl), .inr (.inl rfl), .inr (.inl rfl), .inr (.inl rfl), .inr (.inl rfl), .inr (.inl ?_), trivial⟩, rfl, rfl⟩
  all_goals simp only [List.map_append, List.length_append]; rfl
 ·have hx : iLine i w = (4, i) := by unfold iLine; (repeat (first | refine (if_pos (by assumption)).trans ?_ | refine (if_neg (by assumption)).trans ?_)); rfl
  rw [hx]
  exact ⟨_, _, _, rfl, ⟨i, c, rfl, rfl, fun q => by cases q⟩, .inr (.inl rfl), zF, rfl, rfl⟩
end
section
variable {Gl : Glob}
attribute [local irreducible] PW PWL OpP PCalls PWO iLine PWT bothT
instance (s : Str) : ConF Tryz.prog Gl 20 [.str s] True (.tup [.sl ((lines s).1.map eLine), .int .i64 (lines s).2.1, .int .i64 (lines s).2.2]) := ⟨e20, fun _ => c25 s⟩
theorem c_rParse (s : Str) : PFun Tryz.prog Gl 44 [.str s] fun r => r = .tup [eIntent (iParse s).1, .int .i64 (iParse s).2.1, .int .i64 (iParse s).2.2] := by
 have hok := lines_ok s
 have hat := fun k => @line_at s _ rfl k
 (refine PFun.of hT Tryz.func44 rfl fun B hD => ?_; refine pw_norm rfl ?_)
 unfold iParse
 (try refine zS ?_)
 have hfew := hok.few
 generalize lines s = L at hok hat hfew ⊢
 obtain ⟨ls, ln, le⟩ := L
 dsimp only at hok hat hfew ⊢
 refine zT ?_ ?_ <;> intro h <;> refine zNq ?_
 ·rw [if_pos h]
  (repeat' (first | (refine zDr [[0,1,2,3,4,5,6],[7],[8,9]] ?_; refine zDn ?_) | (refine zDr [[0,1,2,3,4,5],[6],[7,8,9],[10],[11]] ?_; refine zDn ?_) | refine zS ?_ | refine zD ?_ | refine po_both ?_ ?_ | refine pwt_both ?_ ?_ | refine pwt_fork ?_ | refine pwt_lin ?_ | (refine po_test rfl rfl rfl rfl zB ?_ ?_ <;> intro hb <;> first | exact zX | refine zDn ?_) | (refine zT ?_ ?_ <;> intro h <;> first | exact zX | refine zNq ?_)))
  exact ret0 _ (.tup [eIntent int0, .int .i64 ln, .int .i64 le]) rfl rfl (by (refine .inr (.inr (.inr (.inr (.inr ⟨_, _, rfl, rfl, ?_⟩)))); (repeat (first | exact True.intro | refine ⟨.inr (.inl rfl), ?_⟩ | refine ⟨.inr (.inr (.inl ⟨rfl, rfl⟩)), ?_⟩ | refine ⟨.inr (.inr (.inr (.inl ⟨_, _, _, _, _, _, rfl, rfl, rfl, rfl, rfl⟩))), ?_⟩ | refine ⟨.inr (.inr (.inr (.inr (.inl ⟨_, _, rfl, rfl, ?_⟩)))), ?_⟩)))) rfl
 rw [if_neg h]
 (try refine zS ?_)
 refine pw_ghost 2 ?_
 refine pw_ghost 2 ?_
 refine pw_ghost 2 ?_
 refine pw_ghost 10 ?_
 refine pw_ghost 6 ?_
 refine pw_ghost 5 ?_
 refine zNq ?_
 refine pw_for hD (fun a : Nat × TInt × ICaps => [(9, .int .i64 a.1)]) (fun a => jst a.2.1 a.2.2)
  (fun a => iRun (ls.drop a.1) a.2.1 = iRun ls int0 ∧ a.1 ≤ ls.length ∧ ILim a.2.1) (fun a => ls.length - a.1) (0, int0, (0, 0, 0, 0, 0, 0)) ⟨rfl, Nat.zero_le _, int0_lim⟩ 8 rfl (fun _ => rfl)
  ?_ (fun _ => rfl) (fun _ => rfl) zLe ?_
 ·exact ⟨.inl rfl, .inr (.inr ⟨_, _, rfl, rfl, zLe⟩), .inl rfl, .inl rfl, .inl rfl, .inl rfl, .inl rfl, .inl rfl, trivial⟩
 rintro ⟨i, t, c⟩ ⟨hw, hi, ht⟩
 dsimp only at hw hi ht ⊢
 have hstep := @iRun_drop ls i
 have hat := hat i
 have hlx := iLine_lim ht (ls.getD i default).words
 unfold jst boxI
 refine zNq ?_
 (try refine zS ?_)
 refine zT ?_ ?_ <;> intro h1 <;> refine zNq ?_
 ·have hlt : i < ls.length := by omega
  obtain ⟨a1, a2, a3⟩ := hat hlt
  rw [hstep hlt] at hw
  (repeat' (first | (refine zDr [[0,1,2,3,4,5,6],[7],[8,9]] ?_; refine zDn ?_) | (refine zDr [[0,1,2,3,4,5],[6],[7,8,9],[10],[11]] ?_; refine zDn ?_) | refine zS ?_ | refine zD ?_ | refine po_both ?_ ?_ | refine pwt_both ?_ ?_ | refine pwt_fork ?_ | refine pwt_lin ?_ | (refine po_test rfl rfl rfl rfl zB ?_ ?_ <;> intro hb <;> first | exact zX | refine zDn ?_)))
  (refine po_step rfl rfl (op_callA [2, 3, 4, 5, 6, 7] rfl rfl e91 (by decide) rfl rfl rfl zLe zLes (c_rLine t ht c (ls.getD i default).words a3 (by omega) a1) (fun r s hq => ?_)); obtain ⟨j, c', rfl, rfl, hj⟩ := hq; refine ⟨rfl, rfl, zLok, ?_⟩; refine zDn ?_)
  refine zD ?_
  (try refine zS ?_)
  (refine pw_mv 2 8 hD rfl rfl rfl rfl rfl ?_; refine pw_norm rfl ?_)
  (refine pw_mv 3 9 hD rfl rfl rfl rfl rfl ?_; refine pw_norm rfl ?_)
  (refine pw_mv 4 10 hD rfl rfl rfl rfl rfl ?_; refine pw_norm rfl ?_)
  (refine pw_mv 5 11 hD rfl rfl rfl rfl rfl ?_; refine pw_norm rfl ?_)
  (refine pw_mv 6 12 hD rfl rfl rfl rfl rfl ?_; refine pw_norm rfl ?_)
  (refine pw_mv 7 13 hD rfl rfl rfl rfl rfl ?_; refine pw_norm rfl ?_)
  (refine pw_trim 8 hD rfl rfl ?_; refine pw_norm rfl ?_)
  refine zT ?_ ?_ <;> intro h2 <;> refine zNq ?_
  ·rw [if_pos h2] at hw
   rw [← hw]
   (repeat' (first | (refine zDr [[0,1,2,3,4,5,6],[7],[8,9]] ?_; refine zDn ?_) | (refine zDr [[0,1,2,3,4,5],[6],[7,8,9],[10],[11]] ?_; refine zDn ?_) | refine zS ?_ | refine zD ?_ | refine po_both ?_ ?_ | refine pwt_both ?_ ?_ | refine pwt_fork ?_ | refine pwt_lin ?_ | (refine po_test rfl rfl rfl rfl zB ?_ ?_ <;> intro hb <;> first | exact zX | refine zDn ?_) | (refine zT ?_ ?_ <;> intro h <;> first | exact zX | refine zNq ?_)))
   exact ret0 _ (.tup [eIntent int0, .int .i64 (ls.getD i default).num, .int .i64 (iLine t (ls.getD i default).words).1]) rfl rfl (by (refine .inr (.inr (.inr (.inr (.inr ⟨_, _, rfl, rfl, ?_⟩)))); (repeat (first | exact True.intro | refine ⟨.inr (.inl rfl), ?_⟩ | refine ⟨.inr (.inr (.inl ⟨rfl, rfl⟩)), ?_⟩ | refine ⟨.inr (.inr (.inr (.inl ⟨_, _, _, _, _, _, rfl, rfl, rfl, rfl, rfl⟩))), ?_⟩ | refine ⟨.inr (.inr (.inr (.inr (.inl ⟨_, _, rfl, rfl, ?_⟩)))), ?_⟩)))) rfl
  ·rw [if_neg h2] at hw
   obtain rfl := hj (Decidable.not_not.1 h2)
   (repeat' (first | refine zS ?_ | (refine zT ?_ ?_ <;> intro h <;> first | exact zX | refine zNq ?_)))
   exact ⟨(i + 1, (iLine t (ls.getD i default).words).2, c'), ⟨hw, by show i + 1 ≤ _; omega, hlx⟩, by show _ - (i + 1) < _ - i; omega, zLe, zLes⟩
 ·have hie : i = ls.length := by omega
  subst hie
  rw [List.drop_length, iRun] at hw
  rw [← hw]
  (repeat' (first | refine zS ?_ | (refine zT ?_ ?_ <;> intro h <;> first | exact zX | refine zNq ?_)))
  exact ret0 _ (.tup [eIntent t, .int .i64 0, .int .i64 0]) rfl rfl (by (refine .inr (.inr (.inr (.inr (.inr ⟨_, _, rfl, rfl, ?_⟩)))); (repeat (first | exact True.intro | refine ⟨.inr (.inl rfl), ?_⟩ | refine ⟨.inr (.inr (.inl ⟨rfl, rfl⟩)), ?_⟩ | refine ⟨.inr (.inr (.inr (.inl ⟨_, _, _, _, _, _, rfl, rfl, rfl, rfl, rfl⟩))), ?_⟩ | refine ⟨.inr (.inr (.inr (.inr (.inl ⟨_, _, rfl, rfl, ?_⟩)))), ?_⟩)))) rfl
end
section
variable {Gl : Glob}
attribute [local irreducible] PW PWL OpP PCalls PWO PWT bothT
theorem ILim.big {i : TInt} (h : ILim i) (h1 : ∀ d ∈ i.groups, d.items.length < 1000000) (h2 : ∀ d ∈ i.services, d.items.length < 1000000) (h3 : ∀ d ∈ i.windows, d.active.length < 1000000) : IBig i :=
 ⟨Nat.lt_of_le_of_lt h.groups (by decide), Nat.lt_of_le_of_lt h.services (by decide), Nat.lt_of_le_of_lt h.windows (by decide), Nat.lt_of_le_of_lt h.stms (by decide), Nat.lt_of_le_of_lt h.pubs (by decide), Nat.lt_of_le_of_lt h.hids (by decide), h1, h2, h3⟩
theorem pDef_big {l : List TDef} (h : ∀ d ∈ l, d.items.length < 1000000) (w : List Str) (sv : Bool) : ∀ d ∈ (pDef l w sv).2, d.items.length < 1000000 := by
 unfold pDef
 split
 ·exact h
 split
 ·exact h
 split
 ·exact h
 split
 ·exact h
 split
 ·exact h
 rename_i h16
 split
 ·exact h
 split
 ·exact h
 intro d hd
 rcases List.mem_append.1 hd with hd | hd
 ·exact h d hd
 ·rw [List.mem_singleton.1 hd]
  dsimp only
  rw [List.length_map]
  omega
theorem pWin_big {l : List TWin} (h : ∀ d ∈ l, d.active.length < 1000000) (w : List Str) : ∀ d ∈ (pWin l w).2, d.active.length < 1000000 := by
 unfold pWin
 split
 ·exact h
 split
 ·exact h
 split
 ·exact h
 split
 ·exact h
 split
 ·exact h
 intro d hd
 rcases List.mem_append.1 hd with hd | hd
 ·exact h d hd
 ·rw [List.mem_singleton.1 hd]
  have := (wParse_ok (w.drop 3)).2
  dsimp only
  omega
theorem iLine_big {i : TInt} (hl : ILim i) (h : IBig i) (w : List Str) : IBig (iLine i w).2 := by
 refine (iLine_lim hl w).big ?_ ?_ ?_
 all_goals unfold iLine
 ·repeat' split
  all_goals first | exact h.gitems | exact pDef_big h.gitems w false
 ·repeat' split
  all_goals first | exact h.sitems | exact pDef_big h.sitems w true
 ·repeat' split
  all_goals first | exact h.active | exact pWin_big h.active w
theorem int0_big : IBig int0 := int0_lim.big (by intro d h; cases h) (by intro d h; cases h) (by intro d h; cases h)
theorem iRun_big : ∀ (ls : List TLine) (i : TInt), ILim i → IBig i → IBig (iRun ls i).1 ∧ ILim (iRun ls i).1
 | [], _, h1, h2 => ⟨h2, h1⟩
 | l :: ls, i, h1, h2 => by
  rw [iRun]
  split
  ·exact ⟨int0_big, int0_lim⟩
  ·exact iRun_big ls _ (iLine_lim h1 l.words) (iLine_big h1 h2 l.words)
theorem iParse_big (s : Str) : IBig (iParse s).1 ∧ ILim (iParse s).1 := by
 unfold iParse
 split
 ·exact ⟨int0_big, int0_lim⟩
 ·exact iRun_big _ _ int0_lim int0_big
theorem c_parses (hG : GM Gl) (hD' : GD Gl) (s : Str) : PFun Tryz.prog Gl 14 [.str s] fun r => r = .bool true := by
 (refine PFun.of hT Tryz.func14 rfl fun B hD => ?_; refine pw_norm rfl ?_)
 have hb := (iParse_big s).1
 (repeat' (first | refine zS ?_ | refine zq5 ?_ | refine zq6 ?_ | (refine zT ?_ ?_ <;> intro h <;> first | exact zX | refine zNq ?_)))
 (refine pl_op rfl (op_fun (c_iParse hG hD' s) rfl rfl e19 zLe rfl (fun r hr => ?_)); subst hr; refine ⟨rfl, ?_⟩; (refine zNp ?_))
 (repeat' (first | refine zS ?_ | refine zq5 ?_ | refine zq6 ?_ | (refine zT ?_ ?_ <;> intro h <;> first | exact zX | refine zNq ?_)))
 (refine pl_op rfl (op_fun (c_rParse s) rfl rfl e44 zLe rfl (fun r hr => ?_)); subst hr; refine ⟨rfl, ?_⟩; (refine zNp ?_))
 generalize iParse s = X at hb
 (repeat' (first | refine zS ?_ | refine zq5 ?_ | refine zq6 ?_ | (refine zT ?_ ?_ <;> intro h <;> first | exact zX | refine zNq ?_)))
 (refine pl_op rfl (op_fun (c_same X.1 hb) rfl rfl e22 zLe rfl (fun r hr => ?_)); subst hr; refine ⟨rfl, ?_⟩; (refine zNp ?_))
 (repeat' (first | refine zS ?_ | refine zq5 ?_ | refine zq6 ?_ | (refine zT ?_ ?_ <;> intro h <;> first | exact zX | refine zNq ?_)))
 exact ret2 _ rfl (by simp) rfl
instance (s : Str) : ConF Tryz.prog Gl 14 [.str s] (GM Gl ∧ GD Gl) (.bool true) := ⟨e14, fun h => c_parses h.1 h.2 s⟩
def bytes15 : List UInt8 := [32, 44, 61, 45, 48, 57, 97, 35, 10, 47, 46, 0, 128, 58, 62]
theorem c16 (l : List Int) (hl : Tp l) (i : Nat) (hi : i ≤ l.length) (s : Str) (hs : Small s) : Gen Gl 15 [.str s] l i fun r => ∃ u : Str, u.length ≤ s.length + 1 ∧ r = .str u := by
 refine PCalls.of hT Tryz.func15 rfl 1 (Nat.le_refl _) fun B hD => ?_
 refine pw_norm rfl ?_
 unfold Small at hs
 (refine zGo ?_)
 (refine pl_op rfl (op_tobytes hT rfl rfl rfl rfl rfl (by unfold maxLen; omega) (fun cap hcap => ?_)); (refine zNp ?_))
 (refine zGo ?_)
 (refine pl_op rfl (zCl [0] e17 (c13 l hl i hi (s.length : Int) (by omega)) (fun r s hq => ?_)); obtain ⟨m, i1, rfl, hm0, hm1, hi1, rfl⟩ := hq; refine ⟨rfl, rfl, ?_⟩; (refine zNp ?_))
 obtain ⟨m, rfl⟩ : ∃ n : Nat, m = (n : Int) := ⟨m.toNat, by omega⟩
 have hml : m ≤ s.length := by omega
 (refine zGo ?_)
 (refine pl_op rfl (zCl [0] e17 (c13n l hl i1 hi1 15 (by decide) (by decide)) (fun r s hq => ?_)); obtain ⟨i2, ⟨m2, hm2, rfl⟩, hi2, rfl⟩ := hq; refine ⟨rfl, rfl, ?_⟩; (refine zNp ?_))
 (refine pl_op rfl (op_of (v_index (p := eByte (bytes15.getD m2 0)) hT rfl rfl rfl rfl (by omega) (lit_at eByte bytes15 m2 0 hm2) rfl) ?_); (refine zNp ?_))
 generalize bytes15.getD m2 0 = cb
 (refine zGo ?_)
 (refine pl_op rfl (zCl [0] e17 (c13n l hl i2 hi2 5 (by decide) (by decide)) (fun r s hq => ?_)); obtain ⟨i3, ⟨k, hk, rfl⟩, hi3, rfl⟩ := hq; refine ⟨rfl, rfl, ?_⟩; (refine zNp ?_))
 (refine zGo ?_)
 refine pw_cond rfl (fun h1 => ?_) (fun h1 => ?_)
 ·(refine zGo ?_)
  refine pw_cond rfl (fun h2 => ?_) (fun h2 => ?_)
  ·have hpos : 0 < s.length := by simpa using h2
   have hlt : m < s.length := by omega
   (refine zGo ?_)
   (refine pl_op rfl (op_of (v_indexm hT rfl rfl rfl rfl rfl (by omega) (by omega) (by omega)) ?_); (refine zNp ?_))
   (refine zGo ?_)
   (refine pl_op rfl (op_storeE' (x0 := eByte s[m]) (x1 := eByte cb) (xs' := (s.set m cb).map eByte) hT rfl rfl rfl rfl rfl (by omega) (by simp [hlt]) rfl rfl rfl rfl (Nat.le_of_ble_eq_true rfl) rfl (show (s.map eByte).set (0 + m) (eByte cb) = (s.set m cb).map eByte by rw [Nat.zero_add, List.map_set]) ?_); (refine zNp ?_))
   (refine zGo ?_)
   (refine pl_op rfl (v_bstrM (bs := s.set m cb) hT rfl rfl rfl rfl rfl rfl (by simp) ?_); (refine zNp ?_))
   (refine zGo ?_)
   exact ⟨_, _, _, rfl, ⟨i3, ⟨s.set m cb, by simp, rfl⟩, hi3, rfl⟩, .inr (.inl rfl), ⟨.inr (.inl rfl), trivial⟩, rfl, rfl⟩
  ·(refine zGo ?_)
   (refine pl_op rfl (v_bstrM (bs := s) hT rfl rfl rfl rfl rfl rfl rfl ?_); (refine zNp ?_))
   (refine zGo ?_)
   exact ⟨_, _, _, rfl, ⟨i3, ⟨s, by omega, rfl⟩, hi3, rfl⟩, .inr (.inl rfl), ⟨.inr (.inl rfl), trivial⟩, rfl, rfl⟩
 (refine zGo ?_)
 refine pw_cond rfl (fun h1 => ?_) (fun h1 => ?_)
 ·(refine zGo ?_)
  refine pw_cond rfl (fun h2 => ?_) (fun h2 => ?_)
  ·have hpos : 0 < s.length := by simpa using h2
   have hlt : m < s.length := by omega
   (refine zGo ?_)
   refine zDr [[0,1,2,3,4,5,6],[7],[8]] ?_
   (refine zDgo ?_)
   (refine po_val rfl rfl (v_sliceHi (m := m) hT rfl rfl rfl rfl (by omega)) ?_; refine zDn ?_)
   (refine zDgo ?_)
   (refine po_val rfl rfl (v_sliceLo (m := m + 1) hT rfl rfl rfl rfl (by omega) hcap) ?_; refine zDn ?_)
   (refine zDgo ?_)
   (refine po_step rfl rfl (op_appendB (b := 1) hT rfl rfl rfl rfl hml rfl rfl (by omega) (.inr (by omega)) (by omega) (fun cap' _ _ => ⟨(by (exact zLok)), ?_⟩)); refine po_norm rfl ?_)
   (refine zDgo ?_)
   (refine zGo ?_)
   (refine pl_op rfl (v_bstrM (bs := s.take m ++ (s.drop (0 + (m + 1))).take (s.length - (m + 1))) hT rfl rfl rfl rfl rfl rfl (by simp; omega) ?_); (refine zNp ?_))
   (refine zGo ?_)
   exact ⟨_, _, _, rfl, ⟨i3, ⟨s.take m ++ (s.drop (0 + (m + 1))).take (s.length - (m + 1)), by simp; omega, rfl⟩, hi3, rfl⟩, .inr (.inl rfl), ⟨.inr (.inl rfl), trivial⟩, rfl, rfl⟩
  ·(refine zGo ?_)
   (refine pl_op rfl (v_bstrM (bs := s) hT rfl rfl rfl rfl rfl rfl rfl ?_); (refine zNp ?_))
   (refine zGo ?_)
   exact ⟨_, _, _, rfl, ⟨i3, ⟨s, by omega, rfl⟩, hi3, rfl⟩, .inr (.inl rfl), ⟨.inr (.inl rfl), trivial⟩, rfl, rfl⟩
 (refine zGo ?_)
 refine pw_cond rfl (fun h1 => ?_) (fun h1 => ?_)
 ·(refine zGo ?_)
  refine zDr [[0,1,2,3,5,6,7],[4,8,9],[10]] ?_
  (refine zDgo ?_)
  (refine po_val rfl rfl (v_sliceHi (m := m) hT rfl rfl rfl rfl (by omega)) ?_; refine zDn ?_)
  (refine zDgo ?_)
  (refine po_val rfl rfl (v_sliceLo (m := m) hT rfl rfl rfl rfl hml hcap) ?_; refine zDn ?_)
  (refine zDgo ?_)
  (refine po_step rfl rfl (op_litm hT rfl rfl rfl rfl rfl (by decide) rfl rfl rfl rfl ⟨zLok, ?_⟩); refine zDn ?_)
  (refine zDgo ?_)
  (refine po_step rfl rfl (op_appendB (b := 1) (xs := [cb]) hT rfl rfl rfl rfl (Nat.le_refl _) rfl rfl (by omega) (.inr (by decide)) (by omega) (fun cap1 _ _ => ⟨(by (exact zLok)), ?_⟩)); refine po_norm rfl ?_)
  (refine zDgo ?_)
  (refine po_step rfl rfl (op_appendB (b := 1) hT rfl rfl rfl rfl hml rfl rfl (by simp; omega) (.inl (by omega)) (by omega) (fun cap2 _ _ => ⟨(by (exact zLok)), ?_⟩)); refine po_norm rfl ?_)
  (refine zDgo ?_)
  (refine zGo ?_)
  (refine pl_op rfl (v_bstrM (bs := s.take m ++ ((([cb].take 1 ++ (s.drop (0 + m)).take (s.length - m))).drop 0).take (1 + (s.length - m))) hT rfl rfl rfl rfl rfl rfl (by simp; omega) ?_); (refine zNp ?_))
  (refine zGo ?_)
  exact ⟨_, _, _, rfl, ⟨i3, ⟨s.take m ++ ((([cb].take 1 ++ (s.drop (0 + m)).take (s.length - m))).drop 0).take (1 + (s.length - m)), by simp; omega, rfl⟩, hi3, rfl⟩, .inr (.inl rfl), ⟨.inr (.inl rfl), trivial⟩, rfl, rfl⟩
 (refine zGo ?_)
 refine pw_cond rfl (fun h1 => ?_) (fun h1 => ?_)
 ·refine pw_shrink 1 m rfl ?_
  refine pw_norm rfl ?_
  rw [← List.map_take]
  (refine zGo ?_)
  (refine pl_op rfl (op_of (v_sliceHi (m := m) hT rfl rfl rfl rfl (by omega)) ?_); (refine zNp ?_))
  (refine zGo ?_)
  (refine pl_op rfl (v_bstrM (bs := s.take m) hT rfl rfl rfl rfl rfl rfl (by simp; omega) ?_); (refine zNp ?_))
  (refine zGo ?_)
  exact ⟨_, _, _, rfl, ⟨i3, ⟨s.take m, by simp; omega, rfl⟩, hi3, rfl⟩, .inr (.inl rfl), ⟨.inr (.inl rfl), trivial⟩, rfl, rfl⟩
 ·(refine zGo ?_)
  (refine pl_op rfl (v_bstrM (bs := s) hT rfl rfl rfl rfl rfl rfl rfl ?_); (refine zNp ?_))
  (refine zGo ?_)
  exact ⟨_, _, _, rfl, ⟨i3, ⟨s, by omega, rfl⟩, hi3, rfl⟩, .inr (.inl rfl), ⟨.inr (.inl rfl), trivial⟩, rfl, rfl⟩

end
end Go.Proofs.YtkaobkjcjodffaaGreatDoor