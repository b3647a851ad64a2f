/-
 Contracts of functions, walked over pure values.
-/
import Derived.Test.YtkaobkjcjodffaaGreatDoorBM11
import Derived.Test.YtkaobkjcjodffaaGreatDoorAPwApX
set_option maxHeartbeats 20000000
set_option maxRecDepth 100000
namespace Go.Proofs.YtkaobkjcjodffaaGreatDoor
open Go Go.Pw
section
variable {Gl : Glob}
attribute [local irreducible] PW PWL OpP PCalls PWO PWT bothT
def stmP (s : TStm) : List PV := [.bool s.permit, .str s.src, .str s.dst, .str s.service, .bool s.excepted, .str s.exSrc, .str s.exDst, .str s.cls, .str s.during, .int .i64 s.prio]
theorem c_words (s : TStm) (h : 0 ≤ s.prio ∧ s.prio < 10000000) : PFun Tryz.prog Gl 33 [eStm s] fun r => r = .sl ((stmW s).map .str) := by
 (refine PFun.of hT Tryz.func33 rfl fun B hD => ?_; refine pw_norm rfl ?_)
 (try refine zS ?_)
 refine zDr [[0,1,3,4,6,7],[2,5,8,9],[10]] ?_
 (refine zDgo ?_)
 (refine po_step rfl rfl (op_fun (c_name s.src) rfl rfl e86 zLe rfl (fun r hr => ?_)); subst hr; refine ⟨rfl, zLok, ?_⟩; refine zDn ?_)
 (refine zDgo ?_)
 (refine po_step rfl rfl (op_fun (c_name s.dst) rfl rfl e86 zLe rfl (fun r hr => ?_)); subst hr; refine ⟨rfl, zLok, ?_⟩; refine zDn ?_)
 (refine zDgo ?_)
 (refine po_step rfl rfl (op_fun (c_name s.service) rfl rfl e86 zLe rfl (fun r hr => ?_)); subst hr; refine ⟨rfl, zLok, ?_⟩; refine zDn ?_)
 (refine zDgo ?_)
 (refine po_step rfl rfl (op_litm hT rfl rfl rfl rfl rfl (by decide) rfl rfl rfl rfl ⟨zLok, ?_⟩); refine zDn ?_)
 (refine zDgo ?_)
 (try refine zS ?_)
 refine zNq ?_
 refine pw_joinX hD (fun _ : Unit => True) (fun _ => [(3, .msl 1 1 0 5 5), (15, .any), (16, .any), (17, .any)]) (fun _ => [.box (stmP s), .arr 1 ((stmW0 s).map .str) 5]) 2 rfl (fun _ => rfl) (fun _ => rfl) (fun _ => rfl) ?_ ?_
 ·refine zT ?_ ?_ <;> intro h1 <;> refine zNq ?_
  ·(try refine zS ?_)
   (refine pl_op rfl (op_of (v_indexm hT rfl rfl rfl rfl rfl (by decide) (by decide) (by decide)) ?_); (refine zNp ?_))
   (refine pl_op rfl (op_storeE' (x0 := .str [100, 101, 110, 121]) (x1 := .str [97, 108, 108, 111, 119]) (xs' := (stmW0 s).map .str) hT rfl rfl rfl rfl rfl (by decide) (rfl) rfl rfl rfl rfl (Nat.le_of_ble_eq_true rfl) rfl (by unfold stmW0; rw [h1]; rfl) ?_); (refine zNp ?_))
   (try refine zS ?_)
   exact ⟨(), trivial, zLe, zLes⟩
  ·have e0 : stmW0 s = [[100, 101, 110, 121], nameS s.src, [45, 62], nameS s.dst, nameS s.service] := by
    rw [Bool.not_eq_true] at h1
    unfold stmW0; rw [h1]; rfl
   (try refine zS ?_)
   refine ⟨(), trivial, zLe, ?_⟩
   rw [e0]
   (exact zLes)
 rintro _ _
 refine zNq ?_
 (try refine zS ?_)
 have l0 : (stmW0 s).length = 5 := rfl
 refine pw_joinX hD (fun _ : Nat => True) (fun c => [(3, .msl 1 2 0 ((stmW1 s).map PV.str).length c), (13, .any), (16, .any), (19, .any)]) (fun c => [.box (stmP s), .dead, .arr 1 ((stmW1 s).map .str) c]) 3 rfl (fun _ => rfl) (fun _ => rfl) (fun _ => rfl) ?_ ?_
 ·refine zT ?_ ?_ <;> intro h1 <;> refine zNq ?_
  ·have e1 : stmW1 s = stmW0 s ++ [[101, 120, 99, 101, 112, 116], nameS s.exSrc, [45, 62], nameS s.exDst] := by unfold stmW1; rw [h1]; rfl
   rw [e1]
   refine zDr [[0,1,2,4,5],[3,6],[7],[8],[9]] ?_
   refine zDn ?_
   refine zD ?_
   (refine po_step rfl rfl (op_append (b := 16) hT rfl rfl rfl rfl rfl rfl (.inl (Nat.zero_lt_succ _)) rfl rfl (by simp; omega) (fun c1 _ hcap => ⟨zLok, ?_⟩)); refine zDn ?_)
   refine zD ?_
   refine ⟨c1, trivial, ?_, ?_⟩
   all_goals simp only [List.map_append, List.length_append]
   ·(exact zLe)
   ·(exact zLes)
  ·have e1 : stmW1 s = stmW0 s := by
    rw [Bool.not_eq_true] at h1
    unfold stmW1; rw [h1]; exact List.append_nil _
   rw [e1]
   refine pw_ghost 1 ?_
   refine zNq ?_
   (refine pw_mv 2 1 hD rfl rfl rfl rfl rfl ?_; refine pw_norm rfl ?_)
   (try refine zS ?_)
   exact ⟨5, trivial, zLe, zLes⟩
 intro c _
 refine zNq ?_
 (refine pw_mv 1 2 hD rfl rfl rfl rfl rfl ?_; refine pw_norm rfl ?_)
 (refine pw_trim 2 hD rfl rfl ?_; refine pw_norm rfl ?_)
 have l1 : (stmW1 s).length ≤ 9 := by unfold stmW1; rw [List.length_append]; split <;> simp [l0]
 generalize hW : stmW1 s = W at l1 ⊢
 refine zNq ?_
 (try refine zS ?_)
 refine pw_joinX hD (fun _ : Nat => True) (fun c => [(3, .msl 1 1 0 ((stmW2 s).map PV.str).length c), (31, .any)]) (fun c => [.box (stmP s), .arr 1 ((stmW2 s).map .str) c]) 2 rfl (fun _ => rfl) (fun _ => rfl) (fun _ => rfl) ?_ ?_
 ·refine zT ?_ ?_ <;> intro h1 <;> refine zNq ?_
  ·have e1 : stmW2 s = W ++ [[118, 105, 97], s.cls] := by unfold stmW2; rw [hW, if_neg h1]
   rw [e1]
   (try refine zS ?_)
   (refine pl_append (b := 16) hT hD rfl rfl rfl rfl rfl rfl rfl rfl (.inl (Nat.zero_lt_succ _)) rfl rfl (by simp; omega) (fun c1 _ hcap => ?_); (refine zNp ?_))
   (try refine zS ?_)
   refine ⟨c1, trivial, ?_, ?_⟩
   all_goals simp only [List.map_append, List.length_append]
   ·(exact zLe)
   ·(exact zLes)
  ·have e1 : stmW2 s = W := by unfold stmW2; rw [hW, if_pos (Decidable.not_not.1 h1)]; exact List.append_nil _
   rw [e1]
   (try refine zS ?_)
   exact ⟨c, trivial, zLe, zLes⟩
 have l2 : (stmW2 s).length ≤ 11 := by unfold stmW2; rw [hW, List.length_append]; split <;> simp <;> omega
 clear hW l1 c
 intro c _
 generalize hW : stmW2 s = W at l2 ⊢
 have l1 := l2
 clear l2
 refine zNq ?_
 (try refine zS ?_)
 refine pw_joinX hD (fun _ : Nat => True) (fun c => [(3, .msl 1 1 0 ((stmW3 s).map PV.str).length c), (39, .any)]) (fun c => [.box (stmP s), .arr 1 ((stmW3 s).map .str) c]) 2 rfl (fun _ => rfl) (fun _ => rfl) (fun _ => rfl) ?_ ?_
 ·refine zT ?_ ?_ <;> intro h1 <;> refine zNq ?_
  ·have e1 : stmW3 s = W ++ [[100, 117, 114, 105, 110, 103], s.during] := by unfold stmW3; rw [hW, if_neg h1]
   rw [e1]
   (try refine zS ?_)
   (refine pl_append (b := 16) hT hD rfl rfl rfl rfl rfl rfl rfl rfl (.inl (Nat.zero_lt_succ _)) rfl rfl (by simp; omega) (fun c1 _ hcap => ?_); (refine zNp ?_))
   (try refine zS ?_)
   refine ⟨c1, trivial, ?_, ?_⟩
   all_goals simp only [List.map_append, List.length_append]
   ·(exact zLe)
   ·(exact zLes)
  ·have e1 : stmW3 s = W := by unfold stmW3; rw [hW, if_pos (Decidable.not_not.1 h1)]; exact List.append_nil _
   rw [e1]
   (try refine zS ?_)
   exact ⟨c, trivial, zLe, zLes⟩
 have l2 : (stmW3 s).length ≤ 13 := by unfold stmW3; rw [hW, List.length_append]; split <;> simp <;> omega
 clear hW l1 c
 intro c _
 generalize hW : stmW3 s = W at l2 ⊢
 have l1 := l2
 clear l2
 refine zNq ?_
 (try refine zS ?_)
 refine pw_joinX hD (fun _ : Nat => True) (fun c => [(3, .msl 1 1 0 ((stmW s).map PV.str).length c), (47, .any)]) (fun c => [.box (stmP s), .arr 1 ((stmW s).map .str) c]) 2 rfl (fun _ => rfl) (fun _ => rfl) (fun _ => rfl) ?_ ?_
 ·refine zT ?_ ?_ <;> intro h1 <;> refine zNq ?_
  ·have e1 : stmW s = W ++ [[112, 114, 105, 111, 114, 105, 116, 121], dec s.prio.toNat] := by unfold stmW; rw [hW, if_neg h1]
   rw [e1]
   (try refine zS ?_)
   (refine pl_append (b := 16) hT hD rfl rfl rfl rfl rfl rfl rfl rfl (.inl (Nat.zero_lt_succ _)) rfl rfl (by simp; omega) (fun c1 _ hcap => ?_); (refine zNp ?_))
   (try refine zS ?_)
   refine ⟨c1, trivial, ?_, ?_⟩
   all_goals simp only [List.map_append, List.length_append]
   ·(exact zLe)
   ·(exact zLes)
  ·have e1 : stmW s = W := by unfold stmW; rw [hW, if_pos (Decidable.not_not.1 h1)]; exact List.append_nil _
   rw [e1]
   (try refine zS ?_)
   exact ⟨c, trivial, zLe, zLes⟩
 have l2 : (stmW s).length ≤ 15 := by unfold stmW; rw [hW, List.length_append]; split <;> simp <;> omega
 clear hW l1 c
 intro c _
 generalize hW : stmW s = W at l2 ⊢
 have l1 := l2
 clear l2
 refine zNq ?_
 (try refine zS ?_)
 subst hW
 exact ret0 _ (.sl ((stmW s).map .str)) rfl rfl (.inr (.inr (.inr (.inl ⟨_, _, _, _, _, _, rfl, rfl, rfl, rfl, rfl⟩)))) rfl
instance iWords (s : TStm) : ConF Tryz.prog Gl 33 [.agg [.bool s.permit, .str s.src, .str s.dst, .str s.service, .bool s.excepted, .str s.exSrc, .str s.exDst, .str s.cls, .str s.during, .int .i64 s.prio]] (0 ≤ s.prio ∧ s.prio < 10000000) (.sl ((stmW s).map .str)) := ⟨e33, fun h => c_words s h⟩
attribute [local irreducible] iValid wFormat
theorem selD {α β : Type} [Inhabited α] (f : α → β) (l : List α) (i : Nat) (h : i < l.length) (out X : List β) (hw : out ++ (l.drop i).map f = X) : (out ++ [f (l.getD i default)]) ++ (l.drop (i + 1)).map f = X := by
 rw [← hw, List.drop_eq_getElem_cons h, List.map_cons, List.append_assoc, List.getD, List.getElem?_eq_getElem h]; rfl
theorem outLen {α β : Type} {f : α → β} {l : List α} {i : Nat} {out X : List β} (hw : out ++ (l.drop i).map f = X) : out.length ≤ X.length := by
 rw [← hw, List.length_append]; omega
theorem outEnd {α β : Type} {f : α → β} {l : List α} {i : Nat} {out X : List β} (hw : out ++ (l.drop i).map f = X) (h : l.length ≤ i) : out = X := by
 rw [← hw, List.drop_eq_nil_of_le h]; simp
theorem c_rFormat16 (i : TInt) (hb : IBig i) (hi : IIn2 i) : PFun Tryz.prog Gl 11 [eIntent i] fun r => r = .tup [.str (iFormat i).1, .int .i64 (iFormat i).2] := by
 (refine PFun.of hT Tryz.func11 rfl fun B hD => ?_; refine pw_norm rfl ?_)
 (try refine zS ?_)
 (refine pl_op rfl (op_fun (c_rValid i hb hi.toIIn) rfl rfl e30 zLe rfl (fun r hr => ?_)); subst hr; refine ⟨rfl, ?_⟩; (refine zNp ?_))
 (try refine zS ?_)
 refine zT ?_ ?_ <;> intro h <;> refine zNq ?_
 ·have e : iFormat i = ([], 1) := by unfold iFormat; rw [if_neg h]
  rw [e]
  (try refine zS ?_)
  exact ret2 _ rfl rfl rfl
 have h' : iValid i = true := Decidable.not_not.1 h
 have e : iFormat i = (textS (iLines i), 0) := by unfold iFormat; rw [if_pos h']
 rw [e]
 have hv := iValid_v h'
 have htl := iText_len hv hi.toIIn
 have hln := iLines_len hv
 have hfl := iLines_fl hv hi.toIIn
 clear e h h'
 have hl1 := hv.gs.len
 have hl2 := hv.ss.len
 have hl3 := hv.wl
 have hl4 := hv.sl
 have hl5 := hv.pl
 have hl6 := hv.hl
 have k1 : (lGroups i).length ≤ 32 := by simp only [lGroups, List.length_map]; omega
 have k2 : (lGroups i ++ lServices i).length ≤ 64 := by rw [List.length_append]; simp only [lServices, List.length_map]; omega
 have k3 : ((lGroups i ++ lServices i) ++ lWindows i).length ≤ 96 := by rw [List.length_append]; simp only [lWindows, List.length_map]; omega
 have k4 : (((lGroups i ++ lServices i) ++ lWindows i) ++ lStms i).length ≤ 160 := by rw [List.length_append]; simp only [lStms, List.length_map]; omega
 have k5 : ((((lGroups i ++ lServices i) ++ lWindows i) ++ lStms i) ++ lPubs i).length ≤ 176 := by rw [List.length_append]; simp only [lPubs, List.length_map]; omega
 have k6 : (iLines i).length ≤ 184 := hln
 (try refine zS ?_)
 refine pw_ghost 2 ?_
 refine zNq ?_
 refine pw_for hD (fun a : Nat × List TLine × Nat => [(4, .msl 2 1 0 (a.2.1.map eLine).length a.2.2), (5, .int .i64 a.1)]) (fun a => [.box (eIntent i).cells, .arr 2 (a.2.1.map eLine) a.2.2]) (fun a => a.1 ≤ i.groups.length ∧ a.2.1 ++ (i.groups.drop a.1).map (fun d => ln (defW true d)) = lGroups i) (fun a => i.groups.length - a.1) (0, [], 0) ⟨Nat.zero_le _, rfl⟩ 2 rfl (fun _ => rfl) zLes (fun _ => rfl) (fun _ => rfl) zLe ?_
 rintro ⟨k, out, cap⟩ ⟨hk, hw⟩
 dsimp only at hk hw ⊢
 have ho := outLen hw
 refine zNq ?_
 (try refine zS ?_)
 refine zT ?_ ?_ <;> intro h <;> refine zNq ?_
 ·have hlt : k < i.groups.length := by omega
  have hw2 := selD (fun d => ln (defW true d)) i.groups k hlt out _ hw
  have hm := getD_memD hlt
  have hi2 := hv.gs.i2 _ hm
  have hf : ∀ x ∈ (i.groups.getD k default).items, FItem x := fun x hx => vItem_f (hv.gs.items _ hm x hx) (hi.gits _ hm x hx)
  have hnl := itemsN_len (i.groups.getD k default).items true (i.groups.getD k default).items.length
  have hnl2 : (itemsW (i.groups.getD k default).items true).length ≤ 48 := by unfold itemsW; omega
  (try refine zS ?_)
  refine pw_drawF [(0, true), (1, true), (2, true), (3, true), (4, true), (5, true), (6, true), (8, true), (9, true), (10, true), (11, true), (12, true), (13, true)] 7 [(14, false), (15, false), (16, true), (17, true), (18, false), (19, true)] 14 [(7, false), (15, false), (16, true), (17, true), (18, false), (19, true)] hmix (by decide +kernel) ?_
  refine zDn ?_
  refine zD ?_
  refine po_both ?_ ?_
  ·(refine po_step rfl rfl (op_litm hT rfl rfl rfl rfl rfl (by decide) rfl rfl rfl rfl ⟨zLok, ?_⟩); refine zDn ?_)
   (refine po_step rfl rfl (op_fun (c_fItems (i.groups.getD k default).items true (by omega) hf) rfl rfl e31 zLe rfl (fun r hr => ?_)); subst hr; refine ⟨rfl, zLok, ?_⟩; refine zDn ?_)
   (refine po_step rfl rfl (op_appendF (b := 16) hT rfl rfl rfl rfl (by simp) rfl (by first | rfl | (simp only [List.all_map]; exact List.all_eq_true.2 fun _ _ => rfl)) (by first | rfl | (simp only [List.all_map]; exact List.all_eq_true.2 fun _ _ => rfl)) (by simp only [List.length_map, List.length_cons, List.length_nil]; omega) ⟨(by (repeat (first | exact True.intro | refine ⟨.inr rfl, ?_⟩ | refine ⟨.inl (by decide +kernel), ?_⟩))), ?_⟩); (first | refine po_norm rfl ?_ | refine po_normE rfl ?_))
   refine zD ?_
   (refine po_step rfl rfl (op_append (b := 32) hT rfl rfl rfl rfl rfl rfl (.inl (Nat.zero_lt_succ _)) rfl rfl (by simp only [List.length_map, List.length_cons, List.length_nil]; omega) (fun cap1 _ hcap => ⟨zLok, ?_⟩)); refine zDn ?_)
   refine zD ?_
   (refine pw_mv 1 4 hD rfl rfl rfl rfl rfl ?_; refine pw_norm rfl ?_)
   (try refine zS ?_)
   refine ⟨(k + 1, out ++ [ln (defW true (i.groups.getD k default))], cap1), ⟨hlt, hw2⟩, by dsimp only; omega, ?_, ?_⟩
   all_goals simp only [List.map_append, List.length_append]
   ·(exact zLe)
   ·(exact zLes)
  ·refine zD ?_
   (refine po_step rfl rfl (op_litm hT rfl rfl rfl rfl rfl (by decide) rfl rfl rfl rfl ⟨zLok, ?_⟩); refine zDn ?_)
   (refine po_step rfl rfl (op_appendF (b := 16) hT rfl rfl rfl rfl (by simp) rfl (by first | rfl | (simp only [List.all_map]; exact List.all_eq_true.2 fun _ _ => rfl)) (by first | rfl | (simp only [List.all_map]; exact List.all_eq_true.2 fun _ _ => rfl)) (by simp only [List.length_map, List.length_cons, List.length_nil]; omega) ⟨(by (repeat (first | exact True.intro | refine ⟨.inr rfl, ?_⟩ | refine ⟨.inl (by decide +kernel), ?_⟩))), ?_⟩); (first | refine po_norm rfl ?_ | refine po_normE rfl ?_))
   refine zD ?_
   (refine po_step rfl rfl (op_append (b := 32) hT rfl rfl rfl rfl rfl rfl (.inl (Nat.zero_lt_succ _)) rfl rfl (by simp only [List.length_map, List.length_cons, List.length_nil]; omega) (fun cap1 _ hcap => ⟨zLok, ?_⟩)); refine zDn ?_)
   refine zD ?_
   (refine pw_mv 1 4 hD rfl rfl rfl rfl rfl ?_; refine pw_norm rfl ?_)
   (try refine zS ?_)
   refine ⟨(k + 1, out ++ [ln (defW true (i.groups.getD k default))], cap1), ⟨hlt, hw2⟩, by dsimp only; omega, ?_, ?_⟩
   all_goals simp only [List.map_append, List.length_append]
   ·(exact zLe)
   ·(exact zLes)
 have hz : k = i.groups.length := by omega
 have hout := outEnd hw (by omega)
 subst hz hout
 clear hw ho h hk
 (try refine zS ?_)
 refine pw_for hD (fun a : Nat × List TLine × Nat => [(4, .msl 2 1 0 (a.2.1.map eLine).length a.2.2), (6, .int .i64 a.1)]) (fun a => [.box (eIntent i).cells, .arr 2 (a.2.1.map eLine) a.2.2]) (fun a => a.1 ≤ i.services.length ∧ a.2.1 ++ (i.services.drop a.1).map (fun d => ln (defW false d)) = lGroups i ++ lServices i) (fun a => i.services.length - a.1) (0, lGroups i, cap) ⟨Nat.zero_le _, rfl⟩ 2 rfl (fun _ => rfl) zLes (fun _ => rfl) (fun _ => rfl) zLe ?_
 clear cap
 rintro ⟨k, out, cap⟩ ⟨hk, hw⟩
 dsimp only at hk hw ⊢
 have ho := outLen hw
 refine zNq ?_
 (try refine zS ?_)
 refine zT ?_ ?_ <;> intro h <;> refine zNq ?_
 ·have hlt : k < i.services.length := by omega
  have hw2 := selD (fun d => ln (defW false d)) i.services k hlt out _ hw
  have hm := getD_memD hlt
  have hi2 := hv.ss.i2 _ hm
  have hf : ∀ x ∈ (i.services.getD k default).items, FItem x := fun x hx => vItem_f (hv.ss.items _ hm x hx) (hi.sits _ hm x hx)
  have hnl := itemsN_len (i.services.getD k default).items false (i.services.getD k default).items.length
  have hnl2 : (itemsW (i.services.getD k default).items false).length ≤ 48 := by unfold itemsW; omega
  (try refine zS ?_)
  refine pw_drawF [(0, true), (1, true), (2, true), (3, true), (4, true), (5, true), (6, true), (8, true), (9, true), (10, true), (11, true), (12, true), (13, true)] 7 [(14, false), (15, false), (16, true), (17, true), (18, false), (19, true)] 14 [(7, false), (15, false), (16, true), (17, true), (18, false), (19, true)] hmix (by decide +kernel) ?_
  refine zDn ?_
  refine zD ?_
  refine po_both ?_ ?_
  ·(refine po_step rfl rfl (op_litm hT rfl rfl rfl rfl rfl (by decide) rfl rfl rfl rfl ⟨zLok, ?_⟩); refine zDn ?_)
   (refine po_step rfl rfl (op_fun (c_fItems (i.services.getD k default).items false (by omega) hf) rfl rfl e31 zLe rfl (fun r hr => ?_)); subst hr; refine ⟨rfl, zLok, ?_⟩; refine zDn ?_)
   (refine po_step rfl rfl (op_appendF (b := 16) hT rfl rfl rfl rfl (by simp) rfl (by first | rfl | (simp only [List.all_map]; exact List.all_eq_true.2 fun _ _ => rfl)) (by first | rfl | (simp only [List.all_map]; exact List.all_eq_true.2 fun _ _ => rfl)) (by simp only [List.length_map, List.length_cons, List.length_nil]; omega) ⟨(by (repeat (first | exact True.intro | refine ⟨.inr rfl, ?_⟩ | refine ⟨.inl (by decide +kernel), ?_⟩))), ?_⟩); (first | refine po_norm rfl ?_ | refine po_normE rfl ?_))
   refine zD ?_
   (refine po_step rfl rfl (op_append (b := 32) hT rfl rfl rfl rfl rfl rfl (.inl (Nat.zero_lt_succ _)) rfl rfl (by simp only [List.length_map, List.length_cons, List.length_nil]; omega) (fun cap1 _ hcap => ⟨zLok, ?_⟩)); refine zDn ?_)
   refine zD ?_
   (refine pw_mv 1 4 hD rfl rfl rfl rfl rfl ?_; refine pw_norm rfl ?_)
   (try refine zS ?_)
   refine ⟨(k + 1, out ++ [ln (defW false (i.services.getD k default))], cap1), ⟨hlt, hw2⟩, by dsimp only; omega, ?_, ?_⟩
   all_goals simp only [List.map_append, List.length_append]
   ·(exact zLe)
   ·(exact zLes)
  ·refine zD ?_
   (refine po_step rfl rfl (op_litm hT rfl rfl rfl rfl rfl (by decide) rfl rfl rfl rfl ⟨zLok, ?_⟩); refine zDn ?_)
   (refine po_step rfl rfl (op_appendF (b := 16) hT rfl rfl rfl rfl (by simp) rfl (by first | rfl | (simp only [List.all_map]; exact List.all_eq_true.2 fun _ _ => rfl)) (by first | rfl | (simp only [List.all_map]; exact List.all_eq_true.2 fun _ _ => rfl)) (by simp only [List.length_map, List.length_cons, List.length_nil]; omega) ⟨(by (repeat (first | exact True.intro | refine ⟨.inr rfl, ?_⟩ | refine ⟨.inl (by decide +kernel), ?_⟩))), ?_⟩); (first | refine po_norm rfl ?_ | refine po_normE rfl ?_))
   refine zD ?_
   (refine po_step rfl rfl (op_append (b := 32) hT rfl rfl rfl rfl rfl rfl (.inl (Nat.zero_lt_succ _)) rfl rfl (by simp only [List.length_map, List.length_cons, List.length_nil]; omega) (fun cap1 _ hcap => ⟨zLok, ?_⟩)); refine zDn ?_)
   refine zD ?_
   (refine pw_mv 1 4 hD rfl rfl rfl rfl rfl ?_; refine pw_norm rfl ?_)
   (try refine zS ?_)
   refine ⟨(k + 1, out ++ [ln (defW false (i.services.getD k default))], cap1), ⟨hlt, hw2⟩, by dsimp only; omega, ?_, ?_⟩
   all_goals simp only [List.map_append, List.length_append]
   ·(exact zLe)
   ·(exact zLes)
 have hz : k = i.services.length := by omega
 have hout := outEnd hw (by omega)
 subst hz hout
 clear hw ho h hk
 (try refine zS ?_)
 refine pw_for hD (fun a : Nat × List TLine × Nat => [(4, .msl 2 1 0 (a.2.1.map eLine).length a.2.2), (7, .int .i64 a.1)]) (fun a => [.box (eIntent i).cells, .arr 2 (a.2.1.map eLine) a.2.2]) (fun a => a.1 ≤ i.windows.length ∧ a.2.1 ++ (i.windows.drop a.1).map (fun d => ln (winW d)) = (lGroups i ++ lServices i) ++ lWindows i) (fun a => i.windows.length - a.1) (0, lGroups i ++ lServices i, cap) ⟨Nat.zero_le _, rfl⟩ 2 rfl (fun _ => rfl) zLes (fun _ => rfl) (fun _ => rfl) zLe ?_
 clear cap
 rintro ⟨k, out, cap⟩ ⟨hk, hw⟩
 dsimp only at hk hw ⊢
 have ho := outLen hw
 refine zNq ?_
 (try refine zS ?_)
 refine zT ?_ ?_ <;> intro h <;> refine zNq ?_
 ·have hlt : k < i.windows.length := by omega
  have hw2 := selD (fun d => ln (winW d)) i.windows k hlt out _ hw
  have hm := getD_memD hlt
  have hwo := wOk_len (hv.wok _ hm)
  have hwi := hi.wins _ hm
  obtain ⟨hw3, hw4⟩ := hwi
  (try refine zS ?_)
  refine pw_drawF [(0, true), (1, true), (2, true), (3, true), (4, true), (5, true), (6, true), (8, true), (9, true), (10, true), (11, true), (12, true), (13, true)] 7 [(14, false), (15, false), (16, true), (17, true), (18, false), (19, true)] 14 [(7, false), (15, false), (16, true), (17, true), (18, false), (19, true)] hmix (by decide +kernel) ?_
  refine zDn ?_
  refine zD ?_
  refine po_both ?_ ?_
  ·(refine po_step rfl rfl (op_litm hT rfl rfl rfl rfl rfl (by decide) rfl rfl rfl rfl ⟨zLok, ?_⟩); refine zDn ?_)
   (refine po_step rfl rfl (op_fun (c_rFormat9 (i.windows.getD k default).active (by omega) hw4) rfl rfl e32 zLe rfl (fun r hr => ?_)); subst hr; refine ⟨rfl, zLok, ?_⟩; refine zDn ?_)
   (refine po_step rfl rfl (op_appendF (b := 16) hT rfl rfl rfl rfl (by simp) rfl (by first | rfl | (simp only [List.all_map]; exact List.all_eq_true.2 fun _ _ => rfl)) (by first | rfl | (simp only [List.all_map]; exact List.all_eq_true.2 fun _ _ => rfl)) (by simp only [List.length_map, List.length_cons, List.length_nil]; omega) ⟨(by (repeat (first | exact True.intro | refine ⟨.inr rfl, ?_⟩ | refine ⟨.inl (by decide +kernel), ?_⟩))), ?_⟩); (first | refine po_norm rfl ?_ | refine po_normE rfl ?_))
   refine zD ?_
   (refine po_step rfl rfl (op_append (b := 32) hT rfl rfl rfl rfl rfl rfl (.inl (Nat.zero_lt_succ _)) rfl rfl (by simp only [List.length_map, List.length_cons, List.length_nil]; omega) (fun cap1 _ hcap => ⟨zLok, ?_⟩)); refine zDn ?_)
   refine zD ?_
   (refine pw_mv 1 4 hD rfl rfl rfl rfl rfl ?_; refine pw_norm rfl ?_)
   (try refine zS ?_)
   refine ⟨(k + 1, out ++ [ln (winW (i.windows.getD k default))], cap1), ⟨hlt, hw2⟩, by dsimp only; omega, ?_, ?_⟩
   all_goals simp only [List.map_append, List.length_append]
   ·(exact zLe)
   ·(exact zLes)
  ·refine zD ?_
   (refine po_step rfl rfl (op_litm hT rfl rfl rfl rfl rfl (by decide) rfl rfl rfl rfl ⟨zLok, ?_⟩); refine zDn ?_)
   (refine po_step rfl rfl (op_appendF (b := 16) hT rfl rfl rfl rfl (by simp) rfl (by first | rfl | (simp only [List.all_map]; exact List.all_eq_true.2 fun _ _ => rfl)) (by first | rfl | (simp only [List.all_map]; exact List.all_eq_true.2 fun _ _ => rfl)) (by simp only [List.length_map, List.length_cons, List.length_nil]; omega) ⟨(by (repeat (first | exact True.intro | refine ⟨.inr rfl, ?_⟩ | refine ⟨.inl (by decide +kernel), ?_⟩))), ?_⟩); (first | refine po_norm rfl ?_ | refine po_normE rfl ?_))
   refine zD ?_
   (refine po_step rfl rfl (op_append (b := 32) hT rfl rfl rfl rfl rfl rfl (.inl (Nat.zero_lt_succ _)) rfl rfl (by simp only [List.length_map, List.length_cons, List.length_nil]; omega) (fun cap1 _ hcap => ⟨zLok, ?_⟩)); refine zDn ?_)
   refine zD ?_
   (refine pw_mv 1 4 hD rfl rfl rfl rfl rfl ?_; refine pw_norm rfl ?_)
   (try refine zS ?_)
   refine ⟨(k + 1, out ++ [ln (winW (i.windows.getD k default))], cap1), ⟨hlt, hw2⟩, by dsimp only; omega, ?_, ?_⟩
   all_goals simp only [List.map_append, List.length_append]
   ·(exact zLe)
   ·(exact zLes)
 have hz : k = i.windows.length := by omega
 have hout := outEnd hw (by omega)
 subst hz hout
 clear hw ho h hk
 (try refine zS ?_)
 refine pw_for hD (fun a : Nat × List TLine × Nat => [(4, .msl 2 1 0 (a.2.1.map eLine).length a.2.2), (8, .int .i64 a.1)]) (fun a => [.box (eIntent i).cells, .arr 2 (a.2.1.map eLine) a.2.2]) (fun a => a.1 ≤ i.stms.length ∧ a.2.1 ++ (i.stms.drop a.1).map (fun d => ln (stmW d)) = ((lGroups i ++ lServices i) ++ lWindows i) ++ lStms i) (fun a => i.stms.length - a.1) (0, (lGroups i ++ lServices i) ++ lWindows i, cap) ⟨Nat.zero_le _, rfl⟩ 2 rfl (fun _ => rfl) zLes (fun _ => rfl) (fun _ => rfl) zLe ?_
 clear cap
 rintro ⟨k, out, cap⟩ ⟨hk, hw⟩
 dsimp only at hk hw ⊢
 have ho := outLen hw
 refine zNq ?_
 (try refine zS ?_)
 refine zT ?_ ?_ <;> intro h <;> refine zNq ?_
 ·have hlt : k < i.stms.length := by omega
  have hw2 := selD (fun d => ln (stmW d)) i.stms k hlt out _ hw
  have hm := getD_memD hlt
  have hpr := stm_prio (hv.stms _ hm)
  (try refine zS ?_)
  (refine pl_append (b := 32) hT hD rfl rfl rfl rfl rfl rfl rfl rfl (.inl (Nat.zero_lt_succ _)) rfl rfl (by simp only [List.length_map, List.length_cons, List.length_nil]; omega) (fun cap1 _ hcap => ?_); (refine zNp ?_))
  (try refine zS ?_)
  refine ⟨(k + 1, out ++ [ln (stmW (i.stms.getD k default))], cap1), ⟨hlt, hw2⟩, by dsimp only; omega, ?_, ?_⟩
  all_goals simp only [List.map_append, List.length_append]
  ·(exact zLe)
  ·(exact zLes)
 have hz : k = i.stms.length := by omega
 have hout := outEnd hw (by omega)
 subst hz hout
 clear hw ho h hk
 (try refine zS ?_)
 refine pw_for hD (fun a : Nat × List TLine × Nat => [(4, .msl 2 1 0 (a.2.1.map eLine).length a.2.2), (9, .int .i64 a.1)]) (fun a => [.box (eIntent i).cells, .arr 2 (a.2.1.map eLine) a.2.2]) (fun a => a.1 ≤ i.pubs.length ∧ a.2.1 ++ (i.pubs.drop a.1).map (fun d => ln (pubW d)) = (((lGroups i ++ lServices i) ++ lWindows i) ++ lStms i) ++ lPubs i) (fun a => i.pubs.length - a.1) (0, ((lGroups i ++ lServices i) ++ lWindows i) ++ lStms i, cap) ⟨Nat.zero_le _, rfl⟩ 2 rfl (fun _ => rfl) zLes (fun _ => rfl) (fun _ => rfl) zLe ?_
 clear cap
 rintro ⟨k, out, cap⟩ ⟨hk, hw⟩
 dsimp only at hk hw ⊢
 have ho := outLen hw
 refine zNq ?_
 (try refine zS ?_)
 refine zT ?_ ?_ <;> intro h <;> refine zNq ?_
 ·have hlt : k < i.pubs.length := by omega
  have hw2 := selD (fun d => ln (pubW d)) i.pubs k hlt out _ hw
  have hm := getD_memD hlt
  obtain ⟨hp1, hp2, hp3, _⟩ := pub_f (hv.pubs _ hm)
  obtain ⟨hp4, hp5⟩ := hi.pins _ hm
  (try refine zS ?_)
  refine pw_joinX hD (fun _ : Unit => True) (fun _ => [(11, .str (if (i.pubs.getD k default).proto = 17 then [117, 100, 112] else [116, 99, 112])), (126, .any)]) (fun _ => [.box (eIntent i).cells, .arr 2 (out.map eLine) cap, .box (ePub (i.pubs.getD k default)).cells]) 3 rfl (fun _ => rfl) (fun _ => rfl) (fun _ => rfl) ?_ ?_
  ·refine zT ?_ ?_ <;> intro h1 <;> refine zNq ?_
   ·rw [if_pos h1]
    (try refine zS ?_)
    exact ⟨(), trivial, zLe, zLes⟩
   ·rw [if_neg h1]
    (try refine zS ?_)
    exact ⟨(), trivial, zLe, zLes⟩
  rintro _ _
  refine zNq ?_
  (try refine zS ?_)
  refine zDr [[0,1,2,4,5,6,8,9,10,11,13,14],[3,7,12,15],[16,17,18],[19],[20]] ?_
  refine zDn ?_
  refine zD ?_
  (refine po_step rfl rfl (op_append (b := 32) hT rfl rfl rfl rfl rfl rfl (.inl (Nat.zero_lt_succ _)) rfl rfl (by simp only [List.length_map, List.length_cons, List.length_nil]; omega) (fun cap1 _ hcap => ⟨zLok, ?_⟩)); refine zDn ?_)
  refine zD ?_
  (refine pw_mv 1 3 hD rfl rfl rfl rfl rfl ?_; refine pw_norm rfl ?_)
  (try refine zS ?_)
  refine ⟨(k + 1, out ++ [ln (pubW (i.pubs.getD k default))], cap1), ⟨hlt, hw2⟩, by dsimp only; omega, ?_, ?_⟩
  all_goals simp only [List.map_append, List.length_append]
  ·(exact zLe)
  ·(exact zLes)
 have hz : k = i.pubs.length := by omega
 have hout := outEnd hw (by omega)
 subst hz hout
 clear hw ho h hk
 (try refine zS ?_)
 refine pw_for hD (fun a : Nat × List TLine × Nat => [(4, .msl 2 1 0 (a.2.1.map eLine).length a.2.2), (12, .int .i64 a.1)]) (fun a => [.box (eIntent i).cells, .arr 2 (a.2.1.map eLine) a.2.2]) (fun a => a.1 ≤ i.hids.length ∧ a.2.1 ++ (i.hids.drop a.1).map (fun d => ln (hidW d)) = iLines i) (fun a => i.hids.length - a.1) (0, (((lGroups i ++ lServices i) ++ lWindows i) ++ lStms i) ++ lPubs i, cap) ⟨Nat.zero_le _, rfl⟩ 2 rfl (fun _ => rfl) zLes (fun _ => rfl) (fun _ => rfl) zLe ?_
 clear cap
 rintro ⟨k, out, cap⟩ ⟨hk, hw⟩
 dsimp only at hk hw ⊢
 have ho := outLen hw
 refine zNq ?_
 (try refine zS ?_)
 refine zT ?_ ?_ <;> intro h <;> refine zNq ?_
 ·have hlt : k < i.hids.length := by omega
  have hw2 := selD (fun d => ln (hidW d)) i.hids k hlt out _ hw
  have hm := getD_memD hlt
  obtain ⟨hp1, hp2, hp3⟩ := hid_f (hv.hids _ hm)
  have hp4 := hid_pin (hv.hids _ hm)
  have hp5 := hi.hins _ hm
  (try refine zS ?_)
  refine zDr [[0,1,2,3,4,5,6,8,9],[7,10],[11,12,13],[14],[15]] ?_
  refine zDn ?_
  refine zD ?_
  (refine po_step rfl rfl (op_append (b := 32) hT rfl rfl rfl rfl rfl rfl (.inl (Nat.zero_lt_succ _)) rfl rfl (by simp only [List.length_map, List.length_cons, List.length_nil]; omega) (fun cap1 _ hcap => ⟨zLok, ?_⟩)); refine zDn ?_)
  refine zD ?_
  (refine pw_mv 1 3 hD rfl rfl rfl rfl rfl ?_; refine pw_norm rfl ?_)
  (try refine zS ?_)
  refine ⟨(k + 1, out ++ [ln (hidW (i.hids.getD k default))], cap1), ⟨hlt, hw2⟩, by dsimp only; omega, ?_, ?_⟩
  all_goals simp only [List.map_append, List.length_append]
  ·(exact zLe)
  ·(exact zLes)
 have hz : k = i.hids.length := by omega
 have hout := outEnd hw (by omega)
 subst hz hout
 clear hw ho h hk
 (try refine zS ?_)
 have hj := c27 (Gl := Gl) (iLines i) (by unfold Small; omega) (fun x hx => by have := (hfl x hx).few; unfold Small; omega) (by unfold Small; omega)
 (refine pl_op rfl (op_lend0 hj rfl rfl e21 ⟨.inr (.inr (.inr (.inl ⟨_, _, _, _, _, _, rfl, rfl, rfl, rfl, rfl⟩))), trivial⟩ rfl (fun r hr => ?_)); subst hr; refine ⟨rfl, ?_⟩; (refine zNp ?_))
 (try refine zS ?_)
 exact ret2 _ rfl rfl rfl

end
end Go.Proofs.YtkaobkjcjodffaaGreatDoor