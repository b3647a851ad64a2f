/-
 Contracts of functions, walked over pure values.
-/
import Derived.Test.YtkaobkjcjodffaaGreatDoorKM12
import Derived.Test.YtkaobkjcjodffaaGreatDoorJPwApX
import Derived.Test.YtkaobkjcjodffaaGreatDoorKW5
import Derived.Test.YtkaobkjcjodffaaGreatDoorKP1
set_option maxHeartbeats 20000000
set_option maxRecDepth 100000
namespace Go.Proofs.YtkaobkjcjodffaaGreatDoor
open Go Go.Pw
section
variable {Gl : Glob}
attribute [local irreducible] PW PWL OpP PCalls PWO iValid wFormat PWT
theorem selD {α β : Type} [Inhabited α] (f : α → β) (l : List α) (i : Nat) (h : i < l.length) (out X : List β) (hw : out ++ (l.drop i).map f = X) : (out ++ [f (l.getD i default)]) ++ (l.drop (i + 1)).map f = X := by
 rw [← hw, List.drop_eq_getElem_cons h, List.map_cons, List.append_assoc, List.getD, List.getElem?_eq_getElem h]; rfl
theorem outLen {α β : Type} {f : α → β} {l : List α} {i : Nat} {out X : List β} (hw : out ++ (l.drop i).map f = X) : out.length ≤ X.length := by
 rw [← hw, List.length_append]; omega
theorem outEnd {α β : Type} {f : α → β} {l : List α} {i : Nat} {out X : List β} (hw : out ++ (l.drop i).map f = X) (h : l.length ≤ i) : out = X := by
 rw [← hw, List.drop_eq_nil_of_le h]; simp
theorem c_rFormat16 (i : TInt) (hb : IBig i) (hi : IIn2 i) : PFun Tryz.prog Gl 11 [eIntent i] fun r => r = .tup [.str (iFormat i).1, .int .i64 (iFormat i).2] := by
 (refine PFun.of hT Tryz.func11 rfl fun B hD => ?_; refine pw_norm rfl ?_)
 (try refine zS ?_)
 (refine pl_op rfl (op_fun (c_rValid i hb hi.toIIn) rfl rfl e30 zLe rfl (fun r hr => ?_)); subst hr; refine ⟨rfl, ?_⟩; (refine zNp ?_))
 (try refine zS ?_)
 refine zT ?_ ?_ <;> intro h <;> refine zNq ?_
 ·have e : iFormat i = ([], 1) := by unfold iFormat; rw [if_neg h]
  rw [e]
  (try refine zS ?_)
  exact ret2 _ rfl rfl rfl
 have h' : iValid i = true := Decidable.not_not.1 h
 have e : iFormat i = (textS (iLines i), 0) := by unfold iFormat; rw [if_pos h']
 rw [e]
 have hv := iValid_v h'
 have htl := iText_len hv hi.toIIn
 have hln := iLines_len hv
 have hfl := iLines_fl hv hi.toIIn
 clear e h h'
 have hl1 := hv.gs.len
 have hl2 := hv.ss.len
 have hl3 := hv.wl
 have hl4 := hv.sl
 have hl5 := hv.pl
 have hl6 := hv.hl
 have k1 : (lGroups i).length ≤ 32 := by simp only [lGroups, List.length_map]; omega
 have k2 : (lGroups i ++ lServices i).length ≤ 64 := by rw [List.length_append]; simp only [lServices, List.length_map]; omega
 have k3 : ((lGroups i ++ lServices i) ++ lWindows i).length ≤ 96 := by rw [List.length_append]; simp only [lWindows, List.length_map]; omega
 have k4 : (((lGroups i ++ lServices i) ++ lWindows i) ++ lStms i).length ≤ 160 := by rw [List.length_append]; simp only [lStms, List.length_map]; omega
 have k5 : ((((lGroups i ++ lServices i) ++ lWindows i) ++ lStms i) ++ lPubs i).length ≤ 176 := by rw [List.length_append]; simp only [lPubs, List.length_map]; omega
 have k6 : (iLines i).length ≤ 184 := hln
 (try refine zS ?_)
 refine pw_ghost 2 ?_
 refine zNq ?_
 refine pw_for hD (fun a : Nat × List TLine × Nat => [(4, .msl 2 1 0 (a.2.1.map eLine).length a.2.2), (5, .int .i64 a.1)]) (fun a => [.box (eIntent i).cells, .arr 2 (a.2.1.map eLine) a.2.2]) (fun a => a.1 ≤ i.groups.length ∧ a.2.1 ++ (i.groups.drop a.1).map (fun d => ln (defW true d)) = lGroups i) (fun a => i.groups.length - a.1) (0, [], 0) ⟨Nat.zero_le _, rfl⟩ 2 rfl (fun _ => rfl) (by (exact zLes)) (fun _ => rfl) (fun _ => rfl) (by (exact zLe)) ?_
 rintro ⟨k, out, cap⟩ ⟨hk, hw⟩
 dsimp only at hk hw ⊢
 have ho := outLen hw
 refine zNq ?_
 (try refine zS ?_)
 refine zT ?_ ?_ <;> intro h <;> refine zNq ?_
 ·have hlt : k < i.groups.length := by omega
  have hw2 := selD (fun d => ln (defW true d)) i.groups k hlt out _ hw
  have hm := getD_memD hlt
  have hi2 := hv.gs.i2 _ hm
  have hf : ∀ x ∈ (i.groups.getD k default).items, FItem x := fun x hx => vItem_f (hv.gs.items _ hm x hx) (hi.gits _ hm x hx)
  have hnl := itemsN_len (i.groups.getD k default).items true (i.groups.getD k default).items.length
  have hnl2 : (itemsW (i.groups.getD k default).items true).length ≤ 48 := by unfold itemsW; omega
  (try refine zS ?_)
  refine pw_drawF [(0, true), (1, true), (2, true), (3, true), (4, true), (5, true), (6, true), (8, true), (9, true), (10, true), (11, true), (12, true), (13, true)] 7 [(14, false), (15, false), (16, true), (17, true), (18, false), (19, true)] 14 [(7, false), (15, false), (16, true), (17, true), (18, false), (19, true)] hmix (by decide +kernel) ?_
  refine zDn ?_
  refine zD ?_
  refine po_both ?_ ?_
  ·(refine po_step rfl rfl (op_litm hT rfl rfl rfl rfl rfl (by decide) rfl rfl rfl rfl ⟨zLok, ?_⟩); refine zDn ?_)
   (refine po_step rfl rfl (op_fun (c_fItems (i.groups.getD k default).items true (by omega) hf) rfl rfl e31 zLe rfl (fun r hr => ?_)); subst hr; refine ⟨rfl, zLok, ?_⟩; refine zDn ?_)
   (refine po_step rfl rfl (op_appendF (b := 16) hT rfl rfl rfl rfl (by simp) rfl (by first | rfl | (simp only [List.all_map]; exact List.all_eq_true.2 fun _ _ => rfl)) (by first | rfl | (simp only [List.all_map]; exact List.all_eq_true.2 fun _ _ => rfl)) (by simp only [List.length_map, List.length_cons, List.length_nil]; omega) ⟨(by (repeat (first | exact True.intro | refine ⟨.inr rfl, ?_⟩ | refine ⟨.inl (by decide +kernel), ?_⟩))), ?_⟩); (first | refine po_norm rfl ?_ | refine po_normE rfl ?_))
   refine zD ?_
   (refine po_step rfl rfl (op_append (b := 32) hT rfl rfl rfl rfl rfl rfl (.inl (Nat.zero_lt_succ _)) rfl rfl (by simp only [List.length_map, List.length_cons, List.length_nil]; omega) (fun cap1 _ hcap => ⟨zLok, ?_⟩)); refine zDn ?_)
   refine zD ?_
   (refine pw_mv 1 4 hD rfl rfl rfl rfl rfl ?_; refine pw_norm rfl ?_)
   (try refine zS ?_)
   refine ⟨(k + 1, out ++ [ln (defW true (i.groups.getD k default))], cap1), ⟨hlt, hw2⟩, by dsimp only; omega, ?_, ?_⟩
   all_goals simp only [List.map_append, List.length_append]
   ·(exact zLe)
   ·(exact zLes)
  ·refine zD ?_
   (refine po_step rfl rfl (op_litm hT rfl rfl rfl rfl rfl (by decide) rfl rfl rfl rfl ⟨zLok, ?_⟩); refine zDn ?_)
   (refine po_step rfl rfl (op_appendF (b := 16) hT rfl rfl rfl rfl (by simp) rfl (by first | rfl | (simp only [List.all_map]; exact List.all_eq_true.2 fun _ _ => rfl)) (by first | rfl | (simp only [List.all_map]; exact List.all_eq_true.2 fun _ _ => rfl)) (by simp only [List.length_map, List.length_cons, List.length_nil]; omega) ⟨(by (repeat (first | exact True.intro | refine ⟨.inr rfl, ?_⟩ | refine ⟨.inl (by decide +kernel), ?_⟩))), ?_⟩); (first | refine po_norm rfl ?_ | refine po_normE rfl ?_))
   refine zD ?_
   (refine po_step rfl rfl (op_append (b := 32) hT rfl rfl rfl rfl rfl rfl (.inl (Nat.zero_lt_succ _)) rfl rfl (by simp only [List.length_map, List.length_cons, List.length_nil]; omega) (fun cap1 _ hcap => ⟨zLok, ?_⟩)); refine zDn ?_)
   refine zD ?_
   (refine pw_mv 1 4 hD rfl rfl rfl rfl rfl ?_; refine pw_norm rfl ?_)
   (try refine zS ?_)
   refine ⟨(k + 1, out ++ [ln (defW true (i.groups.getD k default))], cap1), ⟨hlt, hw2⟩, by dsimp only; omega, ?_, ?_⟩
   all_goals simp only [List.map_append, List.length_append]
   ·(exact zLe)
   ·(exact zLes)
 have hz : k = i.groups.length := by omega
 have hout := outEnd hw (by omega)
 subst hz hout
 clear hw ho h hk
 (try refine zS ?_)
 refine pw_for hD (fun a : Nat × List TLine × Nat => [(4, .msl 2 1 0 (a.2.1.map eLine).length a.2.2), (6, .int .i64 a.1)]) (fun a => [.box (eIntent i).cells, .arr 2 (a.2.1.map eLine) a.2.2]) (fun a => a.1 ≤ i.services.length ∧ a.2.1 ++ (i.services.drop a.1).map (fun d => ln (defW false d)) = lGroups i ++ lServices i) (fun a => i.services.length - a.1) (0, lGroups i, cap) ⟨Nat.zero_le _, rfl⟩ 2 rfl (fun _ => rfl) (by (exact zLes)) (fun _ => rfl) (fun _ => rfl) (by (exact zLe)) ?_
 clear cap
 rintro ⟨k, out, cap⟩ ⟨hk, hw⟩
 dsimp only at hk hw ⊢
 have ho := outLen hw
 refine zNq ?_
 (try refine zS ?_)
 refine zT ?_ ?_ <;> intro h <;> refine zNq ?_
 ·have hlt : k < i.services.length := by omega
  have hw2 := selD (fun d => ln (defW false d)) i.services k hlt out _ hw
  have hm := getD_memD hlt
  have hi2 := hv.ss.i2 _ hm
  have hf : ∀ x ∈ (i.services.getD k default).items, FItem x := fun x hx => vItem_f (hv.ss.items _ hm x hx) (hi.sits _ hm x hx)
  have hnl := itemsN_len (i.services.getD k default).items false (i.services.getD k default).items.length
  have hnl2 : (itemsW (i.services.getD k default).items false).length ≤ 48 := by unfold itemsW; omega
  (try refine zS ?_)
  refine pw_drawF [(0, true), (1, true), (2, true), (3, true), (4, true), (5, true), (6, true), (8, true), (9, true), (10, true), (11, true), (12, true), (13, true)] 7 [(14, false), (15, false), (16, true), (17, true), (18, false), (19, true)] 14 [(7, false), (15, false), (16, true), (17, true), (18, false), (19, true)] hmix (by decide +kernel) ?_
  refine zDn ?_
  refine zD ?_
  refine po_both ?_ ?_
  ·(refine po_step rfl rfl (op_litm hT rfl rfl rfl rfl rfl (by decide) rfl rfl rfl rfl ⟨zLok, ?_⟩); refine zDn ?_)
   (refine po_step rfl rfl (op_fun (c_fItems (i.services.getD k default).items false (by omega) hf) rfl rfl e31 zLe rfl (fun r hr => ?_)); subst hr; refine ⟨rfl, zLok, ?_⟩; refine zDn ?_)
   (refine po_step rfl rfl (op_appendF (b := 16) hT rfl rfl rfl rfl (by simp) rfl (by first | rfl | (simp only [List.all_map]; exact List.all_eq_true.2 fun _ _ => rfl)) (by first | rfl | (simp only [List.all_map]; exact List.all_eq_true.2 fun _ _ => rfl)) (by simp only [List.length_map, List.length_cons, List.length_nil]; omega) ⟨(by (repeat (first | exact True.intro | refine ⟨.inr rfl, ?_⟩ | refine ⟨.inl (by decide +kernel), ?_⟩))), ?_⟩); (first | refine po_norm rfl ?_ | refine po_normE rfl ?_))
   refine zD ?_
   (refine po_step rfl rfl (op_append (b := 32) hT rfl rfl rfl rfl rfl rfl (.inl (Nat.zero_lt_succ _)) rfl rfl (by simp only [List.length_map, List.length_cons, List.length_nil]; omega) (fun cap1 _ hcap => ⟨zLok, ?_⟩)); refine zDn ?_)
   refine zD ?_
   (refine pw_mv 1 4 hD rfl rfl rfl rfl rfl ?_; refine pw_norm rfl ?_)
   (try refine zS ?_)
   refine ⟨(k + 1, out ++ [ln (defW false (i.services.getD k default))], cap1), ⟨hlt, hw2⟩, by dsimp only; omega, ?_, ?_⟩
   all_goals simp only [List.map_append, List.length_append]
   ·(exact zLe)
   ·(exact zLes)
  ·refine zD ?_
   (refine po_step rfl rfl (op_litm hT rfl rfl rfl rfl rfl (by decide) rfl rfl rfl rfl ⟨zLok, ?_⟩); refine zDn ?_)
   (refine po_step rfl rfl (op_appendF (b := 16) hT rfl rfl rfl rfl (by simp) rfl (by first | rfl | (simp only [List.all_map]; exact List.all_eq_true.2 fun _ _ => rfl)) (by first | rfl | (simp only [List.all_map]; exact List.all_eq_true.2 fun _ _ => rfl)) (by simp only [List.length_map, List.length_cons, List.length_nil]; omega) ⟨(by (repeat (first | exact True.intro | refine ⟨.inr rfl, ?_⟩ | refine ⟨.inl (by decide +kernel), ?_⟩))), ?_⟩); (first | refine po_norm rfl ?_ | refine po_normE rfl ?_))
   refine zD ?_
   (refine po_step rfl rfl (op_append (b := 32) hT rfl rfl rfl rfl rfl rfl (.inl (Nat.zero_lt_succ _)) rfl rfl (by simp only [List.length_map, List.length_cons, List.length_nil]; omega) (fun cap1 _ hcap => ⟨zLok, ?_⟩)); refine zDn ?_)
   refine zD ?_
   (refine pw_mv 1 4 hD rfl rfl rfl rfl rfl ?_; refine pw_norm rfl ?_)
   (try refine zS ?_)
   refine ⟨(k + 1, out ++ [ln (defW false (i.services.getD k default))], cap1), ⟨hlt, hw2⟩, by dsimp only; omega, ?_, ?_⟩
   all_goals simp only [List.map_append, List.length_append]
   ·(exact zLe)
   ·(exact zLes)
 have hz : k = i.services.length := by omega
 have hout := outEnd hw (by omega)
 subst hz hout
 clear hw ho h hk
 (try refine zS ?_)
 refine pw_for hD (fun a : Nat × List TLine × Nat => [(4, .msl 2 1 0 (a.2.1.map eLine).length a.2.2), (7, .int .i64 a.1)]) (fun a => [.box (eIntent i).cells, .arr 2 (a.2.1.map eLine) a.2.2]) (fun a => a.1 ≤ i.windows.length ∧ a.2.1 ++ (i.windows.drop a.1).map (fun d => ln (winW d)) = (lGroups i ++ lServices i) ++ lWindows i) (fun a => i.windows.length - a.1) (0, lGroups i ++ lServices i, cap) ⟨Nat.zero_le _, rfl⟩ 2 rfl (fun _ => rfl) (by (exact zLes)) (fun _ => rfl) (fun _ => rfl) (by (exact zLe)) ?_
 clear cap
 rintro ⟨k, out, cap⟩ ⟨hk, hw⟩
 dsimp only at hk hw ⊢
 have ho := outLen hw
 refine zNq ?_
 (try refine zS ?_)
 refine zT ?_ ?_ <;> intro h <;> refine zNq ?_
 ·have hlt : k < i.windows.length := by omega
  have hw2 := selD (fun d => ln (winW d)) i.windows k hlt out _ hw
  have hm := getD_memD hlt
  have hwo := wOk_len (hv.wok _ hm)
  have hwi := hi.wins _ hm
  obtain ⟨hw3, hw4⟩ := hwi
  (try refine zS ?_)
  refine pw_drawF [(0, true), (1, true), (2, true), (3, true), (4, true), (5, true), (6, true), (8, true), (9, true), (10, true), (11, true), (12, true), (13, true)] 7 [(14, false), (15, false), (16, true), (17, true), (18, false), (19, true)] 14 [(7, false), (15, false), (16, true), (17, true), (18, false), (19, true)] hmix (by decide +kernel) ?_
  refine zDn ?_
  refine zD ?_
  refine po_both ?_ ?_
  ·(refine po_step rfl rfl (op_litm hT rfl rfl rfl rfl rfl (by decide) rfl rfl rfl rfl ⟨zLok, ?_⟩); refine zDn ?_)
   (refine po_step rfl rfl (op_fun (c_rFormat9 (i.windows.getD k default).active (by omega) hw4) rfl rfl e32 zLe rfl (fun r hr => ?_)); subst hr; refine ⟨rfl, zLok, ?_⟩; refine zDn ?_)
   (refine po_step rfl rfl (op_appendF (b := 16) hT rfl rfl rfl rfl (by simp) rfl (by first | rfl | (simp only [List.all_map]; exact List.all_eq_true.2 fun _ _ => rfl)) (by first | rfl | (simp only [List.all_map]; exact List.all_eq_true.2 fun _ _ => rfl)) (by simp only [List.length_map, List.length_cons, List.length_nil]; omega) ⟨(by (repeat (first | exact True.intro | refine ⟨.inr rfl, ?_⟩ | refine ⟨.inl (by decide +kernel), ?_⟩))), ?_⟩); (first | refine po_norm rfl ?_ | refine po_normE rfl ?_))
   refine zD ?_
   (refine po_step rfl rfl (op_append (b := 32) hT rfl rfl rfl rfl rfl rfl (.inl (Nat.zero_lt_succ _)) rfl rfl (by simp only [List.length_map, List.length_cons, List.length_nil]; omega) (fun cap1 _ hcap => ⟨zLok, ?_⟩)); refine zDn ?_)
   refine zD ?_
   (refine pw_mv 1 4 hD rfl rfl rfl rfl rfl ?_; refine pw_norm rfl ?_)
   (try refine zS ?_)
   refine ⟨(k + 1, out ++ [ln (winW (i.windows.getD k default))], cap1), ⟨hlt, hw2⟩, by dsimp only; omega, ?_, ?_⟩
   all_goals simp only [List.map_append, List.length_append]
   ·(exact zLe)
   ·(exact zLes)
  ·refine zD ?_
   (refine po_step rfl rfl (op_litm hT rfl rfl rfl rfl rfl (by decide) rfl rfl rfl rfl ⟨zLok, ?_⟩); refine zDn ?_)
   (refine po_step rfl rfl (op_appendF (b := 16) hT rfl rfl rfl rfl (by simp) rfl (by first | rfl | (simp only [List.all_map]; exact List.all_eq_true.2 fun _ _ => rfl)) (by first | rfl | (simp only [List.all_map]; exact List.all_eq_true.2 fun _ _ => rfl)) (by simp only [List.length_map, List.length_cons, List.length_nil]; omega) ⟨(by (repeat (first | exact True.intro | refine ⟨.inr rfl, ?_⟩ | refine ⟨.inl (by decide +kernel), ?_⟩))), ?_⟩); (first | refine po_norm rfl ?_ | refine po_normE rfl ?_))
   refine zD ?_
   (refine po_step rfl rfl (op_append (b := 32) hT rfl rfl rfl rfl rfl rfl (.inl (Nat.zero_lt_succ _)) rfl rfl (by simp only [List.length_map, List.length_cons, List.length_nil]; omega) (fun cap1 _ hcap => ⟨zLok, ?_⟩)); refine zDn ?_)
   refine zD ?_
   (refine pw_mv 1 4 hD rfl rfl rfl rfl rfl ?_; refine pw_norm rfl ?_)
   (try refine zS ?_)
   refine ⟨(k + 1, out ++ [ln (winW (i.windows.getD k default))], cap1), ⟨hlt, hw2⟩, by dsimp only; omega, ?_, ?_⟩
   all_goals simp only [List.map_append, List.length_append]
   ·(exact zLe)
   ·(exact zLes)
 have hz : k = i.windows.length := by omega
 have hout := outEnd hw (by omega)
 subst hz hout
 clear hw ho h hk
 (try refine zS ?_)
 refine pw_for hD (fun a : Nat × List TLine × Nat => [(4, .msl 2 1 0 (a.2.1.map eLine).length a.2.2), (8, .int .i64 a.1)]) (fun a => [.box (eIntent i).cells, .arr 2 (a.2.1.map eLine) a.2.2]) (fun a => a.1 ≤ i.stms.length ∧ a.2.1 ++ (i.stms.drop a.1).map (fun d => ln (stmW d)) = ((lGroups i ++ lServices i) ++ lWindows i) ++ lStms i) (fun a => i.stms.length - a.1) (0, (lGroups i ++ lServices i) ++ lWindows i, cap) ⟨Nat.zero_le _, rfl⟩ 2 rfl (fun _ => rfl) (by (exact zLes)) (fun _ => rfl) (fun _ => rfl) (by (exact zLe)) ?_
 clear cap
 rintro ⟨k, out, cap⟩ ⟨hk, hw⟩
 dsimp only at hk hw ⊢
 have ho := outLen hw
 refine zNq ?_
 (try refine zS ?_)
 refine zT ?_ ?_ <;> intro h <;> refine zNq ?_
 ·have hlt : k < i.stms.length := by omega
  have hw2 := selD (fun d => ln (stmW d)) i.stms k hlt out _ hw
  have hm := getD_memD hlt
  have hpr := stm_prio (hv.stms _ hm)
  (try refine zS ?_)
  (refine pl_append (b := 32) hT hD rfl rfl rfl rfl rfl rfl rfl rfl (.inl (Nat.zero_lt_succ _)) rfl rfl (by simp only [List.length_map, List.length_cons, List.length_nil]; omega) (fun cap1 _ hcap => ?_); (refine zNp ?_))
  (try refine zS ?_)
  refine ⟨(k + 1, out ++ [ln (stmW (i.stms.getD k default))], cap1), ⟨hlt, hw2⟩, by dsimp only; omega, ?_, ?_⟩
  all_goals simp only [List.map_append, List.length_append]
  ·(exact zLe)
  ·(exact zLes)
 have hz : k = i.stms.length := by omega
 have hout := outEnd hw (by omega)
 subst hz hout
 clear hw ho h hk
 (try refine zS ?_)
 refine pw_for hD (fun a : Nat × List TLine × Nat => [(4, .msl 2 1 0 (a.2.1.map eLine).length a.2.2), (9, .int .i64 a.1)]) (fun a => [.box (eIntent i).cells, .arr 2 (a.2.1.map eLine) a.2.2]) (fun a => a.1 ≤ i.pubs.length ∧ a.2.1 ++ (i.pubs.drop a.1).map (fun d => ln (pubW d)) = (((lGroups i ++ lServices i) ++ lWindows i) ++ lStms i) ++ lPubs i) (fun a => i.pubs.length - a.1) (0, ((lGroups i ++ lServices i) ++ lWindows i) ++ lStms i, cap) ⟨Nat.zero_le _, rfl⟩ 2 rfl (fun _ => rfl) (by (exact zLes)) (fun _ => rfl) (fun _ => rfl) (by (exact zLe)) ?_
 clear cap
 rintro ⟨k, out, cap⟩ ⟨hk, hw⟩
 dsimp only at hk hw ⊢
 have ho := outLen hw
 refine zNq ?_
 (try refine zS ?_)
 refine zT ?_ ?_ <;> intro h <;> refine zNq ?_
 ·have hlt : k < i.pubs.length := by omega
  have hw2 := selD (fun d => ln (pubW d)) i.pubs k hlt out _ hw
  have hm := getD_memD hlt
  obtain ⟨hp1, hp2, hp3, _⟩ := pub_f (hv.pubs _ hm)
  obtain ⟨hp4, hp5⟩ := hi.pins _ hm
  (try refine zS ?_)
  refine pw_joinX hD (fun _ : Unit => True) (fun _ => [(11, .str (if (i.pubs.getD k default).proto = 17 then [117, 100, 112] else [116, 99, 112])), (126, .any)]) (fun _ => [.box (eIntent i).cells, .arr 2 (out.map eLine) cap, .box (ePub (i.pubs.getD k default)).cells]) 3 rfl (fun _ => rfl) (fun _ => rfl) (fun _ => rfl) ?_ ?_
  ·refine zT ?_ ?_ <;> intro h1 <;> refine zNq ?_
   ·rw [if_pos h1]
    (try refine zS ?_)
    exact ⟨(), trivial, by (exact zLe), by (exact zLes)⟩
   ·rw [if_neg h1]
    (try refine zS ?_)
    exact ⟨(), trivial, by (exact zLe), by (exact zLes)⟩
  rintro _ _
  refine zNq ?_
  (try refine zS ?_)
  refine zDr [[0,1,2,4,5,6,8,9,10,11,13,14],[3,7,12,15],[16,17,18],[19],[20]] ?_
  refine zDn ?_
  refine zD ?_
  (refine po_step rfl rfl (op_append (b := 32) hT rfl rfl rfl rfl rfl rfl (.inl (Nat.zero_lt_succ _)) rfl rfl (by simp only [List.length_map, List.length_cons, List.length_nil]; omega) (fun cap1 _ hcap => ⟨zLok, ?_⟩)); refine zDn ?_)
  refine zD ?_
  (refine pw_mv 1 3 hD rfl rfl rfl rfl rfl ?_; refine pw_norm rfl ?_)
  (try refine zS ?_)
  refine ⟨(k + 1, out ++ [ln (pubW (i.pubs.getD k default))], cap1), ⟨hlt, hw2⟩, by dsimp only; omega, ?_, ?_⟩
  all_goals simp only [List.map_append, List.length_append]
  ·(exact zLe)
  ·(exact zLes)
 have hz : k = i.pubs.length := by omega
 have hout := outEnd hw (by omega)
 subst hz hout
 clear hw ho h hk
 (try refine zS ?_)
 refine pw_for hD (fun a : Nat × List TLine × Nat => [(4, .msl 2 1 0 (a.2.1.map eLine).length a.2.2), (12, .int .i64 a.1)]) (fun a => [.box (eIntent i).cells, .arr 2 (a.2.1.map eLine) a.2.2]) (fun a => a.1 ≤ i.hids.length ∧ a.2.1 ++ (i.hids.drop a.1).map (fun d => ln (hidW d)) = iLines i) (fun a => i.hids.length - a.1) (0, (((lGroups i ++ lServices i) ++ lWindows i) ++ lStms i) ++ lPubs i, cap) ⟨Nat.zero_le _, rfl⟩ 2 rfl (fun _ => rfl) (by (exact zLes)) (fun _ => rfl) (fun _ => rfl) (by (exact zLe)) ?_
 clear cap
 rintro ⟨k, out, cap⟩ ⟨hk, hw⟩
 dsimp only at hk hw ⊢
 have ho := outLen hw
 refine zNq ?_
 (try refine zS ?_)
 refine zT ?_ ?_ <;> intro h <;> refine zNq ?_
 ·have hlt : k < i.hids.length := by omega
  have hw2 := selD (fun d => ln (hidW d)) i.hids k hlt out _ hw
  have hm := getD_memD hlt
  obtain ⟨hp1, hp2, hp3⟩ := hid_f (hv.hids _ hm)
  have hp4 := hid_pin (hv.hids _ hm)
  have hp5 := hi.hins _ hm
  (try refine zS ?_)
  refine zDr [[0,1,2,3,4,5,6,8,9],[7,10],[11,12,13],[14],[15]] ?_
  refine zDn ?_
  refine zD ?_
  (refine po_step rfl rfl (op_append (b := 32) hT rfl rfl rfl rfl rfl rfl (.inl (Nat.zero_lt_succ _)) rfl rfl (by simp only [List.length_map, List.length_cons, List.length_nil]; omega) (fun cap1 _ hcap => ⟨zLok, ?_⟩)); refine zDn ?_)
  refine zD ?_
  (refine pw_mv 1 3 hD rfl rfl rfl rfl rfl ?_; refine pw_norm rfl ?_)
  (try refine zS ?_)
  refine ⟨(k + 1, out ++ [ln (hidW (i.hids.getD k default))], cap1), ⟨hlt, hw2⟩, by dsimp only; omega, ?_, ?_⟩
  all_goals simp only [List.map_append, List.length_append]
  ·(exact zLe)
  ·(exact zLes)
 have hz : k = i.hids.length := by omega
 have hout := outEnd hw (by omega)
 subst hz hout
 clear hw ho h hk
 (try refine zS ?_)
 have hj := c27 (Gl := Gl) (iLines i) (by unfold Small; omega) (fun x hx => by have := (hfl x hx).few; unfold Small; omega) (by unfold Small; omega)
 (refine pl_op rfl (op_lend0 hj rfl rfl e21 ⟨.inr (.inr (.inr (.inl ⟨_, _, _, _, _, _, rfl, rfl, rfl, rfl, rfl⟩))), trivial⟩ rfl (fun r hr => ?_)); subst hr; refine ⟨rfl, ?_⟩; (refine zNp ?_))
 (try refine zS ?_)
 exact ret2 _ rfl rfl rfl
end
section
open Go.RowKit
variable {Gl : Glob}
attribute [local irreducible] PW PWL OpP PCalls PWO PWT
theorem c_itoa (hG : GT Gl) (n : Int) (h : 0 ≤ n ∧ n < 10000000) : PFun Tryz.prog Gl 64 [.int .i64 n] fun r => r = .str (dec n.toNat) := by
 obtain ⟨h0, h1⟩ := h
 obtain ⟨m, rfl⟩ : ∃ m : Nat, n = (m : Int) := ⟨n.toNat, by omega⟩
 refine PFun.lib rfl fun w hw => ?_
 refine (Tryz.strconv_Itoa m (by omega) (by omega) w (hG w hw)).mono ?_
 rintro e w' ⟨rfl, k, os, rfl⟩
 exact ⟨.str (dec m), by rw [itoa_nat]; rfl, rfl, rfl, Lib.below_grow _ _ (Nat.le_refl _) _ _⟩
instance iItoa (n : Int) : ConF Tryz.prog Gl 64 [.int .i64 n] (GT Gl ∧ 0 ≤ n ∧ n < 10000000) (.str (dec n.toNat)) := ⟨e64, fun h => c_itoa h.1 n h.2⟩
theorem c_pfaddr (hG : GT Gl) (a : Int) (h : 0 ≤ a ∧ a < 4294967296) : PFun Tryz.prog Gl 63 [.int .u32 a] fun r => r = .str (addrS a.toNat) := by
 have := c112 hG a.toNat (by omega)
 rwa [Int.toNat_of_nonneg h.1] at this
instance iPFAddr (a : Int) : ConF Tryz.prog Gl 63 [.int .u32 a] (GT Gl ∧ 0 ≤ a ∧ a < 4294967296) (.str (addrS a.toNat)) := ⟨e63, fun h => c_pfaddr h.1 a h.2⟩
instance iPFPfx (p : TPfx) : ConF Tryz.prog Gl 108 [.agg [.int .u32 p.addr, .int .i64 p.bits]] (GT Gl ∧ PfxIn p ∧ rvalid p = true) (.str (pfxS p)) := ⟨e108, fun h => c79 h.1 p h.2.1 (by rw [valid_eq p h.2.1]; exact h.2.2) (rvalid_b h.2.2)⟩
theorem c_ports2 (hG : GT Gl) (r : TRng) (h : PIn2 r) : PFun Tryz.prog Gl 65 [eRng r] fun x => x = .str (spanS r) := by
 (refine PFun.of hT Tryz.func65 rfl fun B hD => ?_; refine pw_norm rfl ?_)
 obtain ⟨a, b, c, d⟩ := h
 have l1 := dec5 b
 have l2 := dec5 d
 unfold spanS
 (repeat' (first | (refine zDr [[0,1,2,5,6,7],[3],[4],[8],[9,10]] ?_; refine zDn ?_) | refine zS ?_ | refine zD ?_ | refine po_both ?_ ?_ | refine pwt_both ?_ ?_ | refine pwt_fork ?_ | refine pwt_lin ?_ | (refine po_test rfl rfl rfl rfl zB ?_ ?_ <;> intro hb <;> first | exact zX | refine zDn ?_) | (refine zT ?_ ?_ <;> intro h <;> first | exact zX | refine zNq ?_)))
 ·rw [if_pos h]; exact ret2 _ rfl rfl rfl
 ·rw [if_neg h]; exact ret2 _ rfl rfl rfl
instance iPorts2 (r : TRng) : ConF Tryz.prog Gl 65 [.agg [.int .u32 r.lo, .int .u32 r.hi]] (GT Gl ∧ PIn2 r) (.str (spanS r)) := ⟨e65, fun h => c_ports2 h.1 r h.2⟩
def kindS (g : Bool) : Str := if g then [103, 114, 111, 117, 112] else [115, 101, 114, 118, 105, 99, 101]
theorem c_item2 (hG : GT Gl) (x : TItem) (g : Bool) (hx : FItem x) : PFun Tryz.prog Gl 60 [eItem x, .str (kindS g)] fun r => r = .sl ((itemW x g).map .str) := by
 (refine PFun.of hT Tryz.func60 rfl fun B hD => ?_; refine pw_norm rfl ?_)
 have hx3 := hx.ports
 have hx4 := hx.proto
 have hz : x.kind = 4 → ¬ (x.proto = 6 ∨ x.proto = 17) ∨ PIn2 x.ports := fun q => by
  by_cases q2 : x.proto = 6 ∨ x.proto = 17
  ·exact .inr (hx3 q q2)
  ·exact .inl q2
 have hq : x.kind = 1 ∨ (x.kind = 2 ∧ PfxIn x.pfx ∧ rvalid x.pfx = true) ∨ x.kind = 3 ∨ (x.kind = 4 ∧ PIn2 x.ports ∧ 0 ≤ x.proto ∧ x.proto ≤ 255) ∨ (x.kind = 4 ∧ ¬ (x.proto = 6 ∨ x.proto = 17) ∧ 0 ≤ x.proto ∧ x.proto ≤ 255) := by
  rcases hx.kind with q | q | q | q
  ·exact .inl q
  ·exact .inr (.inl ⟨q, hx.pfx q⟩)
  ·exact .inr (.inr (.inl q))
  ·rcases hz q with z | z
   ·exact .inr (.inr (.inr (.inr ⟨q, z, hx4 q⟩)))
   ·exact .inr (.inr (.inr (.inl ⟨q, z, hx4 q⟩)))
 clear hz hx3 hx4
 have hw : ∃ W, W = itemW x g := ⟨_, rfl⟩
 obtain ⟨W, hw⟩ := hw
 rw [← hw]
 unfold itemW at hw
 unfold kindS
 rcases hq with q | ⟨q, q1, q2⟩ | q | ⟨q, q1, q2, q3⟩ | ⟨q, q1, q2, q3⟩
 all_goals
  (repeat' (first | refine zS ?_ | (refine zT ?_ ?_ <;> intro h <;> first | exact zX | refine zNq ?_)))
 all_goals
  refine ret2 _ rfl ?_ rfl
  rw [hw]
  clear hw
  cases g <;> simp [*]

end
end Go.Proofs.YtkaobkjcjodffaaGreatDoor