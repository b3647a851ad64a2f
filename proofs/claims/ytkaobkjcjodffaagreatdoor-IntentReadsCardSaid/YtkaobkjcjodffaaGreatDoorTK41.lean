/-
 Appended numbers, the texts of addresses and prefixes, as the program writes them.
 Prefixes as texts, as the program writes them.
-/
import Derived.Test.YtkaobkjcjodffaaGreatDoorTM13
import Derived.Test.YtkaobkjcjodffaaGreatDoorSPwApX
import Derived.Test.YtkaobkjcjodffaaGreatDoorTG2
import Derived.Test.YtkaobkjcjodffaaGreatDoorTB6
import Derived.Test.YtkaobkjcjodffaaGreatDoorTTab
set_option maxHeartbeats 20000000
set_option maxRecDepth 100000
namespace Go.Proofs.YtkaobkjcjodffaaGreatDoor
open Go Go.Pw
section
variable {Gl : Glob}
attribute [local irreducible] PW PWL OpP PCalls PWO iValid wFormat PWT bothT
theorem selD {α β : Type} [Inhabited α] (f : α → β) (l : List α) (i : Nat) (h : i < l.length) (out X : List β) (hw : out ++ (l.drop i).map f = X) : (out ++ [f (l.getD i default)]) ++ (l.drop (i + 1)).map f = X := by
 rw [← hw, List.drop_eq_getElem_cons h, List.map_cons, List.append_assoc, List.getD, List.getElem?_eq_getElem h]; rfl
theorem outLen {α β : Type} {f : α → β} {l : List α} {i : Nat} {out X : List β} (hw : out ++ (l.drop i).map f = X) : out.length ≤ X.length := by
 rw [← hw, List.length_append]; omega
theorem outEnd {α β : Type} {f : α → β} {l : List α} {i : Nat} {out X : List β} (hw : out ++ (l.drop i).map f = X) (h : l.length ≤ i) : out = X := by
 rw [← hw, List.drop_eq_nil_of_le h]; simp
theorem c_rFormat16 (i : TInt) (hb : IBig i) (hi : IIn2 i) : PFun Tryz.prog Gl 11 [eIntent i] fun r => r = .tup [.str (iFormat i).1, .int .i64 (iFormat i).2] := by
 (refine PFun.of hT Tryz.func11 rfl fun B hD => ?_; refine pw_norm rfl ?_)
 (try refine zS ?_)
 (refine pl_op rfl (op_fun (c_rValid i hb hi.toIIn) rfl rfl e30 zLe rfl (fun r hr => ?_)); subst hr; refine ⟨rfl, ?_⟩; (refine zNp ?_))
 (try refine zS ?_)
 refine zT ?_ ?_ <;> intro h <;> refine zNq ?_
 ·have e : iFormat i = ([], 1) := by unfold iFormat; rw [if_neg h]
  rw [e]
  (try refine zS ?_)
  exact ret2 _ rfl rfl rfl
 have h' : iValid i = true := Decidable.not_not.1 h
 have e : iFormat i = (textS (iLines i), 0) := by unfold iFormat; rw [if_pos h']
 rw [e]
 have hv := iValid_v h'
 have htl := iText_len hv hi.toIIn
 have hln := iLines_len hv
 have hfl := iLines_fl hv hi.toIIn
 clear e h h'
 have hl1 := hv.gs.len
 have hl2 := hv.ss.len
 have hl3 := hv.wl
 have hl4 := hv.sl
 have hl5 := hv.pl
 have hl6 := hv.hl
 have k1 : (lGroups i).length ≤ 32 := by simp only [lGroups, List.length_map]; omega
 have k2 : (lGroups i ++ lServices i).length ≤ 64 := by rw [List.length_append]; simp only [lServices, List.length_map]; omega
 have k3 : ((lGroups i ++ lServices i) ++ lWindows i).length ≤ 96 := by rw [List.length_append]; simp only [lWindows, List.length_map]; omega
 have k4 : (((lGroups i ++ lServices i) ++ lWindows i) ++ lStms i).length ≤ 160 := by rw [List.length_append]; simp only [lStms, List.length_map]; omega
 have k5 : ((((lGroups i ++ lServices i) ++ lWindows i) ++ lStms i) ++ lPubs i).length ≤ 176 := by rw [List.length_append]; simp only [lPubs, List.length_map]; omega
 have k6 : (iLines i).length ≤ 184 := hln
 (try refine zS ?_)
 refine pw_ghost 2 ?_
 refine zNq ?_
 refine pw_for hD (fun a : Nat × List TLine × Nat => [(4, .msl 2 1 0 (a.2.1.map eLine).length a.2.2), (5, .int .i64 a.1)]) (fun a => [.box (eIntent i).cells, .arr 2 (a.2.1.map eLine) a.2.2]) (fun a => a.1 ≤ i.groups.length ∧ a.2.1 ++ (i.groups.drop a.1).map (fun d => ln (defW true d)) = lGroups i) (fun a => i.groups.length - a.1) (0, [], 0) ⟨Nat.zero_le _, rfl⟩ 2 rfl (fun _ => rfl) zLes (fun _ => rfl) (fun _ => rfl) zLe ?_
 rintro ⟨k, out, cap⟩ ⟨hk, hw⟩
 dsimp only at hk hw ⊢
 have ho := outLen hw
 refine zNq ?_
 (try refine zS ?_)
 refine zT ?_ ?_ <;> intro h <;> refine zNq ?_
 ·have hlt : k < i.groups.length := by omega
  have hw2 := selD (fun d => ln (defW true d)) i.groups k hlt out _ hw
  have hm := getD_memD hlt
  have hi2 := hv.gs.i2 _ hm
  have hf : ∀ x ∈ (i.groups.getD k default).items, FItem x := fun x hx => vItem_f (hv.gs.items _ hm x hx) (hi.gits _ hm x hx)
  have hnl := itemsN_len (i.groups.getD k default).items true (i.groups.getD k default).items.length
  have hnl2 : (itemsW (i.groups.getD k default).items true).length ≤ 48 := by unfold itemsW; omega
  (try refine zS ?_)
  refine pw_drawF [(0, true), (1, true), (2, true), (3, true), (4, true), (5, true), (6, true), (8, true), (9, true), (10, true), (11, true), (12, true), (13, true)] 7 [(14, false), (15, false), (16, true), (17, true), (18, false), (19, true)] 14 [(7, false), (15, false), (16, true), (17, true), (18, false), (19, true)] hmix (by decide +kernel) ?_
  refine zDn ?_
  refine zD ?_
  refine po_both ?_ ?_
  ·(refine po_step rfl rfl (op_litm hT rfl rfl rfl rfl rfl (by decide) rfl rfl rfl rfl ⟨zLok, ?_⟩); refine zDn ?_)
   (refine po_step rfl rfl (op_fun (c_fItems (i.groups.getD k default).items true (by omega) hf) rfl rfl e31 zLe rfl (fun r hr => ?_)); subst hr; refine ⟨rfl, zLok, ?_⟩; refine zDn ?_)
   (refine po_step rfl rfl (op_appendF (b := 16) hT rfl rfl rfl rfl (by simp) rfl (by first | rfl | (simp only [List.all_map]; exact List.all_eq_true.2 fun _ _ => rfl)) (by first | rfl | (simp only [List.all_map]; exact List.all_eq_true.2 fun _ _ => rfl)) (by simp only [List.length_map, List.length_cons, List.length_nil]; omega) ⟨(by (repeat (first | exact True.intro | refine ⟨.inr rfl, ?_⟩ | refine ⟨.inl (by decide +kernel), ?_⟩))), ?_⟩); (first | refine po_norm rfl ?_ | refine po_normE rfl ?_))
   refine zD ?_
   (refine po_step rfl rfl (op_append (b := 32) hT rfl rfl rfl rfl rfl rfl (.inl (Nat.zero_lt_succ _)) rfl rfl (by simp only [List.length_map, List.length_cons, List.length_nil]; omega) (fun cap1 _ hcap => ⟨zLok, ?_⟩)); refine zDn ?_)
   refine zD ?_
   (refine pw_mv 1 4 hD rfl rfl rfl rfl rfl ?_; refine pw_norm rfl ?_)
   (try refine zS ?_)
   refine ⟨(k + 1, out ++ [ln (defW true (i.groups.getD k default))], cap1), ⟨hlt, hw2⟩, by dsimp only; omega, ?_, ?_⟩
   all_goals simp only [List.map_append, List.length_append]
   ·(exact zLe)
   ·(exact zLes)
  ·refine zD ?_
   (refine po_step rfl rfl (op_litm hT rfl rfl rfl rfl rfl (by decide) rfl rfl rfl rfl ⟨zLok, ?_⟩); refine zDn ?_)
   (refine po_step rfl rfl (op_appendF (b := 16) hT rfl rfl rfl rfl (by simp) rfl (by first | rfl | (simp only [List.all_map]; exact List.all_eq_true.2 fun _ _ => rfl)) (by first | rfl | (simp only [List.all_map]; exact List.all_eq_true.2 fun _ _ => rfl)) (by simp only [List.length_map, List.length_cons, List.length_nil]; omega) ⟨(by (repeat (first | exact True.intro | refine ⟨.inr rfl, ?_⟩ | refine ⟨.inl (by decide +kernel), ?_⟩))), ?_⟩); (first | refine po_norm rfl ?_ | refine po_normE rfl ?_))
   refine zD ?_
   (refine po_step rfl rfl (op_append (b := 32) hT rfl rfl rfl rfl rfl rfl (.inl (Nat.zero_lt_succ _)) rfl rfl (by simp only [List.length_map, List.length_cons, List.length_nil]; omega) (fun cap1 _ hcap => ⟨zLok, ?_⟩)); refine zDn ?_)
   refine zD ?_
   (refine pw_mv 1 4 hD rfl rfl rfl rfl rfl ?_; refine pw_norm rfl ?_)
   (try refine zS ?_)
   refine ⟨(k + 1, out ++ [ln (defW true (i.groups.getD k default))], cap1), ⟨hlt, hw2⟩, by dsimp only; omega, ?_, ?_⟩
   all_goals simp only [List.map_append, List.length_append]
   ·(exact zLe)
   ·(exact zLes)
 have hz : k = i.groups.length := by omega
 have hout := outEnd hw (by omega)
 subst hz hout
 clear hw ho h hk
 (try refine zS ?_)
 refine pw_for hD (fun a : Nat × List TLine × Nat => [(4, .msl 2 1 0 (a.2.1.map eLine).length a.2.2), (6, .int .i64 a.1)]) (fun a => [.box (eIntent i).cells, .arr 2 (a.2.1.map eLine) a.2.2]) (fun a => a.1 ≤ i.services.length ∧ a.2.1 ++ (i.services.drop a.1).map (fun d => ln (defW false d)) = lGroups i ++ lServices i) (fun a => i.services.length - a.1) (0, lGroups i, cap) ⟨Nat.zero_le _, rfl⟩ 2 rfl (fun _ => rfl) zLes (fun _ => rfl) (fun _ => rfl) zLe ?_
 clear cap
 rintro ⟨k, out, cap⟩ ⟨hk, hw⟩
 dsimp only at hk hw ⊢
 have ho := outLen hw
 refine zNq ?_
 (try refine zS ?_)
 refine zT ?_ ?_ <;> intro h <;> refine zNq ?_
 ·have hlt : k < i.services.length := by omega
  have hw2 := selD (fun d => ln (defW false d)) i.services k hlt out _ hw
  have hm := getD_memD hlt
  have hi2 := hv.ss.i2 _ hm
  have hf : ∀ x ∈ (i.services.getD k default).items, FItem x := fun x hx => vItem_f (hv.ss.items _ hm x hx) (hi.sits _ hm x hx)
  have hnl := itemsN_len (i.services.getD k default).items false (i.services.getD k default).items.length
  have hnl2 : (itemsW (i.services.getD k default).items false).length ≤ 48 := by unfold itemsW; omega
  (try refine zS ?_)
  refine pw_drawF [(0, true), (1, true), (2, true), (3, true), (4, true), (5, true), (6, true), (8, true), (9, true), (10, true), (11, true), (12, true), (13, true)] 7 [(14, false), (15, false), (16, true), (17, true), (18, false), (19, true)] 14 [(7, false), (15, false), (16, true), (17, true), (18, false), (19, true)] hmix (by decide +kernel) ?_
  refine zDn ?_
  refine zD ?_
  refine po_both ?_ ?_
  ·(refine po_step rfl rfl (op_litm hT rfl rfl rfl rfl rfl (by decide) rfl rfl rfl rfl ⟨zLok, ?_⟩); refine zDn ?_)
   (refine po_step rfl rfl (op_fun (c_fItems (i.services.getD k default).items false (by omega) hf) rfl rfl e31 zLe rfl (fun r hr => ?_)); subst hr; refine ⟨rfl, zLok, ?_⟩; refine zDn ?_)
   (refine po_step rfl rfl (op_appendF (b := 16) hT rfl rfl rfl rfl (by simp) rfl (by first | rfl | (simp only [List.all_map]; exact List.all_eq_true.2 fun _ _ => rfl)) (by first | rfl | (simp only [List.all_map]; exact List.all_eq_true.2 fun _ _ => rfl)) (by simp only [List.length_map, List.length_cons, List.length_nil]; omega) ⟨(by (repeat (first | exact True.intro | refine ⟨.inr rfl, ?_⟩ | refine ⟨.inl (by decide +kernel), ?_⟩))), ?_⟩); (first | refine po_norm rfl ?_ | refine po_normE rfl ?_))
   refine zD ?_
   (refine po_step rfl rfl (op_append (b := 32) hT rfl rfl rfl rfl rfl rfl (.inl (Nat.zero_lt_succ _)) rfl rfl (by simp only [List.length_map, List.length_cons, List.length_nil]; omega) (fun cap1 _ hcap => ⟨zLok, ?_⟩)); refine zDn ?_)
   refine zD ?_
   (refine pw_mv 1 4 hD rfl rfl rfl rfl rfl ?_; refine pw_norm rfl ?_)
   (try refine zS ?_)
   refine ⟨(k + 1, out ++ [ln (defW false (i.services.getD k default))], cap1), ⟨hlt, hw2⟩, by dsimp only; omega, ?_, ?_⟩
   all_goals simp only [List.map_append, List.length_append]
   ·(exact zLe)
   ·(exact zLes)
  ·refine zD ?_
   (refine po_step rfl rfl (op_litm hT rfl rfl rfl rfl rfl (by decide) rfl rfl rfl rfl ⟨zLok, ?_⟩); refine zDn ?_)
   (refine po_step rfl rfl (op_appendF (b := 16) hT rfl rfl rfl rfl (by simp) rfl (by first | rfl | (simp only [List.all_map]; exact List.all_eq_true.2 fun _ _ => rfl)) (by first | rfl | (simp only [List.all_map]; exact List.all_eq_true.2 fun _ _ => rfl)) (by simp only [List.length_map, List.length_cons, List.length_nil]; omega) ⟨(by (repeat (first | exact True.intro | refine ⟨.inr rfl, ?_⟩ | refine ⟨.inl (by decide +kernel), ?_⟩))), ?_⟩); (first | refine po_norm rfl ?_ | refine po_normE rfl ?_))
   refine zD ?_
   (refine po_step rfl rfl (op_append (b := 32) hT rfl rfl rfl rfl rfl rfl (.inl (Nat.zero_lt_succ _)) rfl rfl (by simp only [List.length_map, List.length_cons, List.length_nil]; omega) (fun cap1 _ hcap => ⟨zLok, ?_⟩)); refine zDn ?_)
   refine zD ?_
   (refine pw_mv 1 4 hD rfl rfl rfl rfl rfl ?_; refine pw_norm rfl ?_)
   (try refine zS ?_)
   refine ⟨(k + 1, out ++ [ln (defW false (i.services.getD k default))], cap1), ⟨hlt, hw2⟩, by dsimp only; omega, ?_, ?_⟩
   all_goals simp only [List.map_append, List.length_append]
   ·(exact zLe)
   ·(exact zLes)
 have hz : k = i.services.length := by omega
 have hout := outEnd hw (by omega)
 subst hz hout
 clear hw ho h hk
 (try refine zS ?_)
 refine pw_for hD (fun a : Nat × List TLine × Nat => [(4, .msl 2 1 0 (a.2.1.map eLine).length a.2.2), (7, .int .i64 a.1)]) (fun a => [.box (eIntent i).cells, .arr 2 (a.2.1.map eLine) a.2.2]) (fun a => a.1 ≤ i.windows.length ∧ a.2.1 ++ (i.windows.drop a.1).map (fun d => ln (winW d)) = (lGroups i ++ lServices i) ++ lWindows i) (fun a => i.windows.length - a.1) (0, lGroups i ++ lServices i, cap) ⟨Nat.zero_le _, rfl⟩ 2 rfl (fun _ => rfl) zLes (fun _ => rfl) (fun _ => rfl) zLe ?_
 clear cap
 rintro ⟨k, out, cap⟩ ⟨hk, hw⟩
 dsimp only at hk hw ⊢
 have ho := outLen hw
 refine zNq ?_
 (try refine zS ?_)
 refine zT ?_ ?_ <;> intro h <;> refine zNq ?_
 ·have hlt : k < i.windows.length := by omega
  have hw2 := selD (fun d => ln (winW d)) i.windows k hlt out _ hw
  have hm := getD_memD hlt
  have hwo := wOk_len (hv.wok _ hm)
  have hwi := hi.wins _ hm
  obtain ⟨hw3, hw4⟩ := hwi
  (try refine zS ?_)
  refine pw_drawF [(0, true), (1, true), (2, true), (3, true), (4, true), (5, true), (6, true), (8, true), (9, true), (10, true), (11, true), (12, true), (13, true)] 7 [(14, false), (15, false), (16, true), (17, true), (18, false), (19, true)] 14 [(7, false), (15, false), (16, true), (17, true), (18, false), (19, true)] hmix (by decide +kernel) ?_
  refine zDn ?_
  refine zD ?_
  refine po_both ?_ ?_
  ·(refine po_step rfl rfl (op_litm hT rfl rfl rfl rfl rfl (by decide) rfl rfl rfl rfl ⟨zLok, ?_⟩); refine zDn ?_)
   (refine po_step rfl rfl (op_fun (c_rFormat9 (i.windows.getD k default).active (by omega) hw4) rfl rfl e32 zLe rfl (fun r hr => ?_)); subst hr; refine ⟨rfl, zLok, ?_⟩; refine zDn ?_)
   (refine po_step rfl rfl (op_appendF (b := 16) hT rfl rfl rfl rfl (by simp) rfl (by first | rfl | (simp only [List.all_map]; exact List.all_eq_true.2 fun _ _ => rfl)) (by first | rfl | (simp only [List.all_map]; exact List.all_eq_true.2 fun _ _ => rfl)) (by simp only [List.length_map, List.length_cons, List.length_nil]; omega) ⟨(by (repeat (first | exact True.intro | refine ⟨.inr rfl, ?_⟩ | refine ⟨.inl (by decide +kernel), ?_⟩))), ?_⟩); (first | refine po_norm rfl ?_ | refine po_normE rfl ?_))
   refine zD ?_
   (refine po_step rfl rfl (op_append (b := 32) hT rfl rfl rfl rfl rfl rfl (.inl (Nat.zero_lt_succ _)) rfl rfl (by simp only [List.length_map, List.length_cons, List.length_nil]; omega) (fun cap1 _ hcap => ⟨zLok, ?_⟩)); refine zDn ?_)
   refine zD ?_
   (refine pw_mv 1 4 hD rfl rfl rfl rfl rfl ?_; refine pw_norm rfl ?_)
   (try refine zS ?_)
   refine ⟨(k + 1, out ++ [ln (winW (i.windows.getD k default))], cap1), ⟨hlt, hw2⟩, by dsimp only; omega, ?_, ?_⟩
   all_goals simp only [List.map_append, List.length_append]
   ·(exact zLe)
   ·(exact zLes)
  ·refine zD ?_
   (refine po_step rfl rfl (op_litm hT rfl rfl rfl rfl rfl (by decide) rfl rfl rfl rfl ⟨zLok, ?_⟩); refine zDn ?_)
   (refine po_step rfl rfl (op_appendF (b := 16) hT rfl rfl rfl rfl (by simp) rfl (by first | rfl | (simp only [List.all_map]; exact List.all_eq_true.2 fun _ _ => rfl)) (by first | rfl | (simp only [List.all_map]; exact List.all_eq_true.2 fun _ _ => rfl)) (by simp only [List.length_map, List.length_cons, List.length_nil]; omega) ⟨(by (repeat (first | exact True.intro | refine ⟨.inr rfl, ?_⟩ | refine ⟨.inl (by decide +kernel), ?_⟩))), ?_⟩); (first | refine po_norm rfl ?_ | refine po_normE rfl ?_))
   refine zD ?_
   (refine po_step rfl rfl (op_append (b := 32) hT rfl rfl rfl rfl rfl rfl (.inl (Nat.zero_lt_succ _)) rfl rfl (by simp only [List.length_map, List.length_cons, List.length_nil]; omega) (fun cap1 _ hcap => ⟨zLok, ?_⟩)); refine zDn ?_)
   refine zD ?_
   (refine pw_mv 1 4 hD rfl rfl rfl rfl rfl ?_; refine pw_norm rfl ?_)
   (try refine zS ?_)
   refine ⟨(k + 1, out ++ [ln (winW (i.windows.getD k default))], cap1), ⟨hlt, hw2⟩, by dsimp only; omega, ?_, ?_⟩
   all_goals simp only [List.map_append, List.length_append]
   ·(exact zLe)
   ·(exact zLes)
 have hz : k = i.windows.length := by omega
 have hout := outEnd hw (by omega)
 subst hz hout
 clear hw ho h hk
 (try refine zS ?_)
 refine pw_for hD (fun a : Nat × List TLine × Nat => [(4, .msl 2 1 0 (a.2.1.map eLine).length a.2.2), (8, .int .i64 a.1)]) (fun a => [.box (eIntent i).cells, .arr 2 (a.2.1.map eLine) a.2.2]) (fun a => a.1 ≤ i.stms.length ∧ a.2.1 ++ (i.stms.drop a.1).map (fun d => ln (stmW d)) = ((lGroups i ++ lServices i) ++ lWindows i) ++ lStms i) (fun a => i.stms.length - a.1) (0, (lGroups i ++ lServices i) ++ lWindows i, cap) ⟨Nat.zero_le _, rfl⟩ 2 rfl (fun _ => rfl) zLes (fun _ => rfl) (fun _ => rfl) zLe ?_
 clear cap
 rintro ⟨k, out, cap⟩ ⟨hk, hw⟩
 dsimp only at hk hw ⊢
 have ho := outLen hw
 refine zNq ?_
 (try refine zS ?_)
 refine zT ?_ ?_ <;> intro h <;> refine zNq ?_
 ·have hlt : k < i.stms.length := by omega
  have hw2 := selD (fun d => ln (stmW d)) i.stms k hlt out _ hw
  have hm := getD_memD hlt
  have hpr := stm_prio (hv.stms _ hm)
  (try refine zS ?_)
  (refine pl_append (b := 32) hT hD rfl rfl rfl rfl rfl rfl rfl rfl (.inl (Nat.zero_lt_succ _)) rfl rfl (by simp only [List.length_map, List.length_cons, List.length_nil]; omega) (fun cap1 _ hcap => ?_); (refine zNp ?_))
  (try refine zS ?_)
  refine ⟨(k + 1, out ++ [ln (stmW (i.stms.getD k default))], cap1), ⟨hlt, hw2⟩, by dsimp only; omega, ?_, ?_⟩
  all_goals simp only [List.map_append, List.length_append]
  ·(exact zLe)
  ·(exact zLes)
 have hz : k = i.stms.length := by omega
 have hout := outEnd hw (by omega)
 subst hz hout
 clear hw ho h hk
 (try refine zS ?_)
 refine pw_for hD (fun a : Nat × List TLine × Nat => [(4, .msl 2 1 0 (a.2.1.map eLine).length a.2.2), (9, .int .i64 a.1)]) (fun a => [.box (eIntent i).cells, .arr 2 (a.2.1.map eLine) a.2.2]) (fun a => a.1 ≤ i.pubs.length ∧ a.2.1 ++ (i.pubs.drop a.1).map (fun d => ln (pubW d)) = (((lGroups i ++ lServices i) ++ lWindows i) ++ lStms i) ++ lPubs i) (fun a => i.pubs.length - a.1) (0, ((lGroups i ++ lServices i) ++ lWindows i) ++ lStms i, cap) ⟨Nat.zero_le _, rfl⟩ 2 rfl (fun _ => rfl) zLes (fun _ => rfl) (fun _ => rfl) zLe ?_
 clear cap
 rintro ⟨k, out, cap⟩ ⟨hk, hw⟩
 dsimp only at hk hw ⊢
 have ho := outLen hw
 refine zNq ?_
 (try refine zS ?_)
 refine zT ?_ ?_ <;> intro h <;> refine zNq ?_
 ·have hlt : k < i.pubs.length := by omega
  have hw2 := selD (fun d => ln (pubW d)) i.pubs k hlt out _ hw
  have hm := getD_memD hlt
  obtain ⟨hp1, hp2, hp3, _⟩ := pub_f (hv.pubs _ hm)
  obtain ⟨hp4, hp5⟩ := hi.pins _ hm
  (try refine zS ?_)
  refine pw_joinX hD (fun _ : Unit => True) (fun _ => [(11, .str (if (i.pubs.getD k default).proto = 17 then [117, 100, 112] else [116, 99, 112])), (126, .any)]) (fun _ => [.box (eIntent i).cells, .arr 2 (out.map eLine) cap, .box (ePub (i.pubs.getD k default)).cells]) 3 rfl (fun _ => rfl) (fun _ => rfl) (fun _ => rfl) ?_ ?_
  ·refine zT ?_ ?_ <;> intro h1 <;> refine zNq ?_
   ·rw [if_pos h1]
    (try refine zS ?_)
    exact ⟨(), trivial, zLe, zLes⟩
   ·rw [if_neg h1]
    (try refine zS ?_)
    exact ⟨(), trivial, zLe, zLes⟩
  rintro _ _
  refine zNq ?_
  (try refine zS ?_)
  refine zDr [[0,1,2,4,5,6,8,9,10,11,13,14],[3,7,12,15],[16,17,18],[19],[20]] ?_
  refine zDn ?_
  refine zD ?_
  (refine po_step rfl rfl (op_append (b := 32) hT rfl rfl rfl rfl rfl rfl (.inl (Nat.zero_lt_succ _)) rfl rfl (by simp only [List.length_map, List.length_cons, List.length_nil]; omega) (fun cap1 _ hcap => ⟨zLok, ?_⟩)); refine zDn ?_)
  refine zD ?_
  (refine pw_mv 1 3 hD rfl rfl rfl rfl rfl ?_; refine pw_norm rfl ?_)
  (try refine zS ?_)
  refine ⟨(k + 1, out ++ [ln (pubW (i.pubs.getD k default))], cap1), ⟨hlt, hw2⟩, by dsimp only; omega, ?_, ?_⟩
  all_goals simp only [List.map_append, List.length_append]
  ·(exact zLe)
  ·(exact zLes)
 have hz : k = i.pubs.length := by omega
 have hout := outEnd hw (by omega)
 subst hz hout
 clear hw ho h hk
 (try refine zS ?_)
 refine pw_for hD (fun a : Nat × List TLine × Nat => [(4, .msl 2 1 0 (a.2.1.map eLine).length a.2.2), (12, .int .i64 a.1)]) (fun a => [.box (eIntent i).cells, .arr 2 (a.2.1.map eLine) a.2.2]) (fun a => a.1 ≤ i.hids.length ∧ a.2.1 ++ (i.hids.drop a.1).map (fun d => ln (hidW d)) = iLines i) (fun a => i.hids.length - a.1) (0, (((lGroups i ++ lServices i) ++ lWindows i) ++ lStms i) ++ lPubs i, cap) ⟨Nat.zero_le _, rfl⟩ 2 rfl (fun _ => rfl) zLes (fun _ => rfl) (fun _ => rfl) zLe ?_
 clear cap
 rintro ⟨k, out, cap⟩ ⟨hk, hw⟩
 dsimp only at hk hw ⊢
 have ho := outLen hw
 refine zNq ?_
 (try refine zS ?_)
 refine zT ?_ ?_ <;> intro h <;> refine zNq ?_
 ·have hlt : k < i.hids.length := by omega
  have hw2 := selD (fun d => ln (hidW d)) i.hids k hlt out _ hw
  have hm := getD_memD hlt
  obtain ⟨hp1, hp2, hp3⟩ := hid_f (hv.hids _ hm)
  have hp4 := hid_pin (hv.hids _ hm)
  have hp5 := hi.hins _ hm
  (try refine zS ?_)
  refine zDr [[0,1,2,3,4,5,6,8,9],[7,10],[11,12,13],[14],[15]] ?_
  refine zDn ?_
  refine zD ?_
  (refine po_step rfl rfl (op_append (b := 32) hT rfl rfl rfl rfl rfl rfl (.inl (Nat.zero_lt_succ _)) rfl rfl (by simp only [List.length_map, List.length_cons, List.length_nil]; omega) (fun cap1 _ hcap => ⟨zLok, ?_⟩)); refine zDn ?_)
  refine zD ?_
  (refine pw_mv 1 3 hD rfl rfl rfl rfl rfl ?_; refine pw_norm rfl ?_)
  (try refine zS ?_)
  refine ⟨(k + 1, out ++ [ln (hidW (i.hids.getD k default))], cap1), ⟨hlt, hw2⟩, by dsimp only; omega, ?_, ?_⟩
  all_goals simp only [List.map_append, List.length_append]
  ·(exact zLe)
  ·(exact zLes)
 have hz : k = i.hids.length := by omega
 have hout := outEnd hw (by omega)
 subst hz hout
 clear hw ho h hk
 (try refine zS ?_)
 have hj := c27 (Gl := Gl) (iLines i) (by unfold Small; omega) (fun x hx => by have := (hfl x hx).few; unfold Small; omega) (by unfold Small; omega)
 (refine pl_op rfl (op_lend0 hj rfl rfl e21 ⟨.inr (.inr (.inr (.inl ⟨_, _, _, _, _, _, rfl, rfl, rfl, rfl, rfl⟩))), trivial⟩ rfl (fun r hr => ?_)); subst hr; refine ⟨rfl, ?_⟩; (refine zNp ?_))
 (try refine zS ?_)
 exact ret2 _ rfl rfl rfl
end
section
variable {Gl : Glob}
attribute [local irreducible] PW PWL OpP PCalls PWO PWT bothT
theorem c153 (hG : GT Gl) (bs : Str) (cap u : Nat) (hu : u < 1000) (hb : Small bs) : PCalls Tryz.prog Gl 152 [.msl 1 0 0 bs.length cap, .int .u64 u, .int .i64 10] [.arr 1 (bs.map eByte) cap] fun r s => ∃ cap', r = .msl 1 0 0 (bs.length + (dec u).length) cap' ∧ s = [.arr 1 ((bs ++ dec u).map eByte) cap'] := by
 refine PCalls.of hT Tryz.func152 rfl 1 (Nat.le_refl _) fun B hD => ?_
 refine pw_norm rfl ?_
 unfold Small at hb
 have hdl := dec_small (n := u) (by omega)
 have hdp : 0 < (dec u).length := List.length_pos_iff.2 (by
  by_cases h : u < 10
  ·rw [dec_lt h]; simp
  ·rw [dec_ge h]; simp)
 (refine zGo ?_)
 refine pw_cond rfl (fun h => ?_) (fun h => ?_)
 ·have hu1 : u < 100 := by simp only [decide_eq_true_eq] at h; omega
  (refine zGo ?_)
  (refine pl_op rfl (op_of (v_conv (c := (u : Int)) hT rfl rfl rfl rfl (IntWalk.i64_in _ (by omega))) ?_); (refine zNp ?_))
  (refine zGo ?_)
  (refine pl_op rfl (op_fun (c149 u hu1) rfl rfl e186 zLe rfl (fun r hr => ?_)); subst hr; refine ⟨rfl, ?_⟩; (refine zNp ?_))
  (refine zGo ?_)
  (refine pl_op rfl (op_appendS (b := 1) (xs := bs) hT rfl rfl rfl rfl rfl rfl rfl (.inl hdp) (by omega) (fun cap' _ _ => ?_)); (refine zNp ?_))
  refine pl_pure hT rfl ?_
  refine pl_nil ?_
  change PW Tryz.prog Gl B _ _ _ _
  (refine pw_mv 0 1 hD rfl rfl rfl rfl rfl ?_; refine pw_norm rfl ?_)
  (refine pw_trim 1 hD rfl rfl ?_; refine pw_norm rfl ?_)
  (refine zGo ?_)
  exact ⟨_, _, _, rfl, ⟨cap', rfl, rfl⟩, .inr (.inl rfl), ⟨.inr (.inl rfl), trivial⟩, rfl, rfl⟩
 ·have hu1 : 100 ≤ u := by simp only [decide_eq_false_iff_not] at h; omega
  (refine zGo ?_)
  (refine pl_op rfl (op_fun (c150 hG u hu1 hu) rfl rfl e187 zLe rfl (fun r hr => ?_)); subst hr; refine ⟨rfl, ?_⟩; (refine zNp ?_))
  (refine zGo ?_)
  (refine pl_op rfl (op_of (v_sliceP (m := 3) hT rfl rfl rfl rfl rfl (by decide) (by decide)) ?_); (refine zNp ?_))
  (refine zGo ?_)
  (refine pl_op rfl (zCl [1] e188 (c151 u hu1 hu) (fun r s hq => ?_)); obtain ⟨rfl, x0, x1, x2, hdu, rfl⟩ := hq; refine ⟨rfl, rfl, ?_⟩; (refine zNp ?_))
  refine pl_nil ?_
  change PW Tryz.prog Gl B _ _ _ _
  refine pw_boxArr 1 (cs := ([x0, x1, x2] ++ zeros 21 : Str).map eByte) rfl (bytes_cell _) (bytes_refs _) (Nat.le_of_ble_eq_true rfl) ?_
  refine pw_norm rfl ?_
  (refine zGo ?_)
  (refine pl_op rfl (op_of (v_sliceP (m := 3) hT rfl rfl rfl rfl rfl (by decide) (by decide)) ?_); (refine zNp ?_))
  (refine zGo ?_)
  have h3 : (dec u).length = 3 := by rw [hdu]; rfl
  (refine pl_op rfl (op_appendB (b := 1) (xs := bs) (zs := [x0, x1, x2] ++ zeros 21) hT rfl rfl rfl rfl (Nat.le_refl _) rfl rfl (Nat.le_of_ble_eq_true rfl) (.inl (by decide)) (by omega) (fun cap' _ _ => ?_)); (refine zNp ?_))
  have e : bs.take bs.length ++ ((([x0, x1, x2] ++ zeros 21 : Str)).drop 0).take 3 = bs ++ dec u := by
   rw [List.take_length, hdu]; rfl
  rw [e]
  rw [show bs.length + 3 = bs.length + (dec u).length by rw [h3]]
  refine pl_pure hT rfl ?_
  refine pl_nil ?_
  change PW Tryz.prog Gl B _ _ _ _
  (refine pw_mv 0 2 hD rfl rfl rfl rfl rfl ?_; refine pw_norm rfl ?_)
  (refine zGo ?_)
  exact ⟨_, _, _, rfl, ⟨cap', rfl, rfl⟩, .inr (.inl rfl), ⟨.inr (.inl rfl), trivial⟩, rfl, rfl⟩
theorem c131 (hG : GT Gl) (bs : Str) (cap u : Nat) (hu : u < 1000) (hb : Small bs) : PCalls Tryz.prog Gl 111 [.msl 1 0 0 bs.length cap, .int .u64 u, .int .i64 10] [.arr 1 (bs.map eByte) cap] fun r s => ∃ cap', r = .msl 1 0 0 (bs.length + (dec u).length) cap' ∧ s = [.arr 1 ((bs ++ dec u).map eByte) cap'] := by
 refine PCalls.of hT Tryz.func111 rfl 1 (Nat.le_refl _) fun B hD => ?_
 refine pw_norm rfl ?_
 (refine zGo ?_)
 (refine pl_op rfl (op_callA [0] rfl rfl e152 (by decide) rfl rfl rfl zLe zLes (c153 hG bs cap u hu hb) (fun r s hq => ?_)); obtain ⟨cap', rfl, rfl⟩ := hq; refine ⟨rfl, rfl, ?_⟩; (refine zNp ?_))
 refine pl_pure hT rfl ?_
 refine pl_nil ?_
 change PW Tryz.prog Gl B _ _ _ _
 (refine pw_mv 0 1 hD rfl rfl rfl rfl rfl ?_; refine pw_norm rfl ?_)
 (refine pw_trim 1 hD rfl rfl ?_; refine pw_norm rfl ?_)
 (refine zGo ?_)
 exact ⟨_, _, _, rfl, ⟨cap', rfl, rfl⟩, .inr (.inl rfl), ⟨.inr (.inl rfl), trivial⟩, rfl, rfl⟩
def preA (a : Nat) : Nat → Str
 | 0 => []
 | k + 1 => (if k = 0 then [] else preA a k ++ [46]) ++ dec (oct a (24 - 8 * k))
theorem preA_four (a : Nat) : preA a 4 = addrS a := by simp [preA, addrS]
theorem preA_len (a : Nat) : ∀ k, k ≤ 4 → (preA a k).length ≤ 5 * k
 | 0, _ => Nat.le_refl _
 | k + 1, h => by
  have h1 := preA_len a k (by omega)
  have h2 : (dec (oct a (24 - 8 * k))).length ≤ 4 := dec_small (by have := oct_lt a (24 - 8 * k); omega)
  rw [preA, List.length_append]
  split
  ·simp only [List.length_nil]; omega
  ·rw [List.length_append, List.length_singleton]; omega
theorem and255 (x : Nat) (h : x < 4294967296) : (BitVec.ofInt 32 (x : Int) &&& BitVec.ofInt 32 255).toNat = x % 256 := by
 rw [BitVec.toNat_and, BitVec.toNat_ofInt, BitVec.toNat_ofInt]
 rw [show (((x : Int) % ((2 ^ 32 : Nat) : Int)).toNat) = x by omega]
 exact Nat.and_two_pow_sub_one_eq_mod x 8
theorem c112 (hG : GT Gl) (a : Nat) (ha : a < 4294967296) : PFun Tryz.prog Gl 63 [.int .u32 (a : Int)] fun r => r = .str (addrS a) := by
 refine PFun.of hT Tryz.func63 rfl fun B hD => ?_
 refine pw_norm rfl ?_
 (refine zGo ?_)
 refine pw_ghost 1 ?_
 refine pw_norm rfl ?_
 refine pw_for hD (fun x : Nat × Str × Nat => [(3, .msl 1 0 0 x.2.1.length x.2.2), (4, .int .i64 (24 - 8 * (x.1 : Int)))]) (fun x => [.arr 1 (x.2.1.map eByte) x.2.2]) (fun x => x.1 ≤ 4 ∧ x.2.1 = preA a x.1) (fun x => 4 - x.1) (0, [], 0) ⟨Nat.zero_le _, rfl⟩ 1 rfl (fun _ => rfl) zLes (fun _ => rfl) (fun _ => rfl) zLe ?_
 rintro ⟨k, bs, cap⟩ ⟨hk, hbs⟩
 dsimp only at hk hbs ⊢
 have hbl := preA_len a k hk
 (refine zGo ?_)
 refine pw_cond rfl (fun h => ?_) (fun h => ?_)
 ·have hk4 : k < 4 := by simp only [decide_eq_true_eq] at h; omega
  obtain ⟨sh, hsh⟩ : ∃ sh : Nat, sh = 24 - 8 * k := ⟨_, rfl⟩
  have hshi : 24 - 8 * (k : Int) = (sh : Int) := by omega
  have hoc := oct_lt a sh
  (refine zGo ?_)
  refine pw_joinX hD (fun x : Str × Nat => x.1 = (if k = 0 then [] else preA a k ++ [46])) (fun x => [(3, .msl 1 0 0 x.1.length x.2)]) (fun x => [.arr 1 (x.1.map eByte) x.2]) 1 rfl (fun _ => rfl) (fun _ => rfl) (fun _ => rfl) ?_ ?_
  ·refine pw_cond rfl (fun h2 => ?_) (fun h2 => ?_)
   ·have hk0 : ¬ k = 0 := by simp only [decide_eq_true_eq] at h2; omega
    (refine zGo ?_)
    (refine pl_append (b := 1) hT hD rfl rfl rfl rfl rfl (List.length_map ..).symm rfl rfl (.inl (Nat.zero_lt_succ _)) rfl rfl (by rw [List.length_map, hbs]; show (_ + 1) * 1 ≤ _; omega) (fun cap1 _ hcap => ?_); (refine zNp ?_))
    (refine zGo ?_)
    refine ⟨(bs ++ [46], cap1), by rw [if_neg hk0, hbs], ?_, ?_⟩
    ·simp only [List.length_append, List.length_map]
     (exact zLe)
    ·simp only [List.map_append]
     (exact zLes)
   ·have hk0 : k = 0 := by simp only [decide_eq_false_iff_not] at h2; omega
    subst hk0
    (refine zGo ?_)
    exact ⟨(bs, cap), by rw [hbs]; rfl, zLe, zLes⟩
  rintro ⟨bs2, cap2⟩ hb2
  dsimp only at hb2 ⊢
  have hb2l : bs2.length ≤ 21 := by
   rw [hb2]
   split
   ·simp
   ·rw [List.length_append, List.length_singleton]; omega
  rw [hshi]
  (refine zGo ?_)
  (refine pl_op rfl (op_of (v_conv (c := (sh : Int)) hT rfl rfl rfl rfl (IntWalk.u64_in _ (by omega))) ?_); (refine zNp ?_))
  (refine zGo ?_)
  (refine pl_op rfl (op_of (v_shr (c := ((a / 2 ^ sh : Nat) : Int)) rfl rfl rfl (by omega) (by rw [show min ((sh : Int)).toNat IntKind.u32.bits = sh by show min sh 32 = sh; omega]; exact fdiv_nat a sh)) ?_); (refine zNp ?_))
  (refine zGo ?_)
  have hlt : a / 2 ^ sh < 4294967296 := Nat.lt_of_le_of_lt (Nat.div_le_self _ _) ha
  (refine pl_op rfl (op_of (v_bits (c := (oct a sh : Int)) rfl rfl rfl rfl (by show IntKind.u32.wrap ((BitVec.ofInt 32 ((a / 2 ^ sh : Nat) : Int) &&& BitVec.ofInt 32 255).toNat : Int) = _; rw [and255 _ hlt]; exact IntWalk.u32_in _ (by unfold oct at hoc; omega))) ?_); (refine zNp ?_))
  (refine zGo ?_)
  (refine pl_op rfl (op_of (v_conv (c := (oct a sh : Int)) hT rfl rfl rfl rfl (IntWalk.u64_in _ (by omega))) ?_); (refine zNp ?_))
  (refine zGo ?_)
  (refine pl_op rfl (op_callA [0] rfl rfl e111 (by decide) rfl rfl rfl zLe zLes (c131 hG bs2 cap2 (oct a sh) (by omega) (by unfold Small; omega)) (fun r s hq => ?_)); obtain ⟨cap', rfl, rfl⟩ := hq; refine ⟨rfl, rfl, ?_⟩; (refine zNp ?_))
  refine pl_pure hT rfl ?_
  refine pl_nil ?_
  change PW Tryz.prog Gl B _ _ _ _
  (refine pw_mv 0 1 hD rfl rfl rfl rfl rfl ?_; refine pw_norm rfl ?_)
  (refine pw_trim 1 hD rfl rfl ?_; refine pw_norm rfl ?_)
  (refine zGo ?_)
  refine ⟨(k + 1, bs2 ++ dec (oct a sh), cap'), ⟨hk4, ?_⟩, by show 4 - (k + 1) < 4 - k; omega, ?_, zLes⟩
  ·rw [preA, hb2, hsh]
  ·rw [show ((sh : Int) - 8) = 24 - 8 * ((k + 1 : Nat) : Int) by omega]
   simp only [List.length_append]
   (exact zLe)
 ·have hk4 : k = 4 := by simp only [decide_eq_false_iff_not] at h; omega
  subst hk4
  rw [preA_four] at hbs
  subst hbs
  (refine zGo ?_)
  (refine pl_op rfl (v_bstrM (bs := addrS a) hT rfl rfl rfl rfl rfl rfl rfl ?_); (refine zNp ?_))
  (refine zGo ?_)
  exact ret1 _ rfl rfl rfl
theorem c79 (hG : GT Gl) (p : TPfx) (hp : PfxIn p) (hv : pvalid p = true) (hb : 0 ≤ p.bits ∧ p.bits ≤ 32) : PFun Tryz.prog Gl 108 [ePfx p] fun r => r = .str (pfxS p) := by
 refine PFun.of hT Tryz.func108 rfl fun B hD => ?_
 refine pw_norm rfl ?_
 have ha : ((p.addr.toNat : Nat) : Int) = p.addr := Int.toNat_of_nonneg hp.1
 have h112 : PFun Tryz.prog Gl 63 [.int .u32 p.addr] fun r => r = .str (addrS p.addr.toNat) := by
  have := c112 hG p.addr.toNat (by have := hp.2; omega)
  rw [ha] at this
  exact this
 have h78 : PFun Tryz.prog Gl 64 [.int .i64 p.bits] fun r => r = .str (dec p.bits.toNat) := by
  have := c78 hG p.bits.toNat (by omega)
  rw [Int.toNat_of_nonneg hb.1] at this
  exact this
 have hl := addrS_len p.addr.toNat
 have hl2 : (dec p.bits.toNat).length ≤ 4 := dec_small (by omega)
 (refine zGo ?_)
 (refine pl_op rfl (op_fun (c45 p) rfl rfl e148 zLe rfl (fun r hr => ?_)); subst hr; refine ⟨rfl, ?_⟩; (refine zNp ?_))
 rw [hv]
 (refine zGo ?_)
 refine zDr [[0,1,4,5],[2],[3],[6],[7,8]] ?_
 (refine zDgo ?_)
 (refine po_step rfl rfl (op_fun (h112) rfl rfl e63 zLe rfl (fun r hr => ?_)); subst hr; refine ⟨rfl, zLok, ?_⟩; refine zDn ?_)
 (refine zDgo ?_)
 (refine po_val rfl rfl (v_concat rfl rfl rfl (by simp; omega)) ?_; refine zDn ?_)
 (refine zDgo ?_)
 (refine po_step rfl rfl (op_fun (h78) rfl rfl e64 zLe rfl (fun r hr => ?_)); subst hr; refine ⟨rfl, zLok, ?_⟩; refine zDn ?_)
 (refine zDgo ?_)
 (refine po_val rfl rfl (v_concat rfl rfl rfl (by simp; omega)) ?_; refine zDn ?_)
 (refine zDgo ?_)
 (refine zGo ?_)
 exact ret1 _ rfl rfl rfl

end
end Go.Proofs.YtkaobkjcjodffaaGreatDoor