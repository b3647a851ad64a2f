/-
 Contracts of functions, walked over pure values.
-/
import Derived.Test.YtkaobkjcjodffaaGreatDoorHM13
import Derived.Test.YtkaobkjcjodffaaGreatDoorHB8
import Derived.Test.YtkaobkjcjodffaaGreatDoorGPwApX
import Derived.Test.YtkaobkjcjodffaaGreatDoorHK51
import Derived.Test.YtkaobkjcjodffaaGreatDoorHK9
set_option maxHeartbeats 20000000
set_option maxRecDepth 100000
namespace Go.Proofs.YtkaobkjcjodffaaGreatDoor
open Go Go.Pw
section
open Go.RowKit
variable {Gl : Glob}
attribute [local irreducible] PW PWL OpP PCalls PWO PWT bothT
theorem c_itoa (hG : GT Gl) (n : Int) (h : 0 ≤ n ∧ n < 10000000) : PFun Tryz.prog Gl 64 [.int .i64 n] fun r => r = .str (dec n.toNat) := by
 obtain ⟨h0, h1⟩ := h
 obtain ⟨m, rfl⟩ : ∃ m : Nat, n = (m : Int) := ⟨n.toNat, by omega⟩
 refine PFun.lib rfl fun w hw => ?_
 refine (Tryz.strconv_Itoa m (by omega) (by omega) w (hG w hw)).mono ?_
 rintro e w' ⟨rfl, k, os, rfl⟩
 exact ⟨.str (dec m), by rw [itoa_nat]; rfl, rfl, rfl, Lib.below_grow _ _ (Nat.le_refl _) _ _⟩
instance iItoa (n : Int) : ConF Tryz.prog Gl 64 [.int .i64 n] (GT Gl ∧ 0 ≤ n ∧ n < 10000000) (.str (dec n.toNat)) := ⟨e64, fun h => c_itoa h.1 n h.2⟩
theorem c_pfaddr (hG : GT Gl) (a : Int) (h : 0 ≤ a ∧ a < 4294967296) : PFun Tryz.prog Gl 63 [.int .u32 a] fun r => r = .str (addrS a.toNat) := by
 have := c112 hG a.toNat (by omega)
 rwa [Int.toNat_of_nonneg h.1] at this
instance iPFAddr (a : Int) : ConF Tryz.prog Gl 63 [.int .u32 a] (GT Gl ∧ 0 ≤ a ∧ a < 4294967296) (.str (addrS a.toNat)) := ⟨e63, fun h => c_pfaddr h.1 a h.2⟩
instance iPFPfx (p : TPfx) : ConF Tryz.prog Gl 108 [.agg [.int .u32 p.addr, .int .i64 p.bits]] (GT Gl ∧ PfxIn p ∧ rvalid p = true) (.str (pfxS p)) := ⟨e108, fun h => c79 h.1 p h.2.1 (by rw [valid_eq p h.2.1]; exact h.2.2) (rvalid_b h.2.2)⟩
theorem c_ports2 (hG : GT Gl) (r : TRng) (h : PIn2 r) : PFun Tryz.prog Gl 65 [eRng r] fun x => x = .str (spanS r) := by
 (refine PFun.of hT Tryz.func65 rfl fun B hD => ?_; refine pw_norm rfl ?_)
 obtain ⟨a, b, c, d⟩ := h
 have l1 := dec5 b
 have l2 := dec5 d
 unfold spanS
 (repeat' (first | (refine zDr [[0,1,2,5,6,7],[3],[4],[8],[9,10]] ?_; refine zDn ?_) | refine zS ?_ | refine zD ?_ | refine po_both ?_ ?_ | refine pwt_both ?_ ?_ | refine pwt_fork ?_ | refine pwt_lin ?_ | (refine po_test rfl rfl rfl rfl zB ?_ ?_ <;> intro hb <;> first | exact zX | refine zDn ?_) | (refine zT ?_ ?_ <;> intro h <;> first | exact zX | refine zNq ?_)))
 ·rw [if_pos h]; exact ret2 _ rfl rfl rfl
 ·rw [if_neg h]; exact ret2 _ rfl rfl rfl
instance iPorts2 (r : TRng) : ConF Tryz.prog Gl 65 [.agg [.int .u32 r.lo, .int .u32 r.hi]] (GT Gl ∧ PIn2 r) (.str (spanS r)) := ⟨e65, fun h => c_ports2 h.1 r h.2⟩
def kindS (g : Bool) : Str := if g then [103, 114, 111, 117, 112] else [115, 101, 114, 118, 105, 99, 101]
theorem c_item2 (hG : GT Gl) (x : TItem) (g : Bool) (hx : FItem x) : PFun Tryz.prog Gl 60 [eItem x, .str (kindS g)] fun r => r = .sl ((itemW x g).map .str) := by
 (refine PFun.of hT Tryz.func60 rfl fun B hD => ?_; refine pw_norm rfl ?_)
 have hx3 := hx.ports
 have hx4 := hx.proto
 have hz : x.kind = 4 → ¬ (x.proto = 6 ∨ x.proto = 17) ∨ PIn2 x.ports := fun q => by
  by_cases q2 : x.proto = 6 ∨ x.proto = 17
  ·exact .inr (hx3 q q2)
  ·exact .inl q2
 have hq : x.kind = 1 ∨ (x.kind = 2 ∧ PfxIn x.pfx ∧ rvalid x.pfx = true) ∨ x.kind = 3 ∨ (x.kind = 4 ∧ PIn2 x.ports ∧ 0 ≤ x.proto ∧ x.proto ≤ 255) ∨ (x.kind = 4 ∧ ¬ (x.proto = 6 ∨ x.proto = 17) ∧ 0 ≤ x.proto ∧ x.proto ≤ 255) := by
  rcases hx.kind with q | q | q | q
  ·exact .inl q
  ·exact .inr (.inl ⟨q, hx.pfx q⟩)
  ·exact .inr (.inr (.inl q))
  ·rcases hz q with z | z
   ·exact .inr (.inr (.inr (.inr ⟨q, z, hx4 q⟩)))
   ·exact .inr (.inr (.inr (.inl ⟨q, z, hx4 q⟩)))
 clear hz hx3 hx4
 have hw : ∃ W, W = itemW x g := ⟨_, rfl⟩
 obtain ⟨W, hw⟩ := hw
 rw [← hw]
 unfold itemW at hw
 unfold kindS
 rcases hq with q | ⟨q, q1, q2⟩ | q | ⟨q, q1, q2, q3⟩ | ⟨q, q1, q2, q3⟩
 all_goals
  (repeat' (first | refine zS ?_ | (refine zT ?_ ?_ <;> intro h <;> first | exact zX | refine zNq ?_)))
 all_goals
  refine ret2 _ rfl ?_ rfl
  rw [hw]
  clear hw
  cases g <;> simp [*]
end
section
variable {Gl : Glob}
attribute [local irreducible] PW PWL OpP PCalls PWO PWT bothT
theorem c_statement2 (hG : GT Gl) (s : TStm) (h : 0 ≤ s.prio ∧ s.prio < 10000000) : PFun Tryz.prog Gl 62 [eStm s] fun r => r = .sl ((stmW s).map .str) := by
 (refine PFun.of hT Tryz.func62 rfl fun B hD => ?_; refine pw_norm rfl ?_)
 refine zSm ?_
 (refine pl_op rfl (op_litm hT rfl rfl rfl rfl rfl (by decide) rfl rfl rfl rfl ?_); (refine zNp ?_))
 (try refine zS ?_)
 refine zNq ?_
 refine pw_joinX hD (fun _ : Unit => True) (fun _ => [(6, .any)]) (fun _ => [.box (stmP s), .arr 1 [.str (if s.permit then [97, 108, 108, 111, 119] else [100, 101, 110, 121])] 1]) 2 rfl (fun _ => rfl) (fun _ => rfl) (fun _ => rfl) ?_ ?_
 ·refine zT ?_ ?_ <;> intro h1 <;> refine zNq ?_
  ·rw [if_pos h1]
   (try refine zS ?_)
   (refine pl_op rfl (op_of (v_indexm hT rfl rfl rfl rfl rfl (by decide) (by decide) (by decide)) ?_); (refine zNp ?_))
   (refine pl_op rfl (op_storeE' (x0 := .str [100, 101, 110, 121]) (x1 := .str [97, 108, 108, 111, 119]) (xs' := [.str [97, 108, 108, 111, 119]]) hT rfl rfl rfl rfl rfl (by decide) (rfl) rfl rfl rfl rfl (Nat.le_of_ble_eq_true rfl) rfl (rfl) ?_); (refine zNp ?_))
   (try refine zS ?_)
   exact ⟨(), trivial, zLe, zLes⟩
  ·rw [if_neg h1]
   (try refine zS ?_)
   exact ⟨(), trivial, zLe, zLes⟩
 rintro _ _
 refine zNq ?_
 (try refine zS ?_)
 refine zDr [[0,1,2,4,5,7,8],[3,6,9],[10],[11],[12]] ?_
 refine zDn ?_
 refine zD ?_
 (refine po_step rfl rfl (op_append (b := 16) hT rfl rfl rfl rfl rfl rfl (.inl (Nat.zero_lt_succ _)) rfl rfl (Nat.le_of_ble_eq_true rfl) (fun c0 _ hcap => ⟨zLok, ?_⟩)); refine zDn ?_)
 refine zD ?_
 (refine pw_mv 1 2 hD rfl rfl rfl rfl rfl ?_; refine pw_norm rfl ?_)
 (refine pw_trim 2 hD rfl rfl ?_; refine pw_norm rfl ?_)
 refine pw_st (st' := [.box (stmP s), .arr 1 ((stmW0 s).map .str) c0]) rfl ?_
 refine zNq ?_
 (try refine zS ?_)
 have l0 : (stmW0 s).length = 5 := rfl
 refine pw_joinX hD (fun _ : Nat => True) (fun c => [(3, .msl 1 2 0 ((stmW1 s).map PV.str).length c), (20, .any), (22, .any)]) (fun c => [.box (stmP s), .dead, .arr 1 ((stmW1 s).map .str) c]) 3 rfl (fun _ => rfl) (fun _ => rfl) (fun _ => rfl) ?_ ?_
 ·refine zT ?_ ?_ <;> intro h1 <;> refine zNq ?_
  ·have e1 : stmW1 s = stmW0 s ++ [[101, 120, 99, 101, 112, 116], nameS s.exSrc, [45, 62], nameS s.exDst] := by unfold stmW1; rw [h1]; rfl
   rw [e1]
   refine zDr [[0,1,2,4,5],[3,6],[7],[8],[9]] ?_
   refine zDn ?_
   refine zD ?_
   (refine po_step rfl rfl (op_append (b := 16) hT rfl rfl rfl rfl rfl rfl (.inl (Nat.zero_lt_succ _)) rfl rfl (by simp; omega) (fun c1 _ hcap => ⟨zLok, ?_⟩)); refine zDn ?_)
   refine zD ?_
   refine ⟨c1, trivial, ?_, ?_⟩
   all_goals simp only [List.map_append, List.length_append]
   ·(exact zLe)
   ·(exact zLes)
  ·have e1 : stmW1 s = stmW0 s := by
    rw [Bool.not_eq_true] at h1
    unfold stmW1; rw [h1]; exact List.append_nil _
   rw [e1]
   refine pw_ghost 1 ?_
   refine zNq ?_
   (refine pw_mv 2 1 hD rfl rfl rfl rfl rfl ?_; refine pw_norm rfl ?_)
   (try refine zS ?_)
   exact ⟨c0, trivial, zLe, zLes⟩
 intro c _
 refine zNq ?_
 (refine pw_mv 1 2 hD rfl rfl rfl rfl rfl ?_; refine pw_norm rfl ?_)
 (refine pw_trim 2 hD rfl rfl ?_; refine pw_norm rfl ?_)
 have l1 : (stmW1 s).length ≤ 9 := by unfold stmW1; rw [List.length_append]; split <;> simp [l0]
 generalize hW : stmW1 s = W at l1 ⊢
 refine zNq ?_
 (try refine zS ?_)
 refine pw_joinX hD (fun _ : Nat => True) (fun c => [(3, .msl 1 1 0 ((stmW2 s).map PV.str).length c), (34, .any)]) (fun c => [.box (stmP s), .arr 1 ((stmW2 s).map .str) c]) 2 rfl (fun _ => rfl) (fun _ => rfl) (fun _ => rfl) ?_ ?_
 ·refine zT ?_ ?_ <;> intro h1 <;> refine zNq ?_
  ·have e1 : stmW2 s = W ++ [[118, 105, 97], s.cls] := by unfold stmW2; rw [hW, if_neg h1]
   rw [e1]
   (try refine zS ?_)
   (refine pl_append (b := 16) hT hD rfl rfl rfl rfl rfl rfl rfl rfl (.inl (Nat.zero_lt_succ _)) rfl rfl (by simp; omega) (fun c1 _ hcap => ?_); (refine zNp ?_))
   (try refine zS ?_)
   refine ⟨c1, trivial, ?_, ?_⟩
   all_goals simp only [List.map_append, List.length_append]
   ·(exact zLe)
   ·(exact zLes)
  ·have e1 : stmW2 s = W := by unfold stmW2; rw [hW, if_pos (Decidable.not_not.1 h1)]; exact List.append_nil _
   rw [e1]
   (try refine zS ?_)
   exact ⟨c, trivial, zLe, zLes⟩
 have l2 : (stmW2 s).length ≤ 11 := by unfold stmW2; rw [hW, List.length_append]; split <;> simp <;> omega
 clear hW l1 c
 intro c _
 generalize hW : stmW2 s = W at l2 ⊢
 have l1 := l2
 clear l2
 refine zNq ?_
 (try refine zS ?_)
 refine pw_joinX hD (fun _ : Nat => True) (fun c => [(3, .msl 1 1 0 ((stmW3 s).map PV.str).length c), (42, .any)]) (fun c => [.box (stmP s), .arr 1 ((stmW3 s).map .str) c]) 2 rfl (fun _ => rfl) (fun _ => rfl) (fun _ => rfl) ?_ ?_
 ·refine zT ?_ ?_ <;> intro h1 <;> refine zNq ?_
  ·have e1 : stmW3 s = W ++ [[100, 117, 114, 105, 110, 103], s.during] := by unfold stmW3; rw [hW, if_neg h1]
   rw [e1]
   (try refine zS ?_)
   (refine pl_append (b := 16) hT hD rfl rfl rfl rfl rfl rfl rfl rfl (.inl (Nat.zero_lt_succ _)) rfl rfl (by simp; omega) (fun c1 _ hcap => ?_); (refine zNp ?_))
   (try refine zS ?_)
   refine ⟨c1, trivial, ?_, ?_⟩
   all_goals simp only [List.map_append, List.length_append]
   ·(exact zLe)
   ·(exact zLes)
  ·have e1 : stmW3 s = W := by unfold stmW3; rw [hW, if_pos (Decidable.not_not.1 h1)]; exact List.append_nil _
   rw [e1]
   (try refine zS ?_)
   exact ⟨c, trivial, zLe, zLes⟩
 have l2 : (stmW3 s).length ≤ 13 := by unfold stmW3; rw [hW, List.length_append]; split <;> simp <;> omega
 clear hW l1 c
 intro c _
 generalize hW : stmW3 s = W at l2 ⊢
 have l1 := l2
 clear l2
 refine zNq ?_
 (try refine zS ?_)
 refine pw_joinX hD (fun _ : Nat => True) (fun c => [(3, .msl 1 1 0 ((stmW s).map PV.str).length c), (50, .any)]) (fun c => [.box (stmP s), .arr 1 ((stmW s).map .str) c]) 2 rfl (fun _ => rfl) (fun _ => rfl) (fun _ => rfl) ?_ ?_
 ·refine zT ?_ ?_ <;> intro h1 <;> refine zNq ?_
  ·have e1 : stmW s = W ++ [[112, 114, 105, 111, 114, 105, 116, 121], dec s.prio.toNat] := by unfold stmW; rw [hW, if_neg h1]
   rw [e1]
   (try refine zS ?_)
   (refine pl_append (b := 16) hT hD rfl rfl rfl rfl rfl rfl rfl rfl (.inl (Nat.zero_lt_succ _)) rfl rfl (by simp; omega) (fun c1 _ hcap => ?_); (refine zNp ?_))
   (try refine zS ?_)
   refine ⟨c1, trivial, ?_, ?_⟩
   all_goals simp only [List.map_append, List.length_append]
   ·(exact zLe)
   ·(exact zLes)
  ·have e1 : stmW s = W := by unfold stmW; rw [hW, if_pos (Decidable.not_not.1 h1)]; exact List.append_nil _
   rw [e1]
   (try refine zS ?_)
   exact ⟨c, trivial, zLe, zLes⟩
 have l2 : (stmW s).length ≤ 15 := by unfold stmW; rw [hW, List.length_append]; split <;> simp <;> omega
 clear hW l1 c
 intro c _
 generalize hW : stmW s = W at l2 ⊢
 have l1 := l2
 clear l2
 refine zNq ?_
 (try refine zS ?_)
 subst hW
 exact ret0 _ (.sl ((stmW s).map .str)) rfl rfl (.inr (.inr (.inr (.inl ⟨_, _, _, _, _, _, rfl, rfl, rfl, rfl, rfl⟩)))) rfl
instance iStatement2 (s : TStm) : ConF Tryz.prog Gl 62 [.agg [.bool s.permit, .str s.src, .str s.dst, .str s.service, .bool s.excepted, .str s.exSrc, .str s.exDst, .str s.cls, .str s.during, .int .i64 s.prio]] (GT Gl ∧ 0 ≤ s.prio ∧ s.prio < 10000000) (.sl ((stmW s).map .str)) := ⟨e62, fun h => c_statement2 h.1 s h.2⟩
theorem c_add1 (ws : List Str) (out : List TLine) (cap : Nat) (ho : out.length ≤ 1000) : PCalls Tryz.prog Gl 58 [.sl (ws.map .str), .ptr 0 0] [.box [.msl 2 1 0 (out.map eLine).length cap], .arr 2 (out.map eLine) cap] fun r σ =>
  r = .tup [] ∧ ∃ cap', σ = [.box [.msl 2 1 0 ((out ++ [ln ws]).map eLine).length cap'], .arr 2 ((out ++ [ln ws]).map eLine) cap'] := by
 refine PCalls.of hT Tryz.func58 rfl 2 (Nat.le_refl _) fun B hD => ?_
 refine pw_norm rfl ?_
 (try refine zS ?_)
 (refine pl_append (b := 32) hT hD rfl rfl rfl rfl rfl rfl rfl rfl (.inl (Nat.zero_lt_succ _)) rfl rfl (by simp; omega) (fun cap' _ hcap => ?_); (refine zNp ?_))
 (try refine zS ?_)
 have e : (out.map eLine) ++ [eLine (ln ws)] = (out ++ [ln ws]).map eLine := by simp
 refine ⟨_, _, [.box [.msl 2 1 0 ((out ++ [ln ws]).map eLine).length cap'], .arr 2 ((out ++ [ln ws]).map eLine) cap'], rfl, ⟨rfl, cap', rfl⟩, .inr (.inl rfl), ?_, rfl, rfl⟩
 simp only [← e, List.length_append]
 exact zF
def fst2 (out : List TLine) (cap : Nat) : List PObj := [.box [.msl 2 2 0 (out.map eLine).length cap], .box [.fn 58 [.ptr 0 0]], .arr 2 (out.map eLine) cap]
theorem itemW_pos (x : TItem) (g : Bool) : 1 ≤ (itemW x g).length ∧ (itemW x g).length ≤ 2 := by
 unfold itemW
 repeat' split
 all_goals exact ⟨Nat.le_of_ble_eq_true rfl, Nat.le_of_ble_eq_true rfl⟩
theorem c_define2 (hG : GT Gl) (l : List TDef) (g : Bool) (out : List TLine) (cap : Nat) (hl : l.length ≤ 32) (ho : out.length ≤ 200) (hd : ∀ d ∈ l, d.items.length ≤ 16 ∧ ∀ x ∈ d.items, FItem x) :
  PCalls Tryz.prog Gl 59 [.sl (l.map eDef), .str (kindS g), .ptr 1 0] (fst2 out cap) fun r σ => r = .tup [] ∧ ∃ cap', σ = fst2 (out ++ l.map fun d => ln (defW g d)) cap' := by
 refine PCalls.of hT Tryz.func59 rfl 3 (Nat.le_refl _) fun B hD => ?_
 have hX : (out ++ l.map fun d => ln (defW g d)).length ≤ 232 := by rw [List.length_append, List.length_map]; omega
 have hX0 : out ++ l.map (fun d => ln (defW g d)) = out ++ (l.drop 0).map (fun d => ln (defW g d)) := rfl
 unfold fst2
 refine pw_norm rfl ?_
 (try refine zS ?_)
 refine zNq ?_
 generalize hXe : (out ++ l.map fun d => ln (defW g d)) = X at hX hX0 ⊢
 refine pw_for hD (fun a : Nat × List TLine × Nat => [(12, .int .i64 a.1)]) (fun a => fst2 a.2.1 a.2.2) (fun a => a.1 ≤ l.length ∧ a.2.1 ++ (l.drop a.1).map (fun d => ln (defW g d)) = X) (fun a => l.length - a.1) (0, out, cap) ⟨Nat.zero_le _, hX0.symm⟩ 3 rfl (fun _ => rfl) (by unfold fst2; (exact zLes)) (fun _ => rfl) (fun _ => rfl) zLe ?_
 clear hX0
 rintro ⟨k, o2, cap⟩ ⟨hk, hw⟩
 dsimp only at hk hw ⊢
 have ho2 := outLen hw
 unfold fst2
 refine zNq ?_
 (try refine zS ?_)
 refine zT ?_ ?_ <;> intro h <;> refine zNq ?_
 ·have hlt : k < l.length := by omega
  have hw2 := selD (fun d => ln (defW g d)) l k hlt o2 _ hw
  obtain ⟨hi16, hit⟩ := hd _ (getD_memD hlt)
  refine zSm ?_
  (refine pl_op rfl (op_litm hT rfl rfl rfl rfl rfl (by decide) rfl rfl rfl rfl ?_); (refine zNp ?_))
  (try refine zS ?_)
  refine zNq ?_
  generalize l.getD k default = d at hw2 hi16 hit ⊢
  refine pw_for hD (fun a : Nat × Nat => [(7, .msl 1 4 0 (([kindS g, d.name, [61]] ++ itemsN d.items g a.1).map PV.str).length a.2), (19, .any), (23, .int .i64 a.1)]) (fun a => fst2 o2 cap ++ [.box (eDef d).cells, .arr 1 (([kindS g, d.name, [61]] ++ itemsN d.items g a.1).map .str) a.2]) (fun a => a.1 ≤ d.items.length) (fun a => d.items.length - a.1) (0, 3) (Nat.zero_le _) 5 rfl (fun _ => rfl) (by unfold fst2; (exact zLes)) (fun _ => rfl) (fun _ => rfl) zLe ?_
  rintro ⟨j, c3⟩ hj
  dsimp only at hj ⊢
  have hnl := (itemsN_len d.items g j).1
  unfold fst2
  refine zNq ?_
  (try refine zS ?_)
  refine zT ?_ ?_ <;> intro h2 <;> refine zNq ?_
  ·have hjl : j < d.items.length := by omega
   have hx := hit _ (getD_memD hjl)
   have hip := itemW_pos (d.items.getD j default) g
   have hnx : [kindS g, d.name, [61]] ++ itemsN d.items g (j + 1) = (([kindS g, d.name, [61]] ++ itemsN d.items g j) ++ if 0 < j then [[44]] else []) ++ itemW (d.items.getD j default) g := by
    simp only [itemsN, List.append_assoc]
   have hW0 : ([kindS g, d.name, [61]] ++ itemsN d.items g j).length ≤ 60 := by rw [List.length_append]; show 3 + _ ≤ _; omega
   generalize ([kindS g, d.name, [61]] ++ itemsN d.items g j) = W at hnx hW0 ⊢
   (try refine zS ?_)
   refine pw_joinX hD (fun _ : Nat => True) (fun c => [(7, .msl 1 4 0 ((W ++ if 0 < j then [[44]] else []).map PV.str).length c), (29, .any)]) (fun c => fst2 o2 cap ++ [.box (eDef d).cells, .arr 1 ((W ++ if 0 < j then [[44]] else []).map .str) c, .box (eItem (d.items.getD j default)).cells]) 6 rfl (fun _ => rfl) (fun _ => rfl) (fun _ => rfl) ?_ ?_
   ·refine zT ?_ ?_ <;> intro h1 <;> refine zNq ?_
    ·rw [if_pos (show 0 < j by omega)]
     (try refine zS ?_)
     (refine pl_append (b := 16) hT hD rfl rfl rfl rfl rfl rfl rfl rfl (.inl (Nat.zero_lt_succ _)) rfl rfl (by simp; omega) (fun cap1 _ hcap => ?_); (refine zNp ?_))
     (try refine zS ?_)
     refine ⟨cap1, trivial, ?_, ?_⟩
     all_goals simp only [List.map_append, List.length_append]
     ·(exact zLe)
     ·unfold fst2; (exact zLes)
    ·rw [if_neg (show ¬ 0 < j by omega), List.append_nil]
     (try refine zS ?_)
     exact ⟨c3, trivial, zLe, by unfold fst2; (exact zLes)⟩
   intro c _
   have hW1 : (W ++ if 0 < j then [[44]] else []).length ≤ 61 := by
    have : (if 0 < j then [[44]] else ([] : List Str)).length ≤ 1 := by split <;> decide
    rw [List.length_append]; omega
   generalize (W ++ if 0 < j then [[44]] else []) = W1 at hnx hW1 ⊢
   unfold fst2
   refine zNq ?_
   (try refine zS ?_)
   (refine pl_op rfl (op_fun (c_item2 hG (d.items.getD j default) g hx) rfl rfl e60 zLe rfl (fun r hr => ?_)); subst hr; refine ⟨rfl, ?_⟩; (refine zNp ?_))
   (refine pl_append (b := 16) hT hD rfl rfl rfl rfl rfl rfl rfl rfl (.inl (by rw [List.length_map]; omega)) (by simp only [List.all_map]; exact List.all_eq_true.2 fun _ _ => rfl) (by simp only [List.all_map]; exact List.all_eq_true.2 fun _ _ => rfl) (by simp only [List.length_map]; omega) (fun cap1 _ hcap => ?_); (refine zNp ?_))
   (try refine zS ?_)
   refine ⟨(j + 1, cap1), hjl, by dsimp only; omega, ?_, ?_⟩
   all_goals simp only [hnx, List.map_append, List.length_append]
   ·(exact zLe)
   ·(try unfold fst2)
    (exact zLes)
  ·obtain rfl : j = d.items.length := by omega
   refine pw_exit ?_
   refine pw_frz1 4 7 rfl rfl rfl ?_
   refine zNq ?_
   (try refine zS ?_)
   (refine pl_op rfl (op_callA [0, 2] rfl rfl e58 (by decide) rfl rfl rfl zLe zLes (c_add1 (defW g d) o2 cap (by omega)) (fun r s hq => ?_)); obtain ⟨rfl, cap', rfl⟩ := hq; refine ⟨rfl, rfl, ?_⟩; (refine zNp ?_))
   refine pl_nil ?_
   (refine pw_mv 2 6 hD rfl rfl rfl rfl rfl ?_; refine pw_norm rfl ?_)
   (try refine zS ?_)
   refine ⟨(k + 1, o2 ++ [ln (defW g d)], cap'), ⟨hlt, hw2⟩, by dsimp only; omega, ?_, ?_⟩
   ·(exact zLe)
   ·(try unfold fst2)
    (exact zLes)
 ·obtain rfl : o2 = X := outEnd hw (by omega)
  (try refine zS ?_)
  subst hXe
  exact ⟨_, _, _, rfl, ⟨rfl, cap, rfl⟩, .inr (.inl rfl), zF, rfl, rfl⟩
attribute [local irreducible] vname vItem vStm wFormat
instance iValidItem' (x : TItem) (sv : Bool) : ConF Tryz.prog Gl 117 [.agg [.int .i64 x.kind, .str x.name, .int .u32 x.pfx.addr, .int .i64 x.pfx.bits, .int .i64 x.proto, .int .u32 x.ports.lo, .int .u32 x.ports.hi], .bool sv] True (.bool (vItem x sv)) := ⟨e117, fun _ => c_validItem x sv⟩
theorem c_validDefs (l : List TDef) (sv : Bool) (hl : l.length < 1000000) (hb : ∀ d ∈ l, d.items.length < 1000000) : PFun Tryz.prog Gl 67 [.sl (l.map eDef), .bool sv] fun r => r = .bool (vDefs l sv) := by
 (refine PFun.of hT Tryz.func67 rfl fun B hD => ?_; refine pw_norm rfl ?_)
 have hat : ∀ i, (l.getD i default).items.length < 1000000 := fun i => by
  rw [List.getD]
  cases h : l[i]? with
  | none => exact (by decide : (0 : Nat) < 1000000)
  | some x => exact hb x (List.mem_of_getElem? h)
 have hsm : Small l := by unfold Small; omega
 unfold vDefs
 (repeat' (first | refine zS ?_ | refine zq5 ?_ | refine zq6 ?_ | (refine zT ?_ ?_ <;> intro h <;> first | exact zX | refine zNq ?_)))
 refine pw_for hD (fun i : Nat => [(11, .int .i64 i)]) (fun _ => []) (fun i => i ≤ l.length ∧ ∀ j, j < i → dOk l sv j = true) (fun i => l.length - i) 0 ⟨Nat.zero_le _, fun j h => by omega⟩ 0 rfl (fun _ => rfl) zLes (fun _ => rfl) (fun _ => rfl) zLe ?_
 rintro i ⟨hi, hc⟩
 have hat := hat i
 (repeat' (first | refine zS ?_ | refine zq5 ?_ | refine zq6 ?_ | (refine zT ?_ ?_ <;> intro h <;> first | exact zX | refine zNq ?_)))
 ·have e : dOk l sv i = false := by
   unfold dOk
   rw [show dHead l i = false from by
    rw [Bool.eq_false_iff]
    intro q
    have q := (dHead_iff l i).1 q
    rcases h with ((h | h) | h) | h
    ·exact q (.inl (.inl (.inl h)))
    ·exact q (.inl (.inr (by omega)))
    ·exact q (.inr h)
    ·exact q (.inl (.inl (.inr h))), Bool.false_and]
  rw [dOk_fail (by omega) e, Bool.and_false]
  exact ret2 _ rfl rfl rfl
 ·have hh : dHead l i = true := (dHead_iff l i).2 (by
   rintro (((q | q) | q) | q)
   ·exact h (.inl (.inl (.inl q)))
   ·exact h (.inr q)
   ·exact h (.inl (.inl (.inr (by omega))))
   ·exact h (.inl (.inr q)))
  refine pw_for hD (fun k : Nat => [(43, .int .i64 k)]) (fun _ => [.box [.str (l.getD i default).name, .sl ((l.getD i default).items.map eItem)]]) (fun k => k ≤ (l.getD i default).items.length ∧ ∀ j, j < k → vItem ((l.getD i default).items.getD j default) sv = true) (fun k => (l.getD i default).items.length - k) 0 ⟨Nat.zero_le _, fun j h => by omega⟩ 1 rfl (fun _ => rfl) zLes (fun _ => rfl) (fun _ => rfl) zLe ?_
  rintro k ⟨hk, hkc⟩
  (repeat' (first | refine zS ?_ | refine zq5 ?_ | refine zq6 ?_ | (refine zT ?_ ?_ <;> intro h <;> first | exact zX | refine zNq ?_)))
  ·have e : dOk l sv i = false := by
    unfold dOk
    have : ((l.getD i default).items.all fun x => vItem x sv) = false := by
     rw [List.all_eq_false]
     exact ⟨_, getD_memD (by omega), h⟩
    rw [this, Bool.and_false]
   rw [dOk_fail (by omega) e, Bool.and_false]
   exact ret2 _ rfl rfl rfl
  ·refine ⟨k + 1, ⟨by omega, fun j hj => ?_⟩, by omega, zLe, zLes⟩
   rcases Nat.lt_succ_iff_lt_or_eq.1 hj with hj | rfl
   ·exact hkc j hj
   ·exact Decidable.not_not.1 h
  ·refine ⟨i + 1, ⟨by omega, fun j hj => ?_⟩, by omega, zLe, zLes⟩
   rcases Nat.lt_succ_iff_lt_or_eq.1 hj with hj | rfl
   ·exact hc j hj
   ·unfold dOk
    rw [hh, Bool.true_and]
    refine List.all_eq_true.2 fun x hx => ?_
    obtain ⟨n, hn⟩ := List.mem_iff_getElem?.1 hx
    have := hkc n (by have := (List.getElem?_eq_some_iff.1 hn).1; omega)
    rwa [List.getD, hn] at this
 ·rw [show (List.range l.length).all (dOk l sv) = true from List.all_eq_true.2 fun j hj => hc j (by have := List.mem_range.1 hj; omega), Bool.and_true]
  refine ret2 _ rfl ?_ rfl
  congr 1
  rw [decide_eq_decide]
  omega
theorem c_valid1 (n : Int) : PFun Tryz.prog Gl 70 [.int .i64 n] fun r => r = .bool (decide (n ≥ 0) && decide (n ≤ 65535)) := by
 (refine PFun.of hT Tryz.func70 rfl fun B hD => ?_; refine pw_norm rfl ?_)
 (repeat' (first | refine zS ?_ | refine zq5 ?_ | refine zq6 ?_ | (refine zT ?_ ?_ <;> intro h <;> first | exact zX | refine zNq ?_)))
 exact ret2 _ rfl rfl rfl
instance iValid1 (n : Int) : ConF Tryz.prog Gl 70 [.int .i64 n] True (.bool (decide (n ≥ 0) && decide (n ≤ 65535))) := ⟨e70, fun _ => c_valid1 n⟩
theorem c_valid2 (s : TStm) : PFun Tryz.prog Gl 72 [eStm s] fun r => r = .bool (!vStm s) := by
 (refine PFun.of hT Tryz.func72 rfl fun B hD => ?_; refine pw_norm rfl ?_)
 (repeat' (first | refine zS ?_ | (refine zT ?_ ?_ <;> intro h <;> first | exact zX | refine zNq ?_)))
 (refine pl_op rfl (op_fun (c_validStm s) rfl rfl e73 zLe rfl (fun r hr => ?_)); subst hr; refine ⟨rfl, ?_⟩; (refine zNp ?_))
 (repeat' (first | refine zS ?_ | (refine zT ?_ ?_ <;> intro h <;> first | exact zX | refine zNq ?_)))
 exact ret2 _ rfl rfl rfl
theorem c_idxStm (l : List TStm) (hl : l.length < 1000000) : PFun Tryz.prog Gl 120 [.sl (l.map eStm), .fn 72 []] fun r => r = .int .i64 (firstAt (fun s => !vStm s) l) := by
 (refine PFun.of hT Tryz.func120 rfl fun B hD => ?_; refine pw_norm rfl ?_)
 (repeat' (first | refine zS ?_ | (refine zT ?_ ?_ <;> intro h <;> first | exact zX | refine zNq ?_)))
 refine pw_for hD (fun i : Nat => [(8, .int .i64 i)]) (fun _ => []) (fun i => i ≤ l.length ∧ ∀ (j : Nat) d, j < i → l[j]? = some d → (!vStm d) = false) (fun i => l.length - i) 0 ⟨Nat.zero_le _, fun j d h => by omega⟩ 0 rfl (fun _ => rfl) zLes (fun _ => rfl) (fun _ => rfl) zLe ?_
 rintro i ⟨hi, hc⟩
 (repeat' (first | refine zS ?_ | (refine zT ?_ ?_ <;> intro h <;> first | exact zX | refine zNq ?_)))
 ·(refine pl_op rfl (op_fun (c_valid2 (l.getD i default)) rfl rfl e72 zLe rfl (fun r hr => ?_)); subst hr; refine ⟨rfl, ?_⟩; (refine zNp ?_))
  have hlt : i < l.length := by omega
  (repeat' (first | refine zS ?_ | (refine zT ?_ ?_ <;> intro h <;> first | exact zX | refine zNq ?_)))
  ·rw [firstAt_hit hlt (p := fun s => !vStm s) (by rw [List.getD, List.getElem?_eq_getElem hlt] at h; simpa using h) hc]
   exact ret2 _ rfl rfl rfl
  ·refine ⟨i + 1, ⟨by omega, fun j d hj hd => ?_⟩, by omega, zLe, zLes⟩
   rcases Nat.lt_succ_iff_lt_or_eq.1 hj with hj | rfl
   ·exact hc j d hj hd
   ·rw [List.getD, hd] at h; simpa using h
 ·rw [firstAt_miss fun j x hj => hc j x (by have := (List.getElem?_eq_some_iff.1 hj).1; omega) hj]
  exact ret2 _ rfl rfl rfl
theorem firstAt_all (l : List TStm) : (!decide (firstAt (fun s => !vStm s) l ≥ 0)) = l.all vStm := by
 unfold firstAt
 cases h : l.findIdx? fun s => !vStm s with
 | none =>
  rw [List.findIdx?_eq_none_iff] at h
  rw [List.all_eq_true.2 fun x hx => by simpa using h x hx]
  rfl
 | some k =>
  rw [List.findIdx?_eq_some_iff_getElem] at h
  obtain ⟨hk, h1, _⟩ := h
  rw [List.all_eq_false.2 ⟨l[k], List.getElem_mem hk, by simpa using h1⟩]
  show (!decide ((k : Int) ≥ 0)) = false
  rw [decide_eq_true (by omega)]
  rfl
instance iIdxStm (l : List TStm) : ConF Tryz.prog Gl 120 [.sl (l.map eStm), .fn 72 []] (l.length < 1000000) (.int .i64 (firstAt (fun s => !vStm s) l)) := ⟨e120, fun h => c_idxStm l h⟩
theorem c_hasStm (l : List TStm) (hl : l.length < 1000000) : PFun Tryz.prog Gl 71 [.sl (l.map eStm), .fn 72 []] fun r => r = .bool (decide (firstAt (fun s => !vStm s) l ≥ 0)) := by
 (refine PFun.of hT Tryz.func71 rfl fun B hD => ?_; refine pw_norm rfl ?_)
 (repeat' (first | refine zS ?_ | (refine zT ?_ ?_ <;> intro h <;> first | exact zX | refine zNq ?_)))
 exact ret2 _ rfl rfl rfl
instance iHasStm (l : List TStm) : ConF Tryz.prog Gl 71 [.sl (l.map eStm), .fn 72 []] (l.length < 1000000) (.bool (decide (firstAt (fun s => !vStm s) l ≥ 0))) := ⟨e71, fun h => c_hasStm l h⟩

end
end Go.Proofs.YtkaobkjcjodffaaGreatDoor