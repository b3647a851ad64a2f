/-
 Contracts of functions, walked over pure values.
-/
import Derived.Test.YtkaobkjcjodffaaGreatDoorKK47
import Derived.Test.YtkaobkjcjodffaaGreatDoorKP1
set_option maxHeartbeats 20000000
set_option maxRecDepth 100000
namespace Go.Proofs.YtkaobkjcjodffaaGreatDoor
open Go Go.Pw
section
variable {Gl : Glob}
attribute [local irreducible] PW PWL OpP PCalls PWO iValid wFormat PWT
def fmst (i : TInt) (out : List TLine) (cap : Nat) : List PObj := [.box (eIntent i).cells, .box [.msl 2 3 0 (out.map eLine).length cap], .box [.fn 58 [.ptr 1 0]], .arr 2 (out.map eLine) cap]
theorem c_format (hG : GT Gl) (hD' : GD Gl) (i : TInt) (hb : IBig i) (hi : IIn2 i) : PFun Tryz.prog Gl 28 [eIntent i] fun r => r = .tup [.str (iFormat i).1, .int .i64 (iFormat i).2] := by
 (refine PFun.of hT Tryz.func28 rfl fun B hD => ?_; refine pw_norm rfl ?_)
 (try refine zS ?_)
 (refine pl_op rfl (op_fun (c_iValid hD' i hb hi.wins) rfl rfl e29 zLe rfl (fun r hr => ?_)); subst hr; refine ⟨rfl, ?_⟩; (refine zNp ?_))
 (try refine zS ?_)
 refine zT ?_ ?_ <;> intro h <;> refine zNq ?_
 ·have e : iFormat i = ([], 1) := by unfold iFormat; rw [if_neg h]
  rw [e]
  (try refine zS ?_)
  exact ret2 _ rfl rfl rfl
 have h' : iValid i = true := Decidable.not_not.1 h
 have e : iFormat i = (textS (iLines i), 0) := by unfold iFormat; rw [if_pos h']
 rw [e]
 have hv := iValid_v h'
 have htl := iText_len hv hi.toIIn
 have hln := iLines_len hv
 have hfl := iLines_fl hv hi.toIIn
 clear e h h'
 have hl1 := hv.gs.len
 have hl2 := hv.ss.len
 have hl3 := hv.wl
 have hl4 := hv.sl
 have hl5 := hv.pl
 have hl6 := hv.hl
 have k1 : (lGroups i).length ≤ 32 := by simp only [lGroups, List.length_map]; omega
 have k2 : (lGroups i ++ lServices i).length ≤ 64 := by rw [List.length_append]; simp only [lServices, List.length_map]; omega
 have k3 : ((lGroups i ++ lServices i) ++ lWindows i).length ≤ 96 := by rw [List.length_append]; simp only [lWindows, List.length_map]; omega
 have k4 : (((lGroups i ++ lServices i) ++ lWindows i) ++ lStms i).length ≤ 160 := by rw [List.length_append]; simp only [lStms, List.length_map]; omega
 have k5 : ((((lGroups i ++ lServices i) ++ lWindows i) ++ lStms i) ++ lPubs i).length ≤ 176 := by rw [List.length_append]; simp only [lPubs, List.length_map]; omega
 have k6 : (iLines i).length ≤ 184 := hln
 (try refine zS ?_)
 refine pl_ghost 2 ?_
 (refine zNp ?_)
 refine pl_weaken (st' := fmst i [] 0) (Go.Pw.Le.refl _) ⟨.inl rfl, .inr (.inr ⟨_, _, rfl, rfl, .inr (.inr (.inr (.inl ⟨rfl, _, _, rfl⟩))), trivial⟩), .inl rfl, .inl rfl, trivial⟩ ?_
 unfold fmst
 (refine zNp ?_)
 (refine pl_op rfl (op_callA [1, 2, 3] rfl rfl e59 (by decide) rfl rfl rfl zLe zLes (c_define2 hG i.groups true [] 0 hl1 (by decide) (fun d hd => ⟨hv.gs.i2 d hd, fun x hx => vItem_f (hv.gs.items _ hd x hx) (hi.gits _ hd x hx)⟩)) (fun r s hq => ?_)); obtain ⟨rfl, cap, rfl⟩ := hq; refine ⟨rfl, rfl, ?_⟩; (refine zNp ?_))
 refine pl_nil ?_
 (refine pw_mv 3 6 hD rfl rfl rfl rfl rfl ?_; refine pw_norm rfl ?_)
 (refine pw_trim 4 hD rfl rfl ?_; refine pw_norm rfl ?_)
 refine pw_st (st' := fmst i (lGroups i) cap) rfl ?_
 unfold fmst
 refine zNq ?_
 (try refine zS ?_)
 (refine pl_op rfl (op_callA [1, 2, 3] rfl rfl e59 (by decide) rfl rfl rfl zLe zLes (c_define2 hG i.services false (lGroups i) cap hl2 (by omega) (fun d hd => ⟨hv.ss.i2 d hd, fun x hx => vItem_f (hv.ss.items _ hd x hx) (hi.sits _ hd x hx)⟩)) (fun r s hq => ?_)); obtain ⟨rfl, cap2, rfl⟩ := hq; refine ⟨rfl, rfl, ?_⟩; (refine zNp ?_))
 refine pl_nil ?_
 (refine pw_mv 3 6 hD rfl rfl rfl rfl rfl ?_; refine pw_norm rfl ?_)
 (refine pw_trim 4 hD rfl rfl ?_; refine pw_norm rfl ?_)
 refine pw_st (st' := fmst i (lGroups i ++ lServices i) cap2) rfl ?_
 unfold fmst
 refine zNq ?_
 (try refine zS ?_)
 refine zNq ?_
 refine pw_for hD (fun a : Nat × List TLine × Nat => [(34, .int .i64 a.1)]) (fun a => fmst i a.2.1 a.2.2) (fun a => a.1 ≤ i.windows.length ∧ a.2.1 ++ (i.windows.drop a.1).map (fun d => ln (winW d)) = (lGroups i ++ lServices i) ++ lWindows i) (fun a => i.windows.length - a.1) (0, lGroups i ++ lServices i, cap2) ⟨Nat.zero_le _, rfl⟩ 4 rfl (fun _ => rfl) (by unfold fmst; (exact zLes)) (fun _ => rfl) (fun _ => rfl) (by (exact zLe)) ?_
 rintro ⟨k, out, cap⟩ ⟨hk, hw⟩
 dsimp only at hk hw ⊢
 have ho := outLen hw
 unfold fmst
 refine zNq ?_
 (try refine zS ?_)
 refine zT ?_ ?_ <;> intro h <;> refine zNq ?_
 ·have hlt : k < i.windows.length := by omega
  have hw2 := selD (fun d => ln (winW d)) i.windows k hlt out _ hw
  have hm := getD_memD hlt
  have hwo := wOk_len (hv.wok _ hm)
  obtain ⟨hw3, hw4⟩ := hi.wins _ hm
  (try refine zS ?_)
  refine zDr [[0,1,2,4],[3,5,6]] ?_
  refine zDn ?_
  (refine zDgo ?_)
  (refine po_step rfl rfl (op_litm hT rfl rfl rfl rfl rfl (by decide) rfl rfl rfl rfl ⟨zLok, ?_⟩); refine zDn ?_)
  (refine po_step rfl rfl (op_appendF (b := 16) hT rfl rfl rfl rfl (by simp) rfl (by first | rfl | (simp only [List.all_map]; exact List.all_eq_true.2 fun _ _ => rfl)) (by first | rfl | (simp only [List.all_map]; exact List.all_eq_true.2 fun _ _ => rfl)) (by simp only [List.length_map, List.length_cons, List.length_nil]; omega) ⟨(by (repeat (first | exact True.intro | refine ⟨.inr rfl, ?_⟩ | refine ⟨.inl (by decide +kernel), ?_⟩))), ?_⟩); (first | refine po_norm rfl ?_ | refine po_normE rfl ?_))
  (refine po_step rfl rfl (op_callA [1, 3] rfl rfl e58 (by decide) rfl rfl rfl zLe zLes (c_add1 (winW (i.windows.getD k default)) out cap (by omega)) (fun r s hq => ?_)); obtain ⟨rfl, cap', rfl⟩ := hq; refine ⟨rfl, rfl, zLok, ?_⟩; refine zDn ?_)
  (refine zDgo ?_)
  (refine pw_mv 3 8 hD rfl rfl rfl rfl rfl ?_; refine pw_norm rfl ?_)
  (try refine zS ?_)
  refine ⟨(k + 1, out ++ [ln (winW (i.windows.getD k default))], cap'), ⟨hlt, hw2⟩, by dsimp only; omega, ?_, ?_⟩
  ·(exact zLe)
  ·(try unfold fmst)
   (exact zLes)
 have hz : k = i.windows.length := by omega
 have hout := outEnd hw (by omega)
 subst hz hout
 clear hw ho h hk
 (try refine zS ?_)
 refine zNq ?_
 refine pw_for hD (fun a : Nat × List TLine × Nat => [(55, .int .i64 a.1)]) (fun a => fmst i a.2.1 a.2.2) (fun a => a.1 ≤ i.stms.length ∧ a.2.1 ++ (i.stms.drop a.1).map (fun d => ln (stmW d)) = ((lGroups i ++ lServices i) ++ lWindows i) ++ lStms i) (fun a => i.stms.length - a.1) (0, (lGroups i ++ lServices i) ++ lWindows i, cap) ⟨Nat.zero_le _, rfl⟩ 4 rfl (fun _ => rfl) (by unfold fmst; (exact zLes)) (fun _ => rfl) (fun _ => rfl) (by (exact zLe)) ?_
 rintro ⟨k, out, cap⟩ ⟨hk, hw⟩
 dsimp only at hk hw ⊢
 have ho := outLen hw
 unfold fmst
 refine zNq ?_
 (try refine zS ?_)
 refine zT ?_ ?_ <;> intro h <;> refine zNq ?_
 ·have hlt : k < i.stms.length := by omega
  have hw2 := selD (fun d => ln (stmW d)) i.stms k hlt out _ hw
  have hm := getD_memD hlt
  have hpr := stm_prio (hv.stms _ hm)
  (try refine zS ?_)
  refine zDr [[0,1],[2,3]] ?_
  refine zDn ?_
  refine zD ?_
  (refine po_step rfl rfl (op_callA [1, 3] rfl rfl e58 (by decide) rfl rfl rfl zLe zLes (c_add1 (stmW (i.stms.getD k default)) out cap (by omega)) (fun r s hq => ?_)); obtain ⟨rfl, cap', rfl⟩ := hq; refine ⟨rfl, rfl, zLok, ?_⟩; refine zDn ?_)
  (refine zDgo ?_)
  (refine pw_mv 3 6 hD rfl rfl rfl rfl rfl ?_; refine pw_norm rfl ?_)
  (try refine zS ?_)
  refine ⟨(k + 1, out ++ [ln (stmW (i.stms.getD k default))], cap'), ⟨hlt, hw2⟩, by dsimp only; omega, ?_, ?_⟩
  ·(exact zLe)
  ·(try unfold fmst)
   (exact zLes)
 have hz : k = i.stms.length := by omega
 have hout := outEnd hw (by omega)
 subst hz hout
 clear hw ho h hk
 (try refine zS ?_)
 refine zNq ?_
 refine pw_for hD (fun a : Nat × List TLine × Nat => [(67, .int .i64 a.1)]) (fun a => fmst i a.2.1 a.2.2) (fun a => a.1 ≤ i.pubs.length ∧ a.2.1 ++ (i.pubs.drop a.1).map (fun d => ln (pubW d)) = (((lGroups i ++ lServices i) ++ lWindows i) ++ lStms i) ++ lPubs i) (fun a => i.pubs.length - a.1) (0, ((lGroups i ++ lServices i) ++ lWindows i) ++ lStms i, cap) ⟨Nat.zero_le _, rfl⟩ 4 rfl (fun _ => rfl) (by unfold fmst; (exact zLes)) (fun _ => rfl) (fun _ => rfl) (by (exact zLe)) ?_
 rintro ⟨k, out, cap⟩ ⟨hk, hw⟩
 dsimp only at hk hw ⊢
 have ho := outLen hw
 unfold fmst
 refine zNq ?_
 (try refine zS ?_)
 refine zT ?_ ?_ <;> intro h <;> refine zNq ?_
 ·have hlt : k < i.pubs.length := by omega
  have hw2 := selD (fun d => ln (pubW d)) i.pubs k hlt out _ hw
  have hm := getD_memD hlt
  obtain ⟨hp1, hp2, hp3, _⟩ := pub_f (hv.pubs _ hm)
  obtain ⟨hp4, hp5⟩ := hi.pins _ hm
  (try refine zS ?_)
  refine pw_joinX hD (fun _ : Unit => True) (fun _ => [(15, .str (if (i.pubs.getD k default).proto = 17 then [117, 100, 112] else [116, 99, 112])), (73, .any)]) (fun _ => fmst i out cap ++ [.box (ePub (i.pubs.getD k default)).cells]) 5 rfl (fun _ => rfl) (fun _ => rfl) (fun _ => rfl) ?_ ?_
  ·refine zT ?_ ?_ <;> intro h1 <;> refine zNq ?_
   ·rw [if_pos h1]
    (try refine zS ?_)
    exact ⟨(), trivial, by (exact zLe), by unfold fmst; (exact zLes)⟩
   ·rw [if_neg h1]
    (try refine zS ?_)
    exact ⟨(), trivial, by (exact zLe), by unfold fmst; (exact zLes)⟩
  rintro _ _
  unfold fmst
  refine zNq ?_
  (try refine zS ?_)
  refine zDr [[0,1,2,4,5,6,8,9,10,11,13,14],[3,7,12,15],[16],[17]] ?_
  refine zDn ?_
  refine zD ?_
  (refine po_step rfl rfl (op_callA [1, 3] rfl rfl e58 (by decide) rfl rfl rfl zLe zLes (c_add1 (pubW (i.pubs.getD k default)) out cap (by omega)) (fun r s hq => ?_)); obtain ⟨rfl, cap', rfl⟩ := hq; refine ⟨rfl, rfl, zLok, ?_⟩; refine zDn ?_)
  (refine zDgo ?_)
  (refine pw_mv 3 6 hD rfl rfl rfl rfl rfl ?_; refine pw_norm rfl ?_)
  (try refine zS ?_)
  refine ⟨(k + 1, out ++ [ln (pubW (i.pubs.getD k default))], cap'), ⟨hlt, hw2⟩, by dsimp only; omega, ?_, ?_⟩
  ·(exact zLe)
  ·(try unfold fmst)
   (exact zLes)
 have hz : k = i.pubs.length := by omega
 have hout := outEnd hw (by omega)
 subst hz hout
 clear hw ho h hk
 (try refine zS ?_)
 refine zNq ?_
 refine pw_for hD (fun a : Nat × List TLine × Nat => [(96, .int .i64 a.1)]) (fun a => fmst i a.2.1 a.2.2) (fun a => a.1 ≤ i.hids.length ∧ a.2.1 ++ (i.hids.drop a.1).map (fun d => ln (hidW d)) = iLines i) (fun a => i.hids.length - a.1) (0, (((lGroups i ++ lServices i) ++ lWindows i) ++ lStms i) ++ lPubs i, cap) ⟨Nat.zero_le _, rfl⟩ 4 rfl (fun _ => rfl) (by unfold fmst; (exact zLes)) (fun _ => rfl) (fun _ => rfl) (by (exact zLe)) ?_
 rintro ⟨k, out, cap⟩ ⟨hk, hw⟩
 dsimp only at hk hw ⊢
 have ho := outLen hw
 unfold fmst
 refine zNq ?_
 (try refine zS ?_)
 refine zT ?_ ?_ <;> intro h <;> refine zNq ?_
 ·have hlt : k < i.hids.length := by omega
  have hw2 := selD (fun d => ln (hidW d)) i.hids k hlt out _ hw
  have hm := getD_memD hlt
  obtain ⟨hp1, hp2, hp3⟩ := hid_f (hv.hids _ hm)
  have hp4 := hid_pin (hv.hids _ hm)
  have hp5 := hi.hins _ hm
  (try refine zS ?_)
  refine zDr [[0,1,2,3,4,5,6,8,9],[7,10],[11],[12]] ?_
  refine zDn ?_
  refine zD ?_
  (refine po_step rfl rfl (op_callA [1, 3] rfl rfl e58 (by decide) rfl rfl rfl zLe zLes (c_add1 (hidW (i.hids.getD k default)) out cap (by omega)) (fun r s hq => ?_)); obtain ⟨rfl, cap', rfl⟩ := hq; refine ⟨rfl, rfl, zLok, ?_⟩; refine zDn ?_)
  (refine zDgo ?_)
  (refine pw_mv 3 6 hD rfl rfl rfl rfl rfl ?_; refine pw_norm rfl ?_)
  (try refine zS ?_)
  refine ⟨(k + 1, out ++ [ln (hidW (i.hids.getD k default))], cap'), ⟨hlt, hw2⟩, by dsimp only; omega, ?_, ?_⟩
  ·(exact zLe)
  ·(try unfold fmst)
   (exact zLes)
 have hz : k = i.hids.length := by omega
 have hout := outEnd hw (by omega)
 subst hz hout
 clear hw ho h hk
 (try refine zS ?_)
 have hj := c80g (Gl := Gl) (iLines i) (by omega) (fun x hx => ⟨fun e => by have := (hfl x hx).some; rw [e] at this; exact absurd this (by decide), by have := (hfl x hx).few; omega⟩) (by omega)
 (refine pl_op rfl (op_lend0 hj rfl rfl e66 ⟨.inr (.inr (.inr (.inl ⟨_, _, _, _, _, _, rfl, rfl, rfl, rfl, rfl⟩))), trivial⟩ rfl (fun r hr => ?_)); subst hr; refine ⟨rfl, ?_⟩; (refine zNp ?_))
 (try refine zS ?_)
 exact ret2 _ rfl rfl rfl
end
section
variable {Gl : Glob}
attribute [local irreducible] PW PWL OpP PCalls PWO PWT
theorem subnets_ok : ∀ p ∈ subnets, rvalid p = true := by decide
theorem rvalid_of {a b s : Int} (hb : 0 ≤ b ∧ b ≤ 32) (hs : rsize b = s) (_h0 : 0 < s) (ha : 0 ≤ a ∧ a < 4294967296) (hm : a % s = 0) : rvalid ⟨a, b⟩ = true := by
 unfold rvalid
 dsimp only
 rw [hs, IntKind.wrap_u64, decide_eq_true hb.1, decide_eq_true hb.2]
 have e : a % 18446744073709551616 = a := Int.emod_eq_of_lt ha.1 (by omega)
 rw [e, Int.tmod_eq_emod_of_nonneg ha.1, hm]
 rfl
theorem shift_ok {a s : Int} (ha : 0 ≤ a ∧ a < 4294967296) (h0 : 0 < s) : (0 ≤ a / s * s ∧ a / s * s < 4294967296) ∧ a / s * s % s = 0 := by
 have h1 : a / s * s ≤ a := Int.ediv_mul_le a (by omega)
 have h2 : 0 ≤ a / s := Int.ediv_nonneg ha.1 (by omega)
 exact ⟨⟨Int.mul_nonneg h2 (by omega), by omega⟩, Int.mul_emod_left _ _⟩
theorem prefix_ok {a b : Int} (ha : 0 ≤ a ∧ a < 4294967296) (hb : b ∈ someBits) (h : b < 32) : rvalid ⟨IntKind.u32.wrap (a.fdiv (2 ^ (min (32 - b).toNat IntKind.u32.bits)) * 2 ^ (min (32 - b).toNat IntKind.u32.bits)), b⟩ = true := by
 have key : ∀ (s : Int), 0 < s → (2 : Int) ^ (min (32 - b).toNat IntKind.u32.bits) = s → rsize b = s → 0 ≤ b → rvalid ⟨IntKind.u32.wrap (a.fdiv (2 ^ (min (32 - b).toNat IntKind.u32.bits)) * 2 ^ (min (32 - b).toNat IntKind.u32.bits)), b⟩ = true := by
  intro s h0 h1 h2 h3
  rw [h1, Int.fdiv_eq_ediv_of_nonneg a (by omega), IntKind.wrap_u32]
  have := shift_ok (s := s) ha h0
  rw [Int.emod_eq_of_lt this.1.1 this.1.2]
  exact rvalid_of ⟨h3, by omega⟩ h2 h0 this.1 this.2
 simp only [someBits, List.mem_cons, List.mem_nil_iff, or_false] at hb
 rcases hb with rfl | rfl | rfl | rfl | rfl | rfl | rfl | rfl | rfl | rfl
 ·omega
 all_goals exact key _ (by decide) rfl (by decide) (by decide)
theorem c_gPrefix (l : List Int) (hl : Tp l) (i : Nat) (hi : i ≤ l.length) : Gen Gl 37 [] l i fun r => ∃ p : TPfx, (PfxIn p ∧ rvalid p = true) ∧ r = ePfx p := by
 refine PCalls.of hT Tryz.func37 rfl 1 (Nat.le_refl _) fun B hD => ?_
 refine pw_norm rfl ?_
 (refine zGo ?_)
 (refine pl_op rfl (op_call [0] rfl rfl e17 (by decide) rfl rfl rfl zLe zLes (c13n l hl i hi 3 (by decide) (by decide)) (fun r s hq => ?_)); obtain ⟨i1, ⟨m1, hm1, rfl⟩, hi1, rfl⟩ := hq; refine ⟨rfl, rfl, ?_⟩; (refine zNp ?_))
 (refine zGo ?_)
 refine pw_cond rfl (fun h => ?_) (fun h => ?_)
 ·(refine zGo ?_)
  (refine pl_op rfl (op_call [0] rfl rfl e17 (by decide) rfl rfl rfl zLe zLes (c13n l hl i1 hi1 6 (by decide) (by decide)) (fun r s hq => ?_)); obtain ⟨i2, ⟨m2, hm2, rfl⟩, hi2, rfl⟩ := hq; refine ⟨rfl, rfl, ?_⟩; (refine zNp ?_))
  (refine pl_op rfl (op_fun (c37 m2) rfl rfl e43 zLe rfl (fun r hr => ?_)); obtain ⟨p, hp, rfl⟩ := hr; refine ⟨rfl, ?_⟩; (refine zNp ?_))
  (refine zGo ?_)
  exact ⟨_, _, _, rfl, ⟨i2, ⟨p, ⟨subnets_in hp, subnets_ok p hp⟩, rfl⟩, hi2, rfl⟩, .inr (.inl rfl), ⟨.inr (.inl rfl), trivial⟩, rfl, rfl⟩
 ·(refine zGo ?_)
  (refine pl_op rfl (op_call [0] rfl rfl e17 (by decide) rfl rfl rfl zLe zLes (c13n l hl i1 hi1 10 (by decide) (by decide)) (fun r s hq => ?_)); obtain ⟨i2, ⟨m2, hm2, rfl⟩, hi2, rfl⟩ := hq; refine ⟨rfl, rfl, ?_⟩; (refine zNp ?_))
  (refine pl_op rfl (op_of (v_index (p := .int .i64 (someBits.getD m2 0)) hT rfl rfl rfl rfl (by omega) (lit_at (.int .i64) someBits m2 0 hm2) rfl) ?_); (refine zNp ?_))
  have hb : 0 ≤ someBits.getD m2 0 ∧ someBits.getD m2 0 ≤ 32 := by
   have : ∀ b ∈ someBits, 0 ≤ b ∧ b ≤ 32 := by decide
   exact this _ (getD_mem hm2)
  have hbm : someBits.getD m2 0 ∈ someBits := getD_mem hm2
  generalize someBits.getD m2 0 = bits at hb hbm ⊢
  (refine zGo ?_)
  (refine pl_op rfl (op_call [0] rfl rfl e57 (by decide) rfl rfl rfl zLe zLes (c22 l hl i2 hi2) (fun r s hq => ?_)); obtain ⟨i3, ⟨a, ha, rfl⟩, hi3, rfl⟩ := hq; refine ⟨rfl, rfl, ?_⟩; (refine zNp ?_))
  (refine zGo ?_)
  refine pw_cond rfl (fun h2 => ?_) (fun h2 => ?_)
  ·simp only [decide_eq_true_eq] at h2
   (refine zGo ?_)
   (refine pl_op rfl (op_of (v_conv (c := 32 - bits) hT rfl rfl rfl rfl (IntWalk.u64_in _ (by omega))) ?_); (refine zNp ?_))
   (refine pl_op rfl (op_of (v_shr rfl rfl rfl (by omega) rfl) ?_); (refine zNp ?_))
   (refine zGo ?_)
   (refine pl_op rfl (op_of (v_conv (c := 32 - bits) hT rfl rfl rfl rfl (IntWalk.u64_in _ (by omega))) ?_); (refine zNp ?_))
   (refine pl_op rfl (op_of (v_shl rfl rfl rfl (by omega) rfl) ?_); (refine zNp ?_))
   (refine zGo ?_)
   exact ⟨_, _, _, rfl, ⟨i3, ⟨⟨_, bits⟩, ⟨u32_range _, prefix_ok ha hbm h2⟩, rfl⟩, hi3, rfl⟩, .inr (.inl rfl), ⟨.inr (.inl rfl), trivial⟩, rfl, rfl⟩
  ·simp only [decide_eq_false_iff_not] at h2
   obtain rfl : bits = 32 := by omega
   (refine zGo ?_)
   exact ⟨_, _, _, rfl, ⟨i3, ⟨⟨a, 32⟩, ⟨ha, rvalid_of (by decide) (by decide) (by decide) ha (Int.emod_one a)⟩, rfl⟩, hi3, rfl⟩, .inr (.inl rfl), ⟨.inr (.inl rfl), trivial⟩, rfl, rfl⟩

end
end Go.Proofs.YtkaobkjcjodffaaGreatDoor