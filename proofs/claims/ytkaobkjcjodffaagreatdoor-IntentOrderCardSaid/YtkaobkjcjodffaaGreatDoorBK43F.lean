/-
 Contracts of functions, walked over pure values.
-/
import Derived.Test.YtkaobkjcjodffaaGreatDoorBK38
import Derived.Test.YtkaobkjcjodffaaGreatDoorBK43A
import Derived.Test.YtkaobkjcjodffaaGreatDoorBK11
import Derived.Test.YtkaobkjcjodffaaGreatDoorBM5
import Derived.Test.YtkaobkjcjodffaaGreatDoorBK20
import Derived.Test.YtkaobkjcjodffaaGreatDoorBC6
set_option maxHeartbeats 20000000
set_option maxRecDepth 100000
namespace Go.Proofs.YtkaobkjcjodffaaGreatDoor
open Go Go.Pw
section
variable {Gl : Glob}
attribute [local irreducible] PW PWL OpP PCalls PWO wParse PWT bothT
theorem gI5 (l : List Int) (hl : Tp l) (x : Topo) (n : Nat) (hx : x.edges.length < 900) (hxe : ∀ e ∈ x.edges, PfxIn e.pfx) (h6 : GI6 Gl l x n) : GI5 Gl l x n := by
 intro B j hD gs hgs ss hss ws hws sts hstl hsts cs c4 c5 ja hja
 unfold hst genv
 refine pw_code rfl ?_
 refine zNq ?_
 refine zNq ?_
 refine pw_seq ?_
 refine pw_joinX hD (fun a : Nat × List TPub × Nat => a.1 ≤ l.length ∧ a.2.1.length ≤ 1 ∧ ∀ p ∈ a.2.1, PubG x p) (fun _ => [])
  (fun a => [tape l a.1, .box (eTopo x).cells, gI0, .box [.sl (gs.map eDef), .sl (ss.map eDef), .sl (ws.map eWin), .msl 10 7 0 (sts.map eStm).length cs, .msl 6 11 0 (a.2.1.map ePub).length a.2.2, .msl 5 9 0 (([] : List THid).map eHid).length c5],
   .dead, .dead, .dead, .arr 10 (sts.map eStm) cs, .dead, .arr 5 (([] : List THid).map eHid) c5, .dead, .arr 6 (a.2.1.map ePub) a.2.2]) 12 rfl (fun _ => rfl) (fun _ => rfl) (fun _ => rfl) ?_ ?_
 ·(repeat' (first | refine zS ?_ | refine zq5 ?_ | refine zq6 ?_))
  refine pl_split 190 rfl (fun hw => ?_) (fun hw => ?_)
  ·have hw0 : 1 < x.edges.length := by simp at hw; omega
   have hx0 : (x.edges.map eEdge)[(0 : Int).toNat]? = some (eEdge (x.edges.getD 0 gedge0)) := by
    show (x.edges.map eEdge)[0]? = _
    rw [List.getElem?_map, List.getD, List.getElem?_eq_getElem (by omega)]; rfl
   have hx1 : (x.edges.map eEdge)[(1 : Int).toNat]? = some (eEdge (x.edges.getD 1 gedge0)) := by
    show (x.edges.map eEdge)[1]? = _
    rw [List.getElem?_map, List.getD, List.getElem?_eq_getElem hw0]; rfl
   (repeat' (first | refine zS ?_ | refine zq5 ?_ | refine zq6 ?_))
   (refine pl_on rfl rfl (zCl [0] e17 (c13n l hl ja hja 2 (by decide) (by decide)) (fun r s hq => ?_)); obtain ⟨jp, ⟨mp, hmp, rfl⟩, hjp, rfl⟩ := hq; refine ⟨rfl, rfl, ?_⟩; (refine zNp ?_))
   (repeat' (first | refine zS ?_ | refine zq5 ?_ | refine zq6 ?_))
   refine zT ?_ ?_ <;> intro h1 <;> refine zNq ?_
   ·(repeat' (first | refine zS ?_ | refine zq5 ?_ | refine zq6 ?_))
    (refine pl_op rfl (op_of (v_index (p := eEdge (x.edges.getD 1 gedge0)) hT rfl rfl rfl rfl (by omega) (hx1) rfl) ?_); (refine zNp ?_))
    (repeat' (first | refine zS ?_ | refine zq5 ?_ | refine zq6 ?_))
    have hro := rof_range (hxe _ (getD_mem (d := gedge0) hw0))
    (refine pl_op rfl (op_fun (c54 (x.edges.getD 1 gedge0).pfx) rfl rfl e41 zLe rfl (fun r hr => ?_)); subst hr; refine ⟨rfl, ?_⟩; (refine zNp ?_))
    generalize rof (x.edges.getD 1 gedge0).pfx = ro at hro ⊢
    (repeat' (first | refine zS ?_ | refine zq5 ?_ | refine zq6 ?_))
    refine zDr [[0,1,2,3,7,10,11,12,13,14,15,16,17],[4],[5,6],[8],[9],[18],[19,20,21],[22],[23],[24]] ?_
    refine zDn ?_
    refine zD ?_
    (refine po_val rfl rfl (v_index (p := eEdge (x.edges.getD 0 gedge0)) hT rfl rfl rfl rfl (by decide) hx0 rfl) ?_; refine zDn ?_)
    refine zD ?_
    (refine po_step rfl rfl (zCl [0] e17 (c13n l hl jp hjp 2 (by decide) (by decide)) (fun r s hq => ?_)); obtain ⟨j5, ⟨m5, hm5, rfl⟩, hj5, rfl⟩ := hq; refine ⟨rfl, rfl, zLok, ?_⟩; refine zDn ?_)
    (refine po_val rfl rfl (v_index (p := .int .i64 (protos2.getD m5 0)) hT rfl rfl rfl rfl (by omega) (lit_at (.int .i64) protos2 m5 0 hm5) rfl) ?_; refine zDn ?_)
    refine zD ?_
    (refine po_step rfl rfl (zCl [0] e42 (c_gNumber l hl j5 hj5 65535 (by decide) (by decide)) (fun r s hq => ?_)); obtain ⟨j6, ⟨v1, hv1, rfl⟩, hj6, rfl⟩ := hq; refine ⟨rfl, rfl, zLok, ?_⟩; refine zDn ?_)
    refine zD ?_
    (refine po_step rfl rfl (zCl [0] e42 (c_gNumber l hl j6 hj6 65535 (by decide) (by decide)) (fun r s hq => ?_)); obtain ⟨j7, ⟨v2, hv2, rfl⟩, hj7, rfl⟩ := hq; refine ⟨rfl, rfl, zLok, ?_⟩; refine zDn ?_)
    refine zD ?_
    (refine po_step rfl rfl (op_append (b := 56) hT rfl rfl rfl rfl rfl rfl (.inl (Nat.zero_lt_succ _)) rfl rfl (by simp) (fun cap1 _ hcap => ⟨zLok, ?_⟩)); refine zDn ?_)
    refine zD ?_
    have hp2 : protos2.getD m5 0 = 6 ∨ protos2.getD m5 0 = 17 := by
     have := getD_mem (L := protos2) (d := 0) hm5
     simpa only [protos2, List.mem_cons, List.mem_nil_iff, or_false] using this
    exact ⟨(j7, [⟨3405803781, protos2.getD m5 0, v1, (x.edges.getD 0 gedge0).name, ro.1, v2⟩], cap1), ⟨hj7, Nat.le_refl _, fun p hp => by
     rw [List.mem_singleton.1 hp]
     exact ⟨hp2, hv1, hv2, ⟨_, getD_mem (d := gedge0) (by omega), rfl⟩, ⟨(by decide : (0 : Int) ≤ 3405803781), (by decide : (3405803781 : Int) < 4294967296)⟩, hro.1⟩⟩, zLe, zLes⟩
   ·refine pw_ghost 6 ?_
    refine pw_ghost 6 ?_
    refine zNq ?_
    (refine pw_mv 11 8 hD rfl rfl rfl rfl rfl ?_; refine pw_norm rfl ?_)
    (repeat' (first | refine zS ?_ | refine zq5 ?_ | refine zq6 ?_))
    exact ⟨(jp, [], c4), ⟨hjp, Nat.zero_le _, by simp⟩, zLe, zLes⟩
  ·refine pl_ghost 6 ?_
   refine pl_ghost 6 ?_
   (refine zNp ?_)
   (refine pl_mv 11 8 hD rfl rfl rfl rfl rfl ?_; (first | refine pl_norm rfl ?_ | refine pl_normE rfl ?_))
   (repeat' (first | refine zS ?_ | refine zq5 ?_ | refine zq6 ?_))
   exact ⟨(ja, [], c4), ⟨hja, Nat.zero_le _, by simp⟩, zLe, zLes⟩
 rintro ⟨jq, pubs, cp⟩ ⟨hjq, hpl, hpub⟩
 dsimp only at hjq hpl hpub ⊢
 refine zNq ?_
 (refine pw_mv 8 11 hD rfl rfl rfl rfl rfl ?_; refine pw_norm rfl ?_)
 (refine pw_trim 10 hD rfl rfl ?_; refine pw_norm rfl ?_)
 refine pw_less (st' := hst l x ⟨gs, ss, ws, sts, pubs, []⟩ cs cp c5 jq) (env' := genv x n) zLe (by unfold hst; (exact zLes)) (h6 B j hD gs hgs ss hss ws hws sts hstl hsts pubs hpl hpub cs cp _ jq hjq)
theorem gI6 (l : List Int) (hl : Tp l) (x : Topo) (n : Nat) (hx : x.edges.length < 900) : GI6 Gl l x n := by
 intro B j hD gs hgs ss hss ws hws sts hstl hsts pubs hpl hpub cs cp c5 jq hjq
 unfold hst genv
 refine pw_code rfl ?_
 refine zNq ?_
 refine zNq ?_
 refine pw_seq ?_
 refine pw_joinX hD (fun a : Nat × List THid × Nat => a.1 ≤ l.length ∧ a.2.1.length ≤ 1 ∧ ∀ p ∈ a.2.1, HidG x p) (fun _ => [])
  (fun a => [tape l a.1, .box (eTopo x).cells, gI0, .box [.sl (gs.map eDef), .sl (ss.map eDef), .sl (ws.map eWin), .msl 10 7 0 (sts.map eStm).length cs, .msl 6 8 0 (pubs.map ePub).length cp, .msl 5 10 0 (a.2.1.map eHid).length a.2.2],
   .dead, .dead, .dead, .arr 10 (sts.map eStm) cs, .arr 6 (pubs.map ePub) cp, .dead, .arr 5 (a.2.1.map eHid) a.2.2]) 11 rfl (fun _ => rfl) (fun _ => rfl) (fun _ => rfl) ?_ ?_
 ·(repeat' (first | refine zS ?_ | refine zq5 ?_ | refine zq6 ?_))
  refine pl_split 232 rfl (fun hw => ?_) (fun hw => ?_)
  ·have hw0 : 0 < x.edges.length := by simp at hw; omega
   (repeat' (first | refine zS ?_ | refine zq5 ?_ | refine zq6 ?_))
   (refine pl_on rfl rfl (zCl [0] e17 (c13n l hl jq hjq 3 (by decide) (by decide)) (fun r s hq => ?_)); obtain ⟨jp, ⟨mp, hmp, rfl⟩, hjp, rfl⟩ := hq; refine ⟨rfl, rfl, ?_⟩; (refine zNp ?_))
   (repeat' (first | refine zS ?_ | refine zq5 ?_ | refine zq6 ?_))
   refine zT ?_ ?_ <;> intro h1 <;> refine zNq ?_
   ·(repeat' (first | refine zS ?_ | refine zq5 ?_ | refine zq6 ?_))
    (refine pl_op rfl (zCl [0] e17 (c13n l hl jp hjp x.edges.length hw0 (by omega)) (fun r s hq => ?_)); obtain ⟨j5, ⟨m5, hm5, rfl⟩, hj5, rfl⟩ := hq; refine ⟨rfl, rfl, ?_⟩; (refine zNp ?_))
    (repeat' (first | refine zS ?_ | refine zq5 ?_ | refine zq6 ?_))
    refine zDr [[0,1,2,3,4,5,6,7,8],[9],[10,11,12,13,14],[15],[16],[17]] ?_
    refine zDn ?_
    refine zD ?_
    (refine po_val rfl rfl (v_index (p := eEdge (x.edges.getD m5 gedge0)) hT rfl rfl rfl rfl (by omega) (lit_at eEdge x.edges m5 gedge0 hm5) rfl) ?_; refine zDn ?_)
    refine zD ?_
    (refine po_step rfl rfl (zCl [0] e17 (c13n l hl j5 hj5 40 (by decide) (by decide)) (fun r s hq => ?_)); obtain ⟨j6, ⟨m6, hm6, rfl⟩, hj6, rfl⟩ := hq; refine ⟨rfl, rfl, zLok, ?_⟩; refine zDn ?_)
    refine zD ?_
    (refine po_step rfl rfl (op_append (b := 48) hT rfl rfl rfl rfl rfl rfl (.inl (Nat.zero_lt_succ _)) rfl rfl (by simp) (fun cap1 _ hcap => ⟨zLok, ?_⟩)); refine zDn ?_)
    refine zD ?_
    exact ⟨(j6, [⟨[103, 49], (x.edges.getD m5 gedge0).name, 3325256705, ⟨1024, 1024 + (m6 : Int)⟩⟩], cap1), ⟨hj6, Nat.le_refl _, fun p hp => by
     rw [List.mem_singleton.1 hp]
     exact ⟨rfl, ⟨_, getD_mem (d := gedge0) hm5, rfl⟩, ⟨(by decide : (0 : Int) ≤ 3325256705), (by decide : (3325256705 : Int) < 4294967296)⟩, rfl, by dsimp only; omega, by dsimp only; omega⟩⟩, zLe, zLes⟩
   ·refine pw_ghost 5 ?_
    refine zNq ?_
    (refine pw_mv 10 9 hD rfl rfl rfl rfl rfl ?_; refine pw_norm rfl ?_)
    (repeat' (first | refine zS ?_ | refine zq5 ?_ | refine zq6 ?_))
    exact ⟨(jp, [], c5), ⟨hjp, Nat.zero_le _, by simp⟩, zLe, zLes⟩
  ·refine pl_ghost 5 ?_
   (refine zNp ?_)
   (refine pl_mv 10 9 hD rfl rfl rfl rfl rfl ?_; (first | refine pl_norm rfl ?_ | refine pl_normE rfl ?_))
   (repeat' (first | refine zS ?_ | refine zq5 ?_ | refine zq6 ?_))
   exact ⟨(jq, [], c5), ⟨hjq, Nat.zero_le _, by simp⟩, zLe, zLes⟩
 rintro ⟨jr, hids, ch⟩ ⟨hjr, hhl, hhid⟩
 dsimp only at hjr hhl hhid ⊢
 refine zNq ?_
 (repeat' (first | refine zS ?_ | refine zq5 ?_ | refine zq6 ?_))
 exact ⟨_, _, _, rfl, ⟨jr, ⟨⟨gs, ss, ws, sts, pubs, hids⟩, ⟨hgs, hss, hws, hstl, fun s hs => (hsts s hs).cong rfl rfl rfl, hpl, hpub, hhl, hhid⟩, rfl⟩, hjr, rfl⟩, by (refine .inr (.inr (.inr (.inr (.inl ⟨_, _, rfl, rfl, ?_⟩)))); (repeat (first | exact True.intro | refine ⟨.inr (.inl rfl), ?_⟩ | refine ⟨.inr (.inr (.inl ⟨rfl, rfl⟩)), ?_⟩ | refine ⟨.inr (.inr (.inr (.inl ⟨_, _, _, _, _, _, rfl, rfl, rfl, rfl, rfl⟩))), ?_⟩ | refine ⟨.inr (.inr (.inr (.inl ⟨_, _, _, _, _, _, rfl, rfl, rfl, (by simp only [List.length_map, List.length_set, List.length_append, List.length_cons, List.length_nil]), rfl⟩))), ?_⟩))), ⟨.inr (.inl rfl), trivial⟩, rfl, rfl⟩
end
section
variable {Gl : Glob}
theorem c_gIntent (l : List Int) (hl : Tp l) (j : Nat) (hj : j ≤ l.length) (x : Topo) (n : Nat) (hn : n < 900) (hx : x.edges.length < 900) (hxd : x.devs.length < 900) (hxe : ∀ e ∈ x.edges, PfxIn e.pfx) :
  Gen Gl 12 [eTopo x, .int .i64 n] l j fun r => ∃ i : TInt, IGen x n i ∧ r = eIntent i :=
 gI1 l hl j hj x n hx (gI2 l hl x n (gI3 l hl x n (gI4 l hl x n hn hxd (gI5 l hl x n hx hxe (gI6 l hl x n hx)))))
attribute [local irreducible] PW PWL OpP PCalls PWO formB vname digitsB number portsT pfxParse PWT bothT
theorem form_icmp (w : List Str) : formB w [[105, 99, 109, 112]] = true ↔ w.length = 1 ∧ w.getD 0 [] = [105, 99, 109, 112] := by
 unfold formB eqf formP
 match w with
 | [] => simp
 | [x] => simp
 | _ :: _ :: _ => simp
def rItem (w : List Str) (sv : Bool) : TItem × Int := if ¬ (rdItem w sv).2.1 = true then (item0, 4) else if ¬ (rdItem w sv).2.2 = true then (item0, 2) else ((rdItem w sv).1, 0)
def rNum (s : Str) (most : Int) : Int × Int := if ¬ digitsB s = true then (0, 4) else if ¬ (number s 0 most).2 = true then (0, 2) else ((number s 0 most).1, 0)
theorem c_rNum (s : Str) (most : Int) (hs : s.length < 4294967281) (hm : most ≤ 9223372036854775807) : PFun Tryz.prog Gl 166 [.str s, .int .i64 most] fun r => r = .tup [.int .i64 (rNum s most).1, .int .i64 (rNum s most).2] := by
 (refine PFun.of hT Tryz.func166 rfl fun B hD => ?_; refine pw_norm rfl ?_)
 unfold rNum
 (repeat' (first | refine zS ?_ | (refine zT ?_ ?_ <;> intro h <;> first | exact zX | refine zNq ?_)))
 ·rw [if_pos h]; exact ret2 _ rfl rfl rfl
 ·rename_i g1; rw [if_neg g1, if_pos h]; exact ret2 _ rfl rfl rfl
 ·rename_i g1; rw [if_neg g1, if_neg h]; exact ret2 _ rfl rfl rfl
instance (s : Str) (most : Int) : ConF Tryz.prog Gl 166 [.str s, .int .i64 most] (s.length < 4294967281 ∧ most ≤ 9223372036854775807) (.tup [.int .i64 (rNum s most).1, .int .i64 (rNum s most).2]) := ⟨e166, fun h => c_rNum s most h.1 h.2⟩
def worseI (a b : Int) : Int := if a = 4 ∨ b = 4 then 4 else if a = 2 ∨ b = 2 then 2 else 0
theorem c_worse (a b : Int) : PFun Tryz.prog Gl 164 [.int .i64 a, .int .i64 b] fun r => r = .int .i64 (worseI a b) := by
 (refine PFun.of hT Tryz.func164 rfl fun B hD => ?_; refine pw_norm rfl ?_)
 unfold worseI
 (repeat' (first | refine zS ?_ | refine zq5 ?_ | refine zq6 ?_ | (refine zT ?_ ?_ <;> intro h <;> first | exact zX | refine zNq ?_)))
 ·rw [if_pos h]; exact ret2 _ rfl rfl rfl
 ·rename_i g1; rw [if_neg g1, if_pos h]; exact ret2 _ rfl rfl rfl
 ·rename_i g1; rw [if_neg g1, if_neg h]; exact ret2 _ rfl rfl rfl
instance (a b : Int) : ConF Tryz.prog Gl 164 [.int .i64 a, .int .i64 b] True (.int .i64 (worseI a b)) := ⟨e164, fun _ => c_worse a b⟩
theorem c_rItem (w : List Str) (_hl : w.length < 1000000) (hw : ∀ k, (w.getD k []).length < 4294967281) : PFun Tryz.prog Gl 162 [.sl (w.map .str)] fun r => r = .tup [eItem (rItem w false).1, .int .i64 (rItem w false).2] := by
 (refine PFun.of hT Tryz.func162 rfl fun B hD => ?_; refine pw_norm rfl ?_)
 have h1 := hw 1
 (repeat' (first | refine zS ?_ | (refine zT ?_ ?_ <;> intro h <;> first | exact zX | refine zNq ?_)))
 all_goals
  refine ret2 _ rfl ?_ rfl
  unfold rItem rdItem
  clear hw
  generalize w.getD 0 [] = w0 at *
  generalize w.getD 1 [] = w1 at *
  first | (simp [*, eItem, item0, pfx0, rng0]; done) | (have hl1 : w.length = 1 := by omega; simp [*, eItem, item0, pfx0, rng0]; done) | (exfalso; simp_all; done) | simp_all [eItem, item0, pfx0, rng0]
instance (w : List Str) : ConF Tryz.prog Gl 162 [.sl (w.map .str)] (w.length < 1000000 ∧ ∀ k, (w.getD k []).length < 4294967281) (.tup [eItem (rItem w false).1, .int .i64 (rItem w false).2]) := ⟨e162, fun h => c_rItem w h.1 h.2⟩
theorem c_rService (w : List Str) (_hl : w.length < 1000000) (hw : ∀ k, (w.getD k []).length < 4294967281) : PFun Tryz.prog Gl 163 [.sl (w.map .str)] fun r => r = .tup [eItem (rItem w true).1, .int .i64 (rItem w true).2] := by
 (refine PFun.of hT Tryz.func163 rfl fun B hD => ?_; refine pw_norm rfl ?_)
 have h1 := hw 1
 (repeat' (first | refine zS ?_ | refine zq5 ?_ | refine zq6 ?_ | (refine zT ?_ ?_ <;> intro h <;> first | exact zX | refine zNq ?_)))
 ·refine ret2 _ rfl ?_ rfl
  have e : rdItem w true = (⟨4, [], pfx0, 1, ⟨8, 8⟩⟩, true, true) := by unfold rdItem; exact if_pos ⟨rfl, (form_icmp w).2 ⟨by omega, h.2⟩⟩
  unfold rItem
  rw [e]
  rfl
 all_goals
  refine ret2 _ rfl ?_ rfl
  unfold rItem rdItem
  have hf : ¬ formB w [[105, 99, 109, 112]] = true := fun q => absurd (by have := (form_icmp w).1 q; exact ⟨by omega, this.2⟩) (by assumption : ¬ ((w.length : Int) = 1 ∧ w.getD 0 [] = [105, 99, 109, 112]))
  clear hw
  generalize w.getD 0 [] = w0 at *
  generalize w.getD 1 [] = w1 at *
  first | (simp [*, eItem, item0, pfx0, rng0]; done) | (unfold rNum at *; cases hd : digitsB w1 <;> cases hn : (number w1 0 255).2 <;> simp_all [eItem, item0, pfx0, rng0] <;> (try split) <;> simp_all <;> omega; done) | (have hl1 : w.length = 1 := by omega; simp [*, eItem, item0, pfx0, rng0]; done) | (exfalso; simp_all; done) | simp_all [eItem, item0, pfx0, rng0]
instance (w : List Str) : ConF Tryz.prog Gl 163 [.sl (w.map .str)] (w.length < 1000000 ∧ ∀ k, (w.getD k []).length < 4294967281) (.tup [eItem (rItem w true).1, .int .i64 (rItem w true).2]) := ⟨e163, fun h => c_rService w h.1 h.2⟩
end
section
variable {Gl : Glob}
attribute [local irreducible] PW PWL OpP PCalls PWO vname wParse wFormat PWT bothT
theorem firstAt_step {α : Type} [Inhabited α] (p : α → Bool) (l : List α) {i : Nat} (hi : i < l.length) (hno : ∀ j, j < i → p (l.getD j default) = false) (h : p (l.getD i default) = true) : firstAt p l = i := by
 have e : l.getD i default = l[i] := by rw [List.getD, List.getElem?_eq_getElem hi]; rfl
 rw [e] at h
 exact firstAt_hit hi h fun j d hj hd => by
  have := hno j hj
  rwa [List.getD, hd] at this
theorem firstAt_none {α : Type} [Inhabited α] (p : α → Bool) (l : List α) (hno : ∀ j, j < l.length → p (l.getD j default) = false) : firstAt p l = -1 := firstAt_miss fun j x hj => by
 have := hno j (List.getElem?_eq_some_iff.1 hj).1
 rwa [List.getD, hj] at this
theorem c_rFind (l : List TDef) (name : Str) (hl : l.length < 4294967296) : PFun Tryz.prog Gl 122 [.sl (l.map eDef), .str name] fun r => r = .int .i64 (firstAt (fun d => d.name == name) l) := by
 (refine PFun.of hT Tryz.func122 rfl fun B hD => ?_; refine pw_norm rfl ?_)
 (repeat' (first | refine zS ?_ | (refine zT ?_ ?_ <;> intro h <;> first | exact zX | refine zNq ?_)))
 refine pw_for hD (fun i : Nat => [(5, .int .i64 i)]) (fun _ => []) (fun i => i ≤ l.length ∧ ∀ j, j < i → ((l.getD j default).name == name) = false) (fun i => l.length - i) 0 ⟨Nat.zero_le _, fun j h => by omega⟩ 0 rfl (fun _ => rfl) zLes (fun _ => rfl) (fun _ => rfl) zLe ?_
 rintro i ⟨hi, hno⟩
 (repeat' (first | refine zS ?_ | (refine zT ?_ ?_ <;> intro h <;> first | exact zX | refine zNq ?_)))
 ·rw [firstAt_step _ l (by omega) hno (by rw [beq_iff_eq]; exact h)]
  exact ret2 _ rfl rfl rfl
 ·refine ⟨i + 1, ⟨by omega, fun j hj => ?_⟩, by omega, zLe, zLes⟩
  rcases Nat.lt_succ_iff_lt_or_eq.1 hj with hj | rfl
  ·exact hno j hj
  ·rw [beq_eq_false_iff_ne]; exact h
 ·rw [firstAt_none _ l fun j hj => hno j (by omega)]
  exact ret2 _ rfl rfl rfl
instance (l : List TDef) (name : Str) : ConF Tryz.prog Gl 122 [.sl (l.map eDef), .str name] (l.length < 4294967296) (.int .i64 (firstAt (fun d => d.name == name) l)) := ⟨e122, fun h => c_rFind l name h⟩
theorem c_rFindW (l : List TWin) (name : Str) (hl : l.length < 4294967296) : PFun Tryz.prog Gl 76 [.sl (l.map eWin), .str name] fun r => r = .int .i64 (firstAt (fun d => d.name == name) l) := by
 (refine PFun.of hT Tryz.func76 rfl fun B hD => ?_; refine pw_norm rfl ?_)
 (repeat' (first | refine zS ?_ | (refine zT ?_ ?_ <;> intro h <;> first | exact zX | refine zNq ?_)))
 refine pw_for hD (fun i : Nat => [(5, .int .i64 i)]) (fun _ => []) (fun i => i ≤ l.length ∧ ∀ j, j < i → ((l.getD j default).name == name) = false) (fun i => l.length - i) 0 ⟨Nat.zero_le _, fun j h => by omega⟩ 0 rfl (fun _ => rfl) zLes (fun _ => rfl) (fun _ => rfl) zLe ?_
 rintro i ⟨hi, hno⟩
 (repeat' (first | refine zS ?_ | (refine zT ?_ ?_ <;> intro h <;> first | exact zX | refine zNq ?_)))
 ·rw [firstAt_step _ l (by omega) hno (by rw [beq_iff_eq]; exact h)]
  exact ret2 _ rfl rfl rfl
 ·refine ⟨i + 1, ⟨by omega, fun j hj => ?_⟩, by omega, zLe, zLes⟩
  rcases Nat.lt_succ_iff_lt_or_eq.1 hj with hj | rfl
  ·exact hno j hj
  ·rw [beq_eq_false_iff_ne]; exact h
 ·rw [firstAt_none _ l fun j hj => hno j (by omega)]
  exact ret2 _ rfl rfl rfl
instance (l : List TWin) (name : Str) : ConF Tryz.prog Gl 76 [.sl (l.map eWin), .str name] (l.length < 4294967296) (.int .i64 (firstAt (fun d => d.name == name) l)) := ⟨e76, fun h => c_rFindW l name h⟩
end
section
variable {Gl : Glob}
attribute [local irreducible] PW PWL OpP PCalls PWO vname vItem PWT bothT
def dHead (l : List TDef) (i : Nat) : Bool := ((vname (l.getD i default).name && decide (firstAt (fun x : TDef => x.name == (l.getD i default).name) l = i)) && decide (1 ≤ (l.getD i default).items.length)) && decide ((l.getD i default).items.length ≤ 16)
def dOk (l : List TDef) (sv : Bool) (i : Nat) : Bool := dHead l i && (l.getD i default).items.all fun x => vItem x sv
def vDefs (l : List TDef) (sv : Bool) : Bool := decide (l.length ≤ 32) && (List.range l.length).all (dOk l sv)
instance iRValidItem (x : TItem) (g : Bool) : ConF Tryz.prog Gl 123 [.agg [.int .i64 x.kind, .str x.name, .int .u32 x.pfx.addr, .int .i64 x.pfx.bits, .int .i64 x.proto, .int .u32 x.ports.lo, .int .u32 x.ports.hi], .bool g] (ItIn x) (.bool (vItem x (!g))) := ⟨e123, fun h => c_rValidItem x g h⟩
theorem getD_memD {α : Type} [Inhabited α] {L : List α} {k : Nat} (h : k < L.length) : L.getD k default ∈ L := by
 rw [List.getD, List.getElem?_eq_getElem h]; exact List.getElem_mem h
theorem dHead_iff (l : List TDef) (i : Nat) : dHead l i = true ↔ ¬ (((¬ vname (l.getD i default).name = true ∨ ¬ firstAt (fun x : TDef => x.name == (l.getD i default).name) l = i) ∨ ((l.getD i default).items.length : Int) < 1) ∨ ((l.getD i default).items.length : Int) > 16) := by
 unfold dHead
 simp only [Bool.and_eq_true, decide_eq_true_eq]
 constructor
 ·rintro ⟨⟨⟨a, b⟩, c⟩, d⟩ (((q | q) | q) | q)
  ·exact q a
  ·exact q b
  ·omega
  ·omega
 ·intro q
  refine ⟨⟨⟨Decidable.not_not.1 fun a => q (.inl (.inl (.inl a))), Decidable.not_not.1 fun a => q (.inl (.inl (.inr a)))⟩, Decidable.not_not.1 fun a => q (.inl (.inr (by omega)))⟩, Decidable.not_not.1 fun a => q (.inr (by omega))⟩
theorem dOk_fail {l : List TDef} {sv : Bool} {i : Nat} (hi : i < l.length) (h : dOk l sv i = false) : (List.range l.length).all (dOk l sv) = false :=
 List.all_eq_false.2 ⟨i, List.mem_range.2 hi, by rw [h]; decide⟩
theorem c_rValidDefs (l : List TDef) (g : Bool) (hl : l.length < 1000000) (hi : ∀ d ∈ l, d.items.length < 1000000) (hx : ∀ d ∈ l, ∀ x ∈ d.items, ItIn x) : PFun Tryz.prog Gl 74 [.sl (l.map eDef), .bool g] fun r => r = .bool (vDefs l (!g)) := by
 (refine PFun.of hT Tryz.func74 rfl fun B hD => ?_; refine pw_norm rfl ?_)
 have hat : ∀ i, (l.getD i default).items.length < 1000000 := fun i => by
  rw [List.getD]
  cases h : l[i]? with
  | none => exact (by decide : (0 : Nat) < 1000000)
  | some x => exact hi x (List.mem_of_getElem? h)
 have hxt : ∀ i k, ItIn ((l.getD i default).items.getD k default) := fun i k => by
  rw [List.getD, List.getD]
  cases h : l[i]? with
  | none =>
   show ItIn ((([] : List TItem)[k]?).getD default)
   rw [List.getElem?_nil]
   exact ⟨⟨Int.le_refl 0, by decide⟩, Int.le_refl 0⟩
  | some x =>
   show ItIn ((x.items[k]?).getD default)
   cases h2 : x.items[k]? with
   | none => exact ⟨⟨Int.le_refl 0, by decide⟩, Int.le_refl 0⟩
   | some y => exact hx x (List.mem_of_getElem? h) y (List.mem_of_getElem? h2)
 unfold vDefs
 (repeat' (first | refine zS ?_ | refine zq5 ?_ | refine zq6 ?_ | (refine zT ?_ ?_ <;> intro h <;> first | exact zX | refine zNq ?_)))
 ·rw [decide_eq_false (by omega), Bool.false_and]
  exact ret2 _ rfl rfl rfl
 rw [decide_eq_true (by omega), Bool.true_and]
 refine pw_for hD (fun i : Nat => [(5, .int .i64 i)]) (fun _ => []) (fun i => i ≤ l.length ∧ ∀ j, j < i → dOk l (!g) j = true) (fun i => l.length - i) 0 ⟨Nat.zero_le _, fun j h => by omega⟩ 0 rfl (fun _ => rfl) zLes (fun _ => rfl) (fun _ => rfl) zLe ?_
 rintro i ⟨hi, hc⟩
 have hat := hat i
 (repeat' (first | refine zS ?_ | refine zD ?_ | refine po_both ?_ ?_ | refine pwt_both ?_ ?_ | refine pwt_fork ?_ | refine pwt_lin ?_ | (refine po_test rfl rfl rfl rfl zB ?_ ?_ <;> intro hb <;> first | exact zX | refine zDn ?_) | refine zq5 ?_ | refine zq6 ?_ | (refine zT ?_ ?_ <;> intro h <;> first | exact zX | refine zNq ?_)))
 ·have e : dOk l (!g) i = false := by
   unfold dOk
   rw [show dHead l i = false from by rw [Bool.eq_false_iff]; exact fun q => (dHead_iff l i).1 q h, Bool.false_and]
  rw [dOk_fail (by omega) e]
  exact ret2 _ rfl rfl rfl
 ·have hh : dHead l i = true := (dHead_iff l i).2 h
  refine pw_for hD (fun k : Nat => [(6, .int .i64 k)]) (fun _ => []) (fun k => k ≤ (l.getD i default).items.length ∧ ∀ j, j < k → vItem ((l.getD i default).items.getD j default) (!g) = true) (fun k => (l.getD i default).items.length - k) 0 ⟨Nat.zero_le _, fun j h => by omega⟩ 0 rfl (fun _ => rfl) zLes (fun _ => rfl) (fun _ => rfl) zLe ?_
  rintro k ⟨hk, hkc⟩
  have hxt := hxt i k
  (repeat' (first | refine zS ?_ | refine zD ?_ | refine po_both ?_ ?_ | refine pwt_both ?_ ?_ | refine pwt_fork ?_ | refine pwt_lin ?_ | (refine po_test rfl rfl rfl rfl zB ?_ ?_ <;> intro hb <;> first | exact zX | refine zDn ?_) | refine zq5 ?_ | refine zq6 ?_ | (refine zT ?_ ?_ <;> intro h <;> first | exact zX | refine zNq ?_)))
  ·have e : dOk l (!g) i = false := by
    unfold dOk
    have : ((l.getD i default).items.all fun x => vItem x (!g)) = false := by
     rw [List.all_eq_false]
     exact ⟨_, getD_memD (by omega), h⟩
    rw [this, Bool.and_false]
   rw [dOk_fail (by omega) e]
   exact ret2 _ rfl rfl rfl
  ·refine ⟨k + 1, ⟨by omega, fun j hj => ?_⟩, by omega, zLe, zLes⟩
   rcases Nat.lt_succ_iff_lt_or_eq.1 hj with hj | rfl
   ·exact hkc j hj
   ·exact Decidable.not_not.1 h
  ·refine ⟨i + 1, ⟨by omega, fun j hj => ?_⟩, by omega, zLe, zLes⟩
   rcases Nat.lt_succ_iff_lt_or_eq.1 hj with hj | rfl
   ·exact hc j hj
   ·unfold dOk
    rw [hh, Bool.true_and]
    refine List.all_eq_true.2 fun x hx => ?_
    obtain ⟨n, hn⟩ := List.mem_iff_getElem?.1 hx
    have := hkc n (by have := (List.getElem?_eq_some_iff.1 hn).1; omega)
    rwa [List.getD, hn] at this
 ·rw [show (List.range l.length).all (dOk l (!g)) = true from List.all_eq_true.2 fun j hj => hc j (by have := List.mem_range.1 hj; omega)]
  exact ret2 _ rfl rfl rfl
end
section
variable {Gl : Glob}
attribute [local irreducible] PW PWL OpP PCalls PWO vname wParse rItem PWT bothT
theorem wPut_mod (d : Nat) {o : List Str} (r : TRng) (h : o.length = 0 ∨ o.length % 3 = 2) : (wPut d o r).length % 3 = 2 := by
 unfold wPut wItem
 rw [List.length_append]
 split
 ·simp only [List.length_append, List.length_cons, List.length_nil]; omega
 ·simp only [List.length_cons, List.length_nil]; omega
theorem wPuts_mod (d : Nat) : ∀ (xs : List TRng) (o : List Str), (o.length = 0 ∨ o.length % 3 = 2) → ((xs.foldl (wPut d) o).length = 0 ∨ (xs.foldl (wPut d) o).length % 3 = 2)
 | [], _, h => h
 | x :: xs, _, h => wPuts_mod d xs _ (.inr (wPut_mod d x h))
theorem wDays_mod (l : List TRng) : ∀ n : Nat, (wDays l n).length = 0 ∨ (wDays l n).length % 3 = 2
 | 0 => .inl rfl
 | n + 1 => by rw [wDays_succ]; exact wPuts_mod n _ _ (wDays_mod l n)
theorem wPut_grow (d : Nat) (o : List Str) (r : TRng) : o.length + 2 ≤ (wPut d o r).length := by
 unfold wPut wItem
 rw [List.length_append]
 split
 ·simp only [List.length_append, List.length_cons, List.length_nil]; omega
 ·simp only [List.length_cons, List.length_nil]; omega
theorem wPuts_grow (d : Nat) : ∀ (xs : List TRng) (o : List Str), o.length ≤ (xs.foldl (wPut d) o).length
 | [], o => Nat.le_refl _
 | x :: xs, o => by
  have := wPuts_grow d xs (wPut d o x)
  have := wPut_grow d o x
  simp only [List.foldl_cons]
  omega
theorem wDays_grow (l : List TRng) (n : Nat) : ∀ k : Nat, (wDays l n).length ≤ (wDays l (n + k)).length
 | 0 => Nat.le_refl _
 | k + 1 => by
  have := wDays_grow l n k
  rw [← Nat.add_assoc, wDays_succ]
  exact Nat.le_trans this (wPuts_grow _ _ _)
theorem wDays_pos {l : List TRng} (hc : Can l) (h0 : l ≠ []) (hin : ∀ r ∈ l, RIn r) (ht : ∀ r ∈ l, r.hi ≤ 10079) : 0 < (wDays l 7).length := by
 obtain ⟨r, l', rfl⟩ := List.exists_cons_of_ne_nil h0
 have hr : r ∈ r :: l' := List.mem_cons_self ..
 have h1 := hin r hr
 have h2 := ht r hr
 have h3 := hc.le r hr
 unfold RIn at h1
 have hm : mem (wDay (r :: l') (r.lo / 1440).toNat) r.lo := (isect_mem _ _ _).2 ⟨⟨r, hr, Int.le_refl _, h3⟩, ⟨_, List.mem_singleton_self _, by unfold dayAll; dsimp only; omega, by unfold dayAll; dsimp only; omega⟩⟩
 obtain ⟨q, hq, _⟩ := hm
 generalize hd : (r.lo / 1440).toNat = d at hq
 have hd7 : d < 7 := by omega
 have hp : 0 < (wDays (r :: l') (d + 1)).length := by
  rw [wDays_succ]
  cases hw : wDay (r :: l') d with
  | nil => rw [hw] at hq; cases hq
  | cons x xs =>
   have := wPuts_grow d xs (wPut d (wDays (r :: l') d) x)
   have := wPut_grow d (wDays (r :: l') d) x
   simp only [List.foldl_cons]
   omega
 have := wDays_grow (r :: l') (d + 1) (6 - d)
 rw [show d + 1 + (6 - d) = 7 by omega] at this
 omega
theorem wOkB_eq (l : List TRng) (hin : ∀ r ∈ l, RIn r) : (ivalid l 10079 && decide (((wFormat l).length : Int) ≤ 47)) = wOkB l := by
 unfold wOkB wFormat
 cases hi : ivalid l 10079
 ·simp
 ·obtain ⟨hc, ht⟩ := can_ivalid hi
  by_cases h0 : l = []
  ·simp [h0]
  ·have h1 := wDays_pos hc h0 hin ht
   have h2 := wDays_mod l 7
   simp only [if_true, if_neg h0, Bool.true_and]
   have : (decide (((wDays l 7).length : Int) > 0)) = true := decide_eq_true (by omega)
   rw [this, Bool.true_and]
   exact decide_eq_decide.2 (by omega)
theorem c_rWritten (l : List TRng) (hl : l.length < 100000) (hin : ∀ r ∈ l, RIn r) : PFun Tryz.prog Gl 77 [.sl (l.map eRng)] fun r => r = .bool (wOkB l) := by
 rw [← wOkB_eq l hin]
 (refine PFun.of hT Tryz.func77 rfl fun B hD => ?_; refine pw_norm rfl ?_)
 (repeat' (first | refine zS ?_ | refine zq5 ?_ | refine zq6 ?_ | (refine zT ?_ ?_ <;> intro h <;> first | exact zX | refine zNq ?_)))
 exact ret2 _ rfl rfl rfl
instance (l : List TRng) : ConF Tryz.prog Gl 77 [.sl (l.map eRng)] (l.length < 100000 ∧ ∀ r ∈ l, RIn r) (.bool (wOkB l)) := ⟨e77, fun h => c_rWritten l h.1 h.2⟩
attribute [local irreducible] wOkB
abbrev OutA {α : Type} (e : α → PV) (k : Nat) (er : Int) (l : List α) (r : PV) (s : List PObj) : Prop := er = 0 ∧ (∃ c, r = .tup [.msl k 0 0 (l.map e).length c, .int .i64 0] ∧ s = [.arr k (l.map e) c]) ∨ ¬ er = 0 ∧ r = .tup [.nilsl, .int .i64 er] ∧ s = [.dead]
theorem c_rWindow (l : List TWin) (hl : l.length ≤ 32) (c : Nat) (w : List Str) (hw : WOk w) (hl2 : w.length ≤ 1000) : PCalls Tryz.prog Gl 132 [.msl 2 0 0 (l.map eWin).length c, .sl (w.map .str)] [.arr 2 (l.map eWin) c] fun r s => OutA eWin 2 (pWin l w).1 (pWin l w).2 r s := by
 refine PCalls.of hT Tryz.func132 rfl 1 (Nat.le_refl _) fun B hD => ?_
 refine pw_norm rfl ?_
 obtain ⟨hd1, hd2⟩ := RdOk.drop hl2 hw.at 3
 obtain ⟨hp1, hp2⟩ := wParse_ok (w.drop 3)
 have hlg : (l.map eWin).length = l.length := List.length_map ..
 have fin : ∀ (n : Int), pWin l w = (n, l) → ¬ n = 0 → OutA eWin 2 (pWin l w).1 (pWin l w).2 (.tup [.nilsl, .int .i64 n]) [.dead] := fun n h1 h2 => by rw [h1]; exact .inr ⟨h2, rfl, rfl⟩
 (repeat' (first | refine zS ?_ | refine zq5 ?_ | refine zq6 ?_ | (refine zT ?_ ?_ <;> intro h <;> first | exact zX | refine zNq ?_)))
 ·exact ⟨_, .tup [.nilsl, .int .i64 4], [.dead], rfl, fin 4 (by unfold pWin; rw [if_pos h]) (by decide), .inr (.inl rfl), ⟨.inl rfl, trivial⟩, rfl, rfl⟩
 ·rename_i g1
  exact ⟨_, .tup [.nilsl, .int .i64 (wParse (w.drop 3)).2], [.dead], rfl, fin _ (by unfold pWin; rw [if_neg g1, if_pos h]) h, .inr (.inl rfl), ⟨.inl rfl, trivial⟩, rfl, rfl⟩
 ·rename_i g1 g2
  exact ⟨_, .tup [.nilsl, .int .i64 3], [.dead], rfl, fin 3 (by unfold pWin; rw [if_neg g1, if_neg g2, if_pos h]) (by decide), .inr (.inl rfl), ⟨.inl rfl, trivial⟩, rfl, rfl⟩
 ·rename_i g1 g2 g3
  exact ⟨_, .tup [.nilsl, .int .i64 6], [.dead], rfl, fin 6 (by unfold pWin; rw [if_neg g1, if_neg g2, if_neg g3, if_pos h]) (by decide), .inr (.inl rfl), ⟨.inl rfl, trivial⟩, rfl, rfl⟩
 ·rename_i g1 g2 g3 g4
  exact ⟨_, .tup [.nilsl, .int .i64 3], [.dead], rfl, fin 3 (by unfold pWin; rw [if_neg g1, if_neg g2, if_neg g3, if_neg g4, if_pos (by omega)]) (by decide), .inr (.inl rfl), ⟨.inl rfl, trivial⟩, rfl, rfl⟩
 ·rename_i g1 g2 g3 g4
  rw [show pWin l w = (0, l ++ [⟨w.getD 1 [], (wParse (w.drop 3)).1⟩]) from by unfold pWin; rw [if_neg g1, if_neg g2, if_neg g3, if_neg g4, if_neg (by omega)]]
  (refine pl_append (b := 40) hT hD rfl rfl rfl rfl rfl rfl rfl rfl (.inl (Nat.zero_lt_succ _)) rfl rfl (by simp; omega) (fun cap' _ hcap => ?_); (refine zNp ?_))
  (repeat' (first | refine zS ?_ | refine zq5 ?_ | refine zq6 ?_ | (refine zT ?_ ?_ <;> intro h <;> first | exact zX | refine zNq ?_)))
  refine ⟨_, _, _, rfl, .inl ⟨rfl, cap', rfl, rfl⟩, .inr (.inl ?_), ⟨.inr (.inl ?_), trivial⟩, rfl, rfl⟩
  all_goals simp only [List.map_append, List.length_append]; rfl

end
end Go.Proofs.YtkaobkjcjodffaaGreatDoor