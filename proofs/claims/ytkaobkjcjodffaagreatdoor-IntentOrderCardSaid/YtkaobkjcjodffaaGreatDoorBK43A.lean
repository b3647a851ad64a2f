/-
 Contracts of functions, walked over pure values.
-/
import Derived.Test.YtkaobkjcjodffaaGreatDoorBK38
set_option maxHeartbeats 20000000
set_option maxRecDepth 100000
namespace Go.Proofs.YtkaobkjcjodffaaGreatDoor
open Go Go.Pw
section
variable {Gl : Glob}
attribute [local irreducible] PW PWL OpP PCalls PWO wParse PWT bothT
theorem gI1 (l : List Int) (hl : Tp l) (j : Nat) (hj : j ≤ l.length) (x : Topo) (n : Nat) (hx : x.edges.length < 900) (h2 : GI2 Gl l x n) :
  Gen Gl 12 [eTopo x, .int .i64 n] l j fun r => ∃ i : TInt, IGen x n i ∧ r = eIntent i := by
 refine PCalls.of hT Tryz.func12 rfl 1 (Nat.le_of_ble_eq_true rfl) fun B hD => ?_
 refine pw_norm rfl ?_
 (repeat' (first | refine zS ?_ | refine zq5 ?_ | refine zq6 ?_))
 (refine pl_op rfl (zCl [0] e17 (c13n l hl j hj 3 (by decide) (by decide)) (fun r s hq => ?_)); obtain ⟨j1, ⟨m1, hm1, rfl⟩, hj1, rfl⟩ := hq; refine ⟨rfl, rfl, ?_⟩; (refine zNp ?_))
 (repeat' (first | refine zS ?_ | refine zq5 ?_ | refine zq6 ?_))
 refine pw_ghost 2 ?_
 refine pw_ghost 2 ?_
 refine pw_ghost 2 ?_
 refine pw_ghost 10 ?_
 refine pw_ghost 6 ?_
 refine pw_ghost 5 ?_
 refine zNq ?_
 rw [show (1 : Int) + (m1 : Int) = ((1 + m1 : Nat) : Int) by omega]
 refine pw_for hD (fun a : Nat × List TDef × ICaps × Nat => [(8, .int .i64 a.1)]) (fun a => gst l x ⟨a.2.1, [], [], [], [], []⟩ a.2.2.1 a.2.2.2)
  (fun a => a.1 + a.2.1.length ≤ 3 ∧ GDefs gn3 (GGItem x) a.2.1 ∧ a.2.2.2 ≤ l.length) (fun a => a.1) (1 + m1, [], (0, 0, 0, 0, 0, 0), j1) ⟨by dsimp only; simp; omega, ⟨by simp, by simp⟩, hj1⟩ 10 rfl (fun _ => rfl)
  ⟨.inl rfl, .inl rfl, .inl rfl, .inr (.inr ⟨_, _, rfl, rfl, zLe⟩), .inl rfl, .inl rfl, .inl rfl, .inl rfl, .inl rfl, .inl rfl, trivial⟩ (fun _ => rfl) (fun _ => rfl) zLe ?_
 rintro ⟨k, gs, c, ja⟩ ⟨hk, hgs, hja⟩
 dsimp only at hk hgs hja ⊢
 unfold gst
 refine zNq ?_
 (repeat' (first | refine zS ?_ | refine zq5 ?_ | refine zq6 ?_))
 refine zT ?_ ?_ <;> intro h <;> refine zNq ?_
 ·have h3 : gs.length < 3 := by omega
  (repeat' (first | refine zS ?_ | refine zq5 ?_ | refine zq6 ?_))
  (refine pl_op rfl (op_of (v_index (p := .str (gn3.getD gs.length [])) hT rfl rfl rfl rfl (by omega) (lit_at .str gn3 gs.length [] h3) rfl) ?_); (refine zNp ?_))
  (repeat' (first | refine zS ?_ | refine zq5 ?_ | refine zq6 ?_))
  (refine pl_op rfl (zCl [0] e17 (c13n l hl ja hja 2 (by decide) (by decide)) (fun r s hq => ?_)); obtain ⟨jb, ⟨m2, hm2, rfl⟩, hjb, rfl⟩ := hq; refine ⟨rfl, rfl, ?_⟩; (refine zNp ?_))
  (repeat' (first | refine zS ?_ | refine zq5 ?_ | refine zq6 ?_))
  refine pw_ghost 7 ?_
  refine zNq ?_
  rw [show (1 : Int) + (m2 : Int) = ((1 + m2 : Nat) : Int) by omega]
  refine pw_for hD (fun a : Nat × List TItem × Nat × Nat => [(10, .int .i64 a.1)]) (fun a => gst l x ⟨gs, [], [], [], [], []⟩ c a.2.2.2 ++ [.box [.str (gn3.getD gs.length []), .msl 7 11 0 (a.2.1.map eItem).length a.2.2.1], .arr 7 (a.2.1.map eItem) a.2.2.1])
   (fun a => (a.1 + a.2.1.length = 1 + m2) ∧ (∀ y ∈ a.2.1, GGItem x y) ∧ a.2.2.2 ≤ l.length) (fun a => a.1) (1 + m2, [], 0, jb) ⟨by simp, by simp, hjb⟩ 12 rfl (fun _ => rfl)
   (by unfold gst; exact ⟨.inl rfl, .inl rfl, .inl rfl, .inl rfl, .inl rfl, .inl rfl, .inl rfl, .inl rfl, .inl rfl, .inl rfl, .inr (.inr ⟨_, _, rfl, rfl, zLe⟩), .inl rfl, trivial⟩) (fun _ => rfl) (fun _ => rfl) zLe ?_
  rintro ⟨m, its, ci, jc⟩ ⟨hm, hits, hjc⟩
  dsimp only at hm hits hjc ⊢
  unfold gst
  refine zNq ?_
  (repeat' (first | refine zS ?_ | refine zq5 ?_ | refine zq6 ?_))
  refine zT ?_ ?_ <;> intro h2 <;> refine zNq ?_
  ·have hit : its.length < 2 := by omega
   (repeat' (first | refine zS ?_ | refine zq5 ?_ | refine zq6 ?_))
   (refine pl_op rfl (zCl [0] e37 (c_gPrefix l hl jc hjc) (fun r s hq => ?_)); obtain ⟨jd, ⟨p, hp, rfl⟩, hjd, rfl⟩ := hq; refine ⟨rfl, rfl, ?_⟩; (refine zNp ?_))
   (repeat' (first | refine zS ?_ | refine zq5 ?_ | refine zq6 ?_))
   (refine pl_op rfl (zCl [0] e17 (c13 l hl jd hjd (x.edges.length : Int) (by omega)) (fun r s hq => ?_)); obtain ⟨e, je, rfl, he0, he1, hje, rfl⟩ := hq; refine ⟨rfl, rfl, ?_⟩; (refine zNp ?_))
   obtain ⟨e, rfl⟩ : ∃ n : Nat, e = (n : Int) := ⟨e.toNat, by omega⟩
   (repeat (first | refine pl_pure hT rfl ?_ | (refine pl_op rfl (op_storeF hT rfl rfl rfl rfl rfl rfl rfl rfl (Nat.le_of_ble_eq_true rfl) ?_); (first | refine pl_norm rfl ?_ | refine pl_normE rfl ?_))))
   refine pl_nil ?_
   refine zNq ?_
   refine pw_joinX hD (fun a : Nat × TItem => a.1 ≤ l.length ∧ GGItem x a.2) (fun _ => []) (fun a => gst l x ⟨gs, [], [], [], [], []⟩ c a.1 ++ [.box [.str (gn3.getD gs.length []), .msl 7 11 0 (its.map eItem).length ci], .arr 7 (its.map eItem) ci, .box (eItem a.2).cells]) 13 rfl (fun _ => rfl) (fun _ => rfl) (fun _ => rfl) ?_ ?_
   ·(repeat' (first | refine zS ?_ | refine zq5 ?_ | refine zq6 ?_))
    refine pl_split 54 rfl (fun hw => ?_) (fun hw => ?_)
    ·have hw0 : 0 < x.edges.length := by simpa using hw
     have hel : e < x.edges.length := by omega
     (repeat' (first | refine zS ?_ | refine zq5 ?_ | refine zq6 ?_))
     (refine pl_on rfl rfl (zCl [0] e17 (c13n l hl je hje 3 (by decide) (by decide)) (fun r s hq => ?_)); obtain ⟨jf, ⟨m3, hm3, rfl⟩, hjf, rfl⟩ := hq; refine ⟨rfl, rfl, ?_⟩; (refine zNp ?_))
     (repeat' (first | refine zS ?_ | refine zq5 ?_ | refine zq6 ?_))
     refine zT ?_ ?_ <;> intro h4 <;> refine zNq ?_
     ·(repeat' (first | refine zS ?_ | refine zq5 ?_ | refine zq6 ?_))
      (refine pl_op rfl (op_of (v_index (p := eEdge (x.edges.getD e gedge0)) hT rfl rfl rfl rfl (by omega) (lit_at eEdge x.edges e gedge0 hel) rfl) ?_); (refine zNp ?_))
      (repeat' (first | refine zS ?_ | refine zq5 ?_ | refine zq6 ?_))
      exact ⟨(jf, ⟨1, (x.edges.getD e gedge0).zone, pfx0, 0, rng0⟩), ⟨hjf, .inr (.inl ⟨_, getD_mem hel, rfl⟩)⟩, zLe, zLes⟩
     ·(repeat' (first | refine zS ?_ | refine zq5 ?_ | refine zq6 ?_))
      exact ⟨(jf, ⟨2, [], p, 0, rng0⟩), ⟨hjf, .inl ⟨p, hp, rfl⟩⟩, zLe, zLes⟩
    ·(repeat' (first | refine zS ?_ | refine zq5 ?_ | refine zq6 ?_))
     exact ⟨(je, ⟨2, [], p, 0, rng0⟩), ⟨hje, .inl ⟨p, hp, rfl⟩⟩, zLe, zLes⟩
   rintro ⟨jg, y⟩ ⟨hjg, hy⟩
   dsimp only at hjg hy ⊢
   unfold gst
   refine zNq ?_
   refine pw_seq ?_
   refine pw_room 4 rfl fun hroom => ?_
   refine pw_joinX hD (fun a : Nat × TItem => a.1 ≤ l.length ∧ GGItem x a.2) (fun _ => []) (fun a => gst l x ⟨gs, [], [], [], [], []⟩ c a.1 ++ [.box [.str (gn3.getD gs.length []), .msl 7 11 0 (its.map eItem).length ci], .arr 7 (its.map eItem) ci, .box (eItem a.2).cells]) 13 rfl (fun _ => rfl) (fun _ => rfl) (fun _ => rfl) ?_ ?_
   ·(repeat' (first | refine zS ?_ | refine zq5 ?_ | refine zq6 ?_))
    refine pl_split 70 rfl (fun hw => ?_) (fun hw => ?_)
    ·have hw0 : 0 < gs.length := by simpa using hw
     (repeat' (first | refine zS ?_ | refine zq5 ?_ | refine zq6 ?_))
     (refine pl_on rfl rfl (zCl [0] e17 (c13n l hl jg hjg 4 (by decide) (by decide)) (fun r s hq => ?_)); obtain ⟨jf, ⟨m3, hm3, rfl⟩, hjf, rfl⟩ := hq; refine ⟨rfl, rfl, ?_⟩; (refine zNp ?_))
     (repeat' (first | refine zS ?_ | refine zq5 ?_ | refine zq6 ?_))
     refine zT ?_ ?_ <;> intro h4 <;> refine zNq ?_
     ·have hx0 : (gs.map eDef)[0]? = some (eDef (gs.getD 0 default)) := by rw [List.getElem?_map, List.getD, List.getElem?_eq_getElem hw0]; rfl
      have hnm : (gs.getD 0 default).name = [103, 49] := (hgs.2 0 _ (by rw [List.getD, List.getElem?_eq_getElem hw0]; rfl)).1
      have hroom2 : gs.length ≤ c.1 := by simpa using hroom
      (repeat' (first | refine zS ?_ | refine zq5 ?_ | refine zq6 ?_))
      (refine pl_op rfl (op_of (v_indexm hT rfl rfl rfl rfl rfl (by decide) (by show (0 : Int) < ((gs.map eDef).length : Int); rw [List.length_map]; omega) (by omega)) ?_); (refine zNp ?_))
      (repeat' (first | refine zS ?_ | refine zq5 ?_ | refine zq6 ?_))
      (refine pl_op rfl (op_loadE (x0 := eDef (gs.getD 0 default)) hT rfl rfl rfl rfl rfl (by omega) (hx0) rfl ?_); (refine zNp ?_))
      rw [hnm]
      (repeat' (first | refine zS ?_ | refine zq5 ?_ | refine zq6 ?_))
      exact ⟨(jf, ⟨3, [103, 49], pfx0, 0, rng0⟩), ⟨hjf, .inr (.inr rfl)⟩, zLe, zLes⟩
     ·(repeat' (first | refine zS ?_ | refine zq5 ?_ | refine zq6 ?_))
      exact ⟨(jf, y), ⟨hjf, hy⟩, zLe, zLes⟩
    ·(repeat' (first | refine zS ?_ | refine zq5 ?_ | refine zq6 ?_))
     exact ⟨(jg, y), ⟨hjg, hy⟩, zLe, zLes⟩
   rintro ⟨jh, y2⟩ ⟨hjh, hy2⟩
   dsimp only at hjh hy2 ⊢
   unfold gst
   refine zNq ?_
   (repeat' (first | refine zS ?_ | refine zq5 ?_ | refine zq6 ?_))
   (refine pl_append (b := 56) hT hD rfl rfl rfl rfl rfl rfl rfl rfl (.inl (Nat.zero_lt_succ _)) rfl rfl (by simp; omega) (fun cap1 _ hcap => ?_); (refine zNp ?_))
   (repeat' (first | refine zS ?_ | refine zq5 ?_ | refine zq6 ?_))
   refine ⟨(m - 1, its ++ [y2], cap1, jh), ⟨by rw [List.length_append, List.length_singleton]; omega, fun z hz => ?_, hjh⟩, by dsimp only; omega, ?_, ?_⟩
   ·rcases List.mem_append.1 hz with hz | hz
    ·exact hits z hz
    ·rw [List.mem_singleton.1 hz]; exact hy2
   all_goals simp only [List.map_append, List.length_append]
   ·rw [show ((m - 1 : Nat) : Int) = (m : Int) - 1 by omega]
    (exact zLe)
   ·exact ⟨.inl rfl, .inl rfl, .inl rfl, .inl rfl, .inl rfl, .inl rfl, .inl rfl, .inl rfl, .inl rfl, .inl rfl, .inl rfl, .inl rfl, trivial⟩
  ·refine pw_exit ?_
   refine pw_frzB 11 10 (cs1 := [.str (gn3.getD gs.length [])]) (cs2 := []) rfl rfl rfl (by decide) ?_
   refine pw_normV rfl ?_
   refine zNq ?_
   (repeat' (first | refine zS ?_ | refine zq5 ?_ | refine zq6 ?_))
   (refine pl_append (b := 40) hT hD rfl rfl rfl rfl rfl rfl rfl rfl (.inl (Nat.zero_lt_succ _)) rfl rfl (by simp; omega) (fun cap1 _ hcap => ?_); (refine zNp ?_))
   (repeat' (first | refine zS ?_ | refine zq5 ?_ | refine zq6 ?_))
   refine ⟨(k - 1, gs ++ [⟨gn3.getD gs.length [], its⟩], (cap1, c.2), jc), ⟨by rw [List.length_append, List.length_singleton]; omega, hgs.snoc h3 (by omega) hits, hjc⟩, by dsimp only; omega, ?_, ?_⟩
   all_goals simp only [List.map_append, List.length_append]
   ·rw [show ((k - 1 : Nat) : Int) = (k : Int) - 1 by omega]
    (exact zLe)
   ·exact ⟨.inl rfl, .inl rfl, .inl rfl, .inl rfl, .inl rfl, .inl rfl, .inl rfl, .inl rfl, .inl rfl, .inl rfl, trivial⟩
 ·obtain rfl : k = 0 := by omega
  clear h hk
  refine pw_exit ?_
  refine pw_less (st' := gst l x ⟨gs, [], [], [], [], []⟩ c ja) (env' := genv x n) zLe (by unfold gst; (exact zLes)) (h2 B j hD gs hgs c ja hja)
theorem gI2 (l : List Int) (hl : Tp l) (x : Topo) (n : Nat) (h3 : GI3 Gl l x n) : GI2 Gl l x n := by
 intro B j hD gs hgs c ja hja
 unfold gst genv
 refine pw_code rfl ?_
 refine zNq ?_
 (repeat' (first | refine zS ?_ | refine zq5 ?_ | refine zq6 ?_))
 (refine pl_op rfl (zCl [0] e17 (c13n l hl ja hja 3 (by decide) (by decide)) (fun r s hq => ?_)); obtain ⟨js, ⟨ms, hms, rfl⟩, hjs, rfl⟩ := hq; refine ⟨rfl, rfl, ?_⟩; (refine zNp ?_))
 (repeat' (first | refine zS ?_ | refine zq5 ?_ | refine zq6 ?_))
 refine zNq ?_
 refine pw_for hD (fun a : Nat × List TDef × ICaps × Nat => [(13, .int .i64 a.1)]) (fun a => gst l x ⟨gs, a.2.1, [], [], [], []⟩ a.2.2.1 a.2.2.2)
  (fun a => a.1 + a.2.1.length ≤ 2 ∧ GDefs sn3 GSItem a.2.1 ∧ a.2.2.2 ≤ l.length) (fun a => a.1) (ms, [], c, js) ⟨by dsimp only; simp; omega, ⟨by simp, by simp⟩, hjs⟩ 10 rfl (fun _ => rfl)
  (by unfold gst; (exact zLes)) (fun _ => rfl) (fun _ => rfl) zLe ?_
 rintro ⟨k, ss, c, ja⟩ ⟨hk, hss, hja⟩
 dsimp only at hk hss hja ⊢
 unfold gst
 refine zNq ?_
 (repeat' (first | refine zS ?_ | refine zq5 ?_ | refine zq6 ?_))
 refine zT ?_ ?_ <;> intro h <;> refine zNq ?_
 ·have h3 : ss.length < 3 := by omega
  (repeat' (first | refine zS ?_ | refine zq5 ?_ | refine zq6 ?_))
  (refine pl_op rfl (op_of (v_index (p := .str (sn3.getD ss.length [])) hT rfl rfl rfl rfl (by omega) (lit_at .str sn3 ss.length [] h3) rfl) ?_); (refine zNp ?_))
  (repeat' (first | refine zS ?_ | refine zq5 ?_ | refine zq6 ?_))
  (refine pl_op rfl (zCl [0] e17 (c13n l hl ja hja 2 (by decide) (by decide)) (fun r s hq => ?_)); obtain ⟨jb, ⟨m2, hm2, rfl⟩, hjb, rfl⟩ := hq; refine ⟨rfl, rfl, ?_⟩; (refine zNp ?_))
  (repeat' (first | refine zS ?_ | refine zq5 ?_ | refine zq6 ?_))
  refine pw_ghost 7 ?_
  refine zNq ?_
  rw [show (1 : Int) + (m2 : Int) = ((1 + m2 : Nat) : Int) by omega]
  refine pw_for hD (fun a : Nat × List TItem × Nat × Nat => [(15, .int .i64 a.1)]) (fun a => gst l x ⟨gs, ss, [], [], [], []⟩ c a.2.2.2 ++ [.box [.str (sn3.getD ss.length []), .msl 7 11 0 (a.2.1.map eItem).length a.2.2.1], .arr 7 (a.2.1.map eItem) a.2.2.1])
   (fun a => (a.1 + a.2.1.length = 1 + m2) ∧ (∀ y ∈ a.2.1, GSItem y) ∧ a.2.2.2 ≤ l.length) (fun a => a.1) (1 + m2, [], 0, jb) ⟨by simp, by simp, hjb⟩ 12 rfl (fun _ => rfl)
   (by unfold gst; exact ⟨.inl rfl, .inl rfl, .inl rfl, .inl rfl, .inl rfl, .inl rfl, .inl rfl, .inl rfl, .inl rfl, .inl rfl, .inr (.inr ⟨_, _, rfl, rfl, zLe⟩), .inl rfl, trivial⟩) (fun _ => rfl) (fun _ => rfl) zLe ?_
  rintro ⟨m, its, ci, jc⟩ ⟨hm, hits, hjc⟩
  dsimp only at hm hits hjc ⊢
  unfold gst
  refine zNq ?_
  (repeat' (first | refine zS ?_ | refine zq5 ?_ | refine zq6 ?_))
  refine zT ?_ ?_ <;> intro h2 <;> refine zNq ?_
  ·have hit : its.length < 2 := by omega
   (repeat' (first | refine zS ?_ | refine zq5 ?_ | refine zq6 ?_))
   (refine pl_op rfl (zCl [0] e17 (c13n l hl jc hjc 5 (by decide) (by decide)) (fun r s hq => ?_)); obtain ⟨jd, ⟨mp, hmp, rfl⟩, hjd, rfl⟩ := hq; refine ⟨rfl, rfl, ?_⟩; (refine zNp ?_))
   (refine pl_op rfl (op_of (v_index (p := .int .i64 (protos5.getD mp 0)) hT rfl rfl rfl rfl (by omega) (lit_at (.int .i64) protos5 mp 0 hmp) rfl) ?_); (refine zNp ?_))
   have hp4 : protos5.getD mp 0 = 6 ∨ protos5.getD mp 0 = 17 ∨ protos5.getD mp 0 = 1 ∨ protos5.getD mp 0 = 50 := by
    have := getD_mem (L := protos5) (d := 0) hmp
    simp only [protos5, List.mem_cons, List.mem_nil_iff, or_false] at this ⊢
    omega
   generalize protos5.getD mp 0 = p at hp4 ⊢
   (repeat (first | refine pl_pure hT rfl ?_ | (refine pl_op rfl (op_storeF hT rfl rfl rfl rfl rfl rfl rfl rfl (Nat.le_of_ble_eq_true rfl) ?_); (first | refine pl_norm rfl ?_ | refine pl_normE rfl ?_))))
   (refine pl_op rfl (op_alloc hT rfl rfl ?_); (refine zNp ?_))
   (repeat (first | refine pl_pure hT rfl ?_ | (refine pl_op rfl (op_storeF hT rfl rfl rfl rfl rfl rfl rfl rfl (Nat.le_of_ble_eq_true rfl) ?_); (first | refine pl_norm rfl ?_ | refine pl_normE rfl ?_))))
   refine pl_nil ?_
   refine zNq ?_
   refine pw_seq ?_
   refine pw_joinX hD (fun a : Nat × TItem => a.1 ≤ l.length ∧ GSItem a.2) (fun _ => []) (fun a => gst l x ⟨gs, ss, [], [], [], []⟩ c a.1 ++ [.box [.str (sn3.getD ss.length []), .msl 7 11 0 (its.map eItem).length ci], .arr 7 (its.map eItem) ci, .box (eItem a.2).cells]) 13 rfl (fun _ => rfl) (fun _ => rfl) (fun _ => rfl) ?_ ?_
   ·rcases hp4 with rfl | rfl | rfl | rfl
    ·(repeat' (first | refine zS ?_ | refine zq5 ?_ | refine zq6 ?_))
     (refine pl_op rfl (zCl [0] e38 (c_gRange l hl jd hjd 65535 (by decide) (by decide)) (fun r s hq => ?_)); obtain ⟨jf, ⟨r, hr, rfl⟩, hjf, rfl⟩ := hq; refine ⟨rfl, rfl, ?_⟩; (refine zNp ?_))
     (repeat' (first | refine zS ?_ | refine zq5 ?_ | refine zq6 ?_))
     exact ⟨(jf, ⟨4, [], pfx0, 6, r⟩), ⟨hjf, .inl ⟨6, r, .inl rfl, hr, rfl⟩⟩, zLe, zLes⟩
    ·(repeat' (first | refine zS ?_ | refine zq5 ?_ | refine zq6 ?_))
     (refine pl_op rfl (zCl [0] e38 (c_gRange l hl jd hjd 65535 (by decide) (by decide)) (fun r s hq => ?_)); obtain ⟨jf, ⟨r, hr, rfl⟩, hjf, rfl⟩ := hq; refine ⟨rfl, rfl, ?_⟩; (refine zNp ?_))
     (repeat' (first | refine zS ?_ | refine zq5 ?_ | refine zq6 ?_))
     exact ⟨(jf, ⟨4, [], pfx0, 17, r⟩), ⟨hjf, .inl ⟨17, r, .inr rfl, hr, rfl⟩⟩, zLe, zLes⟩
    ·(repeat' (first | refine zS ?_ | refine zq5 ?_ | refine zq6 ?_))
     exact ⟨(jd, ⟨4, [], pfx0, 1, ⟨8, 8⟩⟩), ⟨hjd, .inr (.inl rfl)⟩, zLe, zLes⟩
    ·(repeat' (first | refine zS ?_ | refine zq5 ?_ | refine zq6 ?_))
     exact ⟨(jd, ⟨4, [], pfx0, 50, rng0⟩), ⟨hjd, .inr (.inr (.inl rfl))⟩, zLe, zLes⟩
   rintro ⟨jg, y⟩ ⟨hjg, hy⟩
   dsimp only at hjg hy ⊢
   unfold gst
   refine zNq ?_
   refine pw_seq ?_
   refine pw_room 5 rfl fun hroom => ?_
   refine pw_joinX hD (fun a : Nat × TItem => a.1 ≤ l.length ∧ GSItem a.2) (fun _ => []) (fun a => gst l x ⟨gs, ss, [], [], [], []⟩ c a.1 ++ [.box [.str (sn3.getD ss.length []), .msl 7 11 0 (its.map eItem).length ci], .arr 7 (its.map eItem) ci, .box (eItem a.2).cells]) 13 rfl (fun _ => rfl) (fun _ => rfl) (fun _ => rfl) ?_ ?_
   ·(repeat' (first | refine zS ?_ | refine zq5 ?_ | refine zq6 ?_))
    refine pl_split 135 rfl (fun hw => ?_) (fun hw => ?_)
    ·have hw0 : 0 < ss.length := by simpa using hw
     (repeat' (first | refine zS ?_ | refine zq5 ?_ | refine zq6 ?_))
     (refine pl_on rfl rfl (zCl [0] e17 (c13n l hl jg hjg 4 (by decide) (by decide)) (fun r s hq => ?_)); obtain ⟨jf, ⟨m3, hm3, rfl⟩, hjf, rfl⟩ := hq; refine ⟨rfl, rfl, ?_⟩; (refine zNp ?_))
     (repeat' (first | refine zS ?_ | refine zq5 ?_ | refine zq6 ?_))
     refine zT ?_ ?_ <;> intro h4 <;> refine zNq ?_
     ·have hx0 : (ss.map eDef)[0]? = some (eDef (ss.getD 0 default)) := by rw [List.getElem?_map, List.getD, List.getElem?_eq_getElem hw0]; rfl
      have hnm : (ss.getD 0 default).name = [119, 101, 98] := (hss.2 0 _ (by rw [List.getD, List.getElem?_eq_getElem hw0]; rfl)).1
      have hroom2 : ss.length ≤ c.2.1 := by simpa using hroom
      (repeat' (first | refine zS ?_ | refine zq5 ?_ | refine zq6 ?_))
      (refine pl_op rfl (op_of (v_indexm hT rfl rfl rfl rfl rfl (by decide) (by show (0 : Int) < ((ss.map eDef).length : Int); rw [List.length_map]; omega) (by omega)) ?_); (refine zNp ?_))
      (repeat' (first | refine zS ?_ | refine zq5 ?_ | refine zq6 ?_))
      (refine pl_op rfl (op_loadE (x0 := eDef (ss.getD 0 default)) hT rfl rfl rfl rfl rfl (by omega) (hx0) rfl ?_); (refine zNp ?_))
      rw [hnm]
      (repeat' (first | refine zS ?_ | refine zq5 ?_ | refine zq6 ?_))
      exact ⟨(jf, ⟨3, [119, 101, 98], pfx0, 0, rng0⟩), ⟨hjf, .inr (.inr (.inr rfl))⟩, zLe, zLes⟩
     ·(repeat' (first | refine zS ?_ | refine zq5 ?_ | refine zq6 ?_))
      exact ⟨(jf, y), ⟨hjf, hy⟩, zLe, zLes⟩
    ·(repeat' (first | refine zS ?_ | refine zq5 ?_ | refine zq6 ?_))
     exact ⟨(jg, y), ⟨hjg, hy⟩, zLe, zLes⟩
   rintro ⟨jh, y2⟩ ⟨hjh, hy2⟩
   dsimp only at hjh hy2 ⊢
   unfold gst
   refine zNq ?_
   (repeat' (first | refine zS ?_ | refine zq5 ?_ | refine zq6 ?_))
   (refine pl_append (b := 56) hT hD rfl rfl rfl rfl rfl rfl rfl rfl (.inl (Nat.zero_lt_succ _)) rfl rfl (by simp; omega) (fun cap1 _ hcap => ?_); (refine zNp ?_))
   (repeat' (first | refine zS ?_ | refine zq5 ?_ | refine zq6 ?_))
   refine ⟨(m - 1, its ++ [y2], cap1, jh), ⟨by rw [List.length_append, List.length_singleton]; omega, fun z hz => ?_, hjh⟩, by dsimp only; omega, ?_, ?_⟩
   ·rcases List.mem_append.1 hz with hz | hz
    ·exact hits z hz
    ·rw [List.mem_singleton.1 hz]; exact hy2
   all_goals simp only [List.map_append, List.length_append]
   ·rw [show ((m - 1 : Nat) : Int) = (m : Int) - 1 by omega]
    (exact zLe)
   ·exact ⟨.inl rfl, .inl rfl, .inl rfl, .inl rfl, .inl rfl, .inl rfl, .inl rfl, .inl rfl, .inl rfl, .inl rfl, .inl rfl, .inl rfl, trivial⟩
  ·refine pw_exit ?_
   refine pw_frzB 11 10 (cs1 := [.str (sn3.getD ss.length [])]) (cs2 := []) rfl rfl rfl (by decide) ?_
   refine pw_normV rfl ?_
   refine zNq ?_
   (repeat' (first | refine zS ?_ | refine zq5 ?_ | refine zq6 ?_))
   (refine pl_append (b := 40) hT hD rfl rfl rfl rfl rfl rfl rfl rfl (.inl (Nat.zero_lt_succ _)) rfl rfl (by simp; omega) (fun cap1 _ hcap => ?_); (refine zNp ?_))
   (repeat' (first | refine zS ?_ | refine zq5 ?_ | refine zq6 ?_))
   refine ⟨(k - 1, ss ++ [⟨sn3.getD ss.length [], its⟩], (c.1, cap1, c.2.2), jc), ⟨by rw [List.length_append, List.length_singleton]; omega, hss.snoc h3 (by omega) hits, hjc⟩, by dsimp only; omega, ?_, ?_⟩
   all_goals simp only [List.map_append, List.length_append]
   ·rw [show ((k - 1 : Nat) : Int) = (k : Int) - 1 by omega]
    (exact zLe)
   ·exact ⟨.inl rfl, .inl rfl, .inl rfl, .inl rfl, .inl rfl, .inl rfl, .inl rfl, .inl rfl, .inl rfl, .inl rfl, trivial⟩
 ·obtain rfl : k = 0 := by omega
  clear h hk
  refine pw_exit ?_
  refine pw_less (st' := gst l x ⟨gs, ss, [], [], [], []⟩ c ja) (env' := genv x n) zLe (by unfold gst; (exact zLes)) (h3 B j hD gs hgs ss hss c ja hja)
theorem gI3 (l : List Int) (hl : Tp l) (x : Topo) (n : Nat) (h4 : GI4 Gl l x n) : GI3 Gl l x n := by
 intro B j hD gs hgs ss hss c ja hja
 unfold gst genv
 refine pw_code rfl ?_
 refine zNq ?_
 (repeat' (first | refine zS ?_ | refine zq5 ?_ | refine zq6 ?_))
 (refine pl_op rfl (zCl [0] e17 (c13n l hl ja hja 2 (by decide) (by decide)) (fun r s hq => ?_)); obtain ⟨jb, ⟨mb, hmb, rfl⟩, hjb, rfl⟩ := hq; refine ⟨rfl, rfl, ?_⟩; (refine zNp ?_))
 (repeat' (first | refine zS ?_ | refine zq5 ?_ | refine zq6 ?_))
 refine zNq ?_
 refine pw_joinX hD (fun a : Nat × List TWin × Nat => a.1 ≤ l.length ∧ (a.2.1 = [] ∨ ∃ q, QW q ∧ a.2.1 = [⟨[119, 111, 114, 107], (wParse (wWords q)).1⟩])) (fun _ => [(160, .any)])
  (fun a => [tape l a.1, .box (eTopo x).cells, gI0, .box [.msl 2 4 0 (gs.map eDef).length c.1, .msl 2 5 0 (ss.map eDef).length c.2.1, .msl 2 10 0 (a.2.1.map eWin).length a.2.2, .msl 10 7 0 (([] : List TStm).map eStm).length c.2.2.2.1, .msl 6 8 0 (([] : List TPub).map ePub).length c.2.2.2.2.1, .msl 5 9 0 (([] : List THid).map eHid).length c.2.2.2.2.2],
   .arr 2 (gs.map eDef) c.1, .arr 2 (ss.map eDef) c.2.1, .dead, .arr 10 (([] : List TStm).map eStm) c.2.2.2.1, .arr 6 (([] : List TPub).map ePub) c.2.2.2.2.1, .arr 5 (([] : List THid).map eHid) c.2.2.2.2.2, .arr 2 (a.2.1.map eWin) a.2.2]) 11 rfl (fun _ => rfl) (fun _ => rfl) (fun _ => rfl) ?_ ?_
 ·refine zT ?_ ?_ <;> intro h1 <;> refine zNq ?_
  ·(repeat' (first | refine zS ?_ | refine zq5 ?_ | refine zq6 ?_))
   refine zDr [[0,1,2],[3],[4,5],[6],[7],[8]] ?_
   refine zDn ?_
   refine zD ?_
   (refine po_step rfl rfl (zCl [0] e39 (c_gWindow l hl jb hjb) (fun r s hq => ?_)); obtain ⟨jw, ⟨q, hq, rfl⟩, hjw, rfl⟩ := hq; refine ⟨rfl, rfl, zLok, ?_⟩; refine zDn ?_)
   refine zD ?_
   (refine po_step rfl rfl (op_append (b := 40) hT rfl rfl rfl rfl rfl rfl (.inl (Nat.zero_lt_succ _)) rfl rfl (by simp) (fun cap1 _ hcap => ⟨zLok, ?_⟩)); refine zDn ?_)
   refine zD ?_
   exact ⟨(jw, [⟨[119, 111, 114, 107], (wParse (wWords q)).1⟩], cap1), ⟨hjw, .inr ⟨q, hq, rfl⟩⟩, zLe, zLes⟩
  ·refine pw_ghost 2 ?_
   refine zNq ?_
   (refine pw_mv 10 6 hD rfl rfl rfl rfl rfl ?_; refine pw_norm rfl ?_)
   (repeat' (first | refine zS ?_ | refine zq5 ?_ | refine zq6 ?_))
   exact ⟨(jb, [], c.2.2.1), ⟨hjb, .inl rfl⟩, zLe, zLes⟩
 rintro ⟨jw, ws, cw⟩ ⟨hjw, hws⟩
 dsimp only at hjw hws ⊢
 refine zNq ?_
 (refine pw_mv 6 10 hD rfl rfl rfl rfl rfl ?_; refine pw_norm rfl ?_)
 (refine pw_trim 10 hD rfl rfl ?_; refine pw_norm rfl ?_)
 refine zNq ?_
 have hwl : ws.length ≤ 1 := by
  rcases hws with rfl | ⟨q, _, rfl⟩
  ·exact Nat.zero_le _
  ·exact Nat.le_refl _
 refine pw_less (st' := gst l x ⟨gs, ss, ws, [], [], []⟩ (c.1, c.2.1, cw, c.2.2.2) jw) (env' := genv x n) zLe (by unfold gst; (exact zLes)) (h4 B j hD gs hgs ss hss ws hws _ jw hjw)
theorem gI4 (l : List Int) (hl : Tp l) (x : Topo) (n : Nat) (hn : n < 900) (hxd : x.devs.length < 900) (h5 : GI5 Gl l x n) : GI4 Gl l x n := by
 intro B j hD gs hgs ss hss ws hws c jw hjw
 have hwl := hws.len
 unfold gst genv
 refine pw_code rfl ?_
 refine zNq ?_
 refine zNq ?_
 refine pw_frzB 4 3 (cs1 := []) rfl rfl rfl (by decide) ?_
 refine pw_normV rfl ?_
 refine pw_frzB 5 3 (cs1 := [.sl (gs.map eDef)]) rfl rfl rfl (by decide) ?_
 refine pw_normV rfl ?_
 refine pw_frzB 6 3 (cs1 := [.sl (gs.map eDef), .sl (ss.map eDef)]) rfl rfl rfl (by decide) ?_
 refine pw_normV rfl ?_
 refine zNq ?_
 (repeat' (first | refine zS ?_ | refine zq5 ?_ | refine zq6 ?_))
 rw [show (n : Int) + 1 = ((n + 1 : Nat) : Int) by omega]
 (refine pl_op rfl (zCl [0] e17 (c13n l hl jw hjw (n + 1) (by omega) (by omega)) (fun r s hq => ?_)); obtain ⟨jb2, ⟨ms2, hms2, rfl⟩, hjb2, rfl⟩ := hq; refine ⟨rfl, rfl, ?_⟩; (refine zNp ?_))
 (repeat' (first | refine zS ?_ | refine zq5 ?_ | refine zq6 ?_))
 refine zNq ?_
 refine pw_for hD (fun a : Nat × List TStm × Nat × Nat => [(17, .int .i64 a.1)]) (fun a => hst l x ⟨gs, ss, ws, a.2.1, [], []⟩ a.2.2.1 c.2.2.2.2.1 c.2.2.2.2.2 a.2.2.2)
  (fun a => a.1 + a.2.1.length ≤ n ∧ (∀ s ∈ a.2.1, GStm x ⟨gs, ss, ws, [], [], []⟩ s) ∧ a.2.2.2 ≤ l.length) (fun a => a.1) (ms2, [], c.2.2.2.1, jb2) ⟨by dsimp only; simp; omega, by simp, hjb2⟩ 10 rfl (fun _ => rfl)
  (by unfold hst; (exact zLes)) (fun _ => rfl) (fun _ => rfl) zLe ?_
 rintro ⟨k, sts, cs, ja⟩ ⟨hk, hsts, hja⟩
 dsimp only at hk hsts hja ⊢
 unfold hst
 refine zNq ?_
 (repeat' (first | refine zS ?_ | refine zq5 ?_ | refine zq6 ?_))
 refine zT ?_ ?_ <;> intro h <;> refine zNq ?_
 ·have hgs1 := hgs.1
  have hss1 := hss.1
  (repeat' (first | refine zS ?_ | refine zq5 ?_ | refine zq6 ?_))
  refine zDr [[0,1,2,3,4],[5],[6],[7],[8],[9]] ?_
  refine zDn ?_
  refine po_free hT rfl ?_
  refine po_free hT rfl ?_
  refine po_free hT rfl ?_
  refine po_free hT rfl ?_
  refine po_weak (y := eInt3 ⟨gs, ss, ws, [], [], []⟩) hT rfl rfl rfl (.inr (.inr (.inr (.inr ⟨_, _, rfl, rfl, ⟨.inr (.inl rfl), .inr (.inl rfl), .inr (.inl rfl), .inl rfl, .inl rfl, .inl rfl, trivial⟩⟩)))) rfl ?_
  refine zDn ?_
  (refine po_step rfl rfl (zCl [0] e40 (c_gStatement l hl ja hja x ⟨gs, ss, ws, [], [], []⟩ (by dsimp only; omega) (by dsimp only; omega) (by dsimp only; omega) hxd) (fun r s hq => ?_)); obtain ⟨jd, ⟨s, hs, rfl⟩, hjd, rfl⟩ := hq; refine ⟨rfl, rfl, zLok, ?_⟩; refine zDn ?_)
  refine zD ?_
  (refine po_step rfl rfl (op_append (b := 136) hT rfl rfl rfl rfl rfl rfl (.inl (Nat.zero_lt_succ _)) rfl rfl (by simp; omega) (fun cap1 _ hcap => ⟨zLok, ?_⟩)); refine zDn ?_)
  refine zD ?_
  (refine pw_mv 7 10 hD rfl rfl rfl rfl rfl ?_; refine pw_norm rfl ?_)
  (repeat' (first | refine zS ?_ | refine zq5 ?_ | refine zq6 ?_))
  refine ⟨(k - 1, sts ++ [s], cap1, jd), ⟨by rw [List.length_append, List.length_singleton]; omega, fun z hz => ?_, hjd⟩, by dsimp only; omega, ?_, ?_⟩
  ·rcases List.mem_append.1 hz with hz | hz
   ·exact hsts z hz
   ·rw [List.mem_singleton.1 hz]; exact hs
  all_goals simp only [List.map_append, List.length_append]
  ·rw [show ((k - 1 : Nat) : Int) = (k : Int) - 1 by omega]
   (exact zLe)
  ·(exact zLes)
 ·obtain rfl : k = 0 := by omega
  clear h
  have hstl : sts.length ≤ n := by omega
  clear hk
  refine pw_exit ?_
  refine pw_less (st' := hst l x ⟨gs, ss, ws, sts, [], []⟩ cs c.2.2.2.2.1 c.2.2.2.2.2 ja) (env' := genv x n) zLe (by unfold hst; (exact zLes)) (h5 B j hD gs hgs ss hss ws hws sts hstl hsts cs _ _ ja hja)

end
end Go.Proofs.YtkaobkjcjodffaaGreatDoor