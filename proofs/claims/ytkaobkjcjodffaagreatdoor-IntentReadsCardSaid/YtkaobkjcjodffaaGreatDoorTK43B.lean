/-
 Plain laws of a topology's lines: the parser reads them back.
-/
import Derived.Test.YtkaobkjcjodffaaGreatDoorTK32
import Derived.Test.YtkaobkjcjodffaaGreatDoorTV1
set_option maxHeartbeats 20000000
set_option maxRecDepth 100000
namespace Go.Proofs.YtkaobkjcjodffaaGreatDoor
open Go Go.Pw
section
variable {Gl : Glob}
attribute [local irreducible] PW PWL OpP PCalls PWO wParse PWT bothT
theorem gI2 (l : List Int) (hl : Tp l) (x : Topo) (n : Nat) (h3 : GI3 Gl l x n) : GI2 Gl l x n := by
 intro B j hD gs hgs c ja hja
 unfold gst genv
 refine pw_code rfl ?_
 refine zNq ?_
 (repeat' (first | refine zS ?_ | refine zq5 ?_ | refine zq6 ?_))
 (refine pl_op rfl (zCl [0] e17 (c13n l hl ja hja 3 (by decide) (by decide)) (fun r s hq => ?_)); obtain ⟨js, ⟨ms, hms, rfl⟩, hjs, rfl⟩ := hq; refine ⟨rfl, rfl, ?_⟩; (refine zNp ?_))
 (repeat' (first | refine zS ?_ | refine zq5 ?_ | refine zq6 ?_))
 refine zNq ?_
 refine pw_for hD (fun a : Nat × List TDef × ICaps × Nat => [(13, .int .i64 a.1)]) (fun a => gst l x ⟨gs, a.2.1, [], [], [], []⟩ a.2.2.1 a.2.2.2)
  (fun a => a.1 + a.2.1.length ≤ 2 ∧ GDefs sn3 GSItem a.2.1 ∧ a.2.2.2 ≤ l.length) (fun a => a.1) (ms, [], c, js) ⟨by dsimp only; simp; omega, ⟨by simp, by simp⟩, hjs⟩ 10 rfl (fun _ => rfl)
  (by unfold gst; (exact zLes)) (fun _ => rfl) (fun _ => rfl) zLe ?_
 rintro ⟨k, ss, c, ja⟩ ⟨hk, hss, hja⟩
 dsimp only at hk hss hja ⊢
 unfold gst
 refine zNq ?_
 (repeat' (first | refine zS ?_ | refine zq5 ?_ | refine zq6 ?_))
 refine zT ?_ ?_ <;> intro h <;> refine zNq ?_
 ·have h3 : ss.length < 3 := by omega
  (repeat' (first | refine zS ?_ | refine zq5 ?_ | refine zq6 ?_))
  (refine pl_op rfl (op_of (v_index (p := .str (sn3.getD ss.length [])) hT rfl rfl rfl rfl (by omega) (lit_at .str sn3 ss.length [] h3) rfl) ?_); (refine zNp ?_))
  (repeat' (first | refine zS ?_ | refine zq5 ?_ | refine zq6 ?_))
  (refine pl_op rfl (zCl [0] e17 (c13n l hl ja hja 2 (by decide) (by decide)) (fun r s hq => ?_)); obtain ⟨jb, ⟨m2, hm2, rfl⟩, hjb, rfl⟩ := hq; refine ⟨rfl, rfl, ?_⟩; (refine zNp ?_))
  (repeat' (first | refine zS ?_ | refine zq5 ?_ | refine zq6 ?_))
  refine pw_ghost 7 ?_
  refine zNq ?_
  rw [show (1 : Int) + (m2 : Int) = ((1 + m2 : Nat) : Int) by omega]
  refine pw_for hD (fun a : Nat × List TItem × Nat × Nat => [(15, .int .i64 a.1)]) (fun a => gst l x ⟨gs, ss, [], [], [], []⟩ c a.2.2.2 ++ [.box [.str (sn3.getD ss.length []), .msl 7 11 0 (a.2.1.map eItem).length a.2.2.1], .arr 7 (a.2.1.map eItem) a.2.2.1])
   (fun a => (a.1 + a.2.1.length = 1 + m2) ∧ (∀ y ∈ a.2.1, GSItem y) ∧ a.2.2.2 ≤ l.length) (fun a => a.1) (1 + m2, [], 0, jb) ⟨by simp, by simp, hjb⟩ 12 rfl (fun _ => rfl)
   (by unfold gst; exact ⟨.inl rfl, .inl rfl, .inl rfl, .inl rfl, .inl rfl, .inl rfl, .inl rfl, .inl rfl, .inl rfl, .inl rfl, .inr (.inr ⟨_, _, rfl, rfl, zLe⟩), .inl rfl, trivial⟩) (fun _ => rfl) (fun _ => rfl) zLe ?_
  rintro ⟨m, its, ci, jc⟩ ⟨hm, hits, hjc⟩
  dsimp only at hm hits hjc ⊢
  unfold gst
  refine zNq ?_
  (repeat' (first | refine zS ?_ | refine zq5 ?_ | refine zq6 ?_))
  refine zT ?_ ?_ <;> intro h2 <;> refine zNq ?_
  ·have hit : its.length < 2 := by omega
   (repeat' (first | refine zS ?_ | refine zq5 ?_ | refine zq6 ?_))
   (refine pl_op rfl (zCl [0] e17 (c13n l hl jc hjc 5 (by decide) (by decide)) (fun r s hq => ?_)); obtain ⟨jd, ⟨mp, hmp, rfl⟩, hjd, rfl⟩ := hq; refine ⟨rfl, rfl, ?_⟩; (refine zNp ?_))
   (refine pl_op rfl (op_of (v_index (p := .int .i64 (protos5.getD mp 0)) hT rfl rfl rfl rfl (by omega) (lit_at (.int .i64) protos5 mp 0 hmp) rfl) ?_); (refine zNp ?_))
   have hp4 : protos5.getD mp 0 = 6 ∨ protos5.getD mp 0 = 17 ∨ protos5.getD mp 0 = 1 ∨ protos5.getD mp 0 = 50 := by
    have := getD_mem (L := protos5) (d := 0) hmp
    simp only [protos5, List.mem_cons, List.mem_nil_iff, or_false] at this ⊢
    omega
   generalize protos5.getD mp 0 = p at hp4 ⊢
   (repeat (first | refine pl_pure hT rfl ?_ | (refine pl_op rfl (op_storeF hT rfl rfl rfl rfl rfl rfl rfl rfl (Nat.le_of_ble_eq_true rfl) ?_); (first | refine pl_norm rfl ?_ | refine pl_normE rfl ?_))))
   (refine pl_op rfl (op_alloc hT rfl rfl ?_); (refine zNp ?_))
   (repeat (first | refine pl_pure hT rfl ?_ | (refine pl_op rfl (op_storeF hT rfl rfl rfl rfl rfl rfl rfl rfl (Nat.le_of_ble_eq_true rfl) ?_); (first | refine pl_norm rfl ?_ | refine pl_normE rfl ?_))))
   refine pl_nil ?_
   refine zNq ?_
   refine pw_seq ?_
   refine pw_joinX hD (fun a : Nat × TItem => a.1 ≤ l.length ∧ GSItem a.2) (fun _ => []) (fun a => gst l x ⟨gs, ss, [], [], [], []⟩ c a.1 ++ [.box [.str (sn3.getD ss.length []), .msl 7 11 0 (its.map eItem).length ci], .arr 7 (its.map eItem) ci, .box (eItem a.2).cells]) 13 rfl (fun _ => rfl) (fun _ => rfl) (fun _ => rfl) ?_ ?_
   ·rcases hp4 with rfl | rfl | rfl | rfl
    ·(repeat' (first | refine zS ?_ | refine zq5 ?_ | refine zq6 ?_))
     (refine pl_op rfl (zCl [0] e38 (c_gRange l hl jd hjd 65535 (by decide) (by decide)) (fun r s hq => ?_)); obtain ⟨jf, ⟨r, hr, rfl⟩, hjf, rfl⟩ := hq; refine ⟨rfl, rfl, ?_⟩; (refine zNp ?_))
     (repeat' (first | refine zS ?_ | refine zq5 ?_ | refine zq6 ?_))
     exact ⟨(jf, ⟨4, [], pfx0, 6, r⟩), ⟨hjf, .inl ⟨6, r, .inl rfl, hr, rfl⟩⟩, zLe, zLes⟩
    ·(repeat' (first | refine zS ?_ | refine zq5 ?_ | refine zq6 ?_))
     (refine pl_op rfl (zCl [0] e38 (c_gRange l hl jd hjd 65535 (by decide) (by decide)) (fun r s hq => ?_)); obtain ⟨jf, ⟨r, hr, rfl⟩, hjf, rfl⟩ := hq; refine ⟨rfl, rfl, ?_⟩; (refine zNp ?_))
     (repeat' (first | refine zS ?_ | refine zq5 ?_ | refine zq6 ?_))
     exact ⟨(jf, ⟨4, [], pfx0, 17, r⟩), ⟨hjf, .inl ⟨17, r, .inr rfl, hr, rfl⟩⟩, zLe, zLes⟩
    ·(repeat' (first | refine zS ?_ | refine zq5 ?_ | refine zq6 ?_))
     exact ⟨(jd, ⟨4, [], pfx0, 1, ⟨8, 8⟩⟩), ⟨hjd, .inr (.inl rfl)⟩, zLe, zLes⟩
    ·(repeat' (first | refine zS ?_ | refine zq5 ?_ | refine zq6 ?_))
     exact ⟨(jd, ⟨4, [], pfx0, 50, rng0⟩), ⟨hjd, .inr (.inr (.inl rfl))⟩, zLe, zLes⟩
   rintro ⟨jg, y⟩ ⟨hjg, hy⟩
   dsimp only at hjg hy ⊢
   unfold gst
   refine zNq ?_
   refine pw_seq ?_
   refine pw_room 5 rfl fun hroom => ?_
   refine pw_joinX hD (fun a : Nat × TItem => a.1 ≤ l.length ∧ GSItem a.2) (fun _ => []) (fun a => gst l x ⟨gs, ss, [], [], [], []⟩ c a.1 ++ [.box [.str (sn3.getD ss.length []), .msl 7 11 0 (its.map eItem).length ci], .arr 7 (its.map eItem) ci, .box (eItem a.2).cells]) 13 rfl (fun _ => rfl) (fun _ => rfl) (fun _ => rfl) ?_ ?_
   ·(repeat' (first | refine zS ?_ | refine zq5 ?_ | refine zq6 ?_))
    refine pl_split 135 rfl (fun hw => ?_) (fun hw => ?_)
    ·have hw0 : 0 < ss.length := by simpa using hw
     (repeat' (first | refine zS ?_ | refine zq5 ?_ | refine zq6 ?_))
     (refine pl_on rfl rfl (zCl [0] e17 (c13n l hl jg hjg 4 (by decide) (by decide)) (fun r s hq => ?_)); obtain ⟨jf, ⟨m3, hm3, rfl⟩, hjf, rfl⟩ := hq; refine ⟨rfl, rfl, ?_⟩; (refine zNp ?_))
     (repeat' (first | refine zS ?_ | refine zq5 ?_ | refine zq6 ?_))
     refine zT ?_ ?_ <;> intro h4 <;> refine zNq ?_
     ·have hx0 : (ss.map eDef)[0]? = some (eDef (ss.getD 0 default)) := by rw [List.getElem?_map, List.getD, List.getElem?_eq_getElem hw0]; rfl
      have hnm : (ss.getD 0 default).name = [119, 101, 98] := (hss.2 0 _ (by rw [List.getD, List.getElem?_eq_getElem hw0]; rfl)).1
      have hroom2 : ss.length ≤ c.2.1 := by simpa using hroom
      (repeat' (first | refine zS ?_ | refine zq5 ?_ | refine zq6 ?_))
      (refine pl_op rfl (op_of (v_indexm hT rfl rfl rfl rfl rfl (by decide) (by show (0 : Int) < ((ss.map eDef).length : Int); rw [List.length_map]; omega) (by omega)) ?_); (refine zNp ?_))
      (repeat' (first | refine zS ?_ | refine zq5 ?_ | refine zq6 ?_))
      (refine pl_op rfl (op_loadE (x0 := eDef (ss.getD 0 default)) hT rfl rfl rfl rfl rfl (by omega) (hx0) rfl ?_); (refine zNp ?_))
      rw [hnm]
      (repeat' (first | refine zS ?_ | refine zq5 ?_ | refine zq6 ?_))
      exact ⟨(jf, ⟨3, [119, 101, 98], pfx0, 0, rng0⟩), ⟨hjf, .inr (.inr (.inr rfl))⟩, zLe, zLes⟩
     ·(repeat' (first | refine zS ?_ | refine zq5 ?_ | refine zq6 ?_))
      exact ⟨(jf, y), ⟨hjf, hy⟩, zLe, zLes⟩
    ·(repeat' (first | refine zS ?_ | refine zq5 ?_ | refine zq6 ?_))
     exact ⟨(jg, y), ⟨hjg, hy⟩, zLe, zLes⟩
   rintro ⟨jh, y2⟩ ⟨hjh, hy2⟩
   dsimp only at hjh hy2 ⊢
   unfold gst
   refine zNq ?_
   (repeat' (first | refine zS ?_ | refine zq5 ?_ | refine zq6 ?_))
   (refine pl_append (b := 56) hT hD rfl rfl rfl rfl rfl rfl rfl rfl (.inl (Nat.zero_lt_succ _)) rfl rfl (by simp; omega) (fun cap1 _ hcap => ?_); (refine zNp ?_))
   (repeat' (first | refine zS ?_ | refine zq5 ?_ | refine zq6 ?_))
   refine ⟨(m - 1, its ++ [y2], cap1, jh), ⟨by rw [List.length_append, List.length_singleton]; omega, fun z hz => ?_, hjh⟩, by dsimp only; omega, ?_, ?_⟩
   ·rcases List.mem_append.1 hz with hz | hz
    ·exact hits z hz
    ·rw [List.mem_singleton.1 hz]; exact hy2
   all_goals simp only [List.map_append, List.length_append]
   ·rw [show ((m - 1 : Nat) : Int) = (m : Int) - 1 by omega]
    (exact zLe)
   ·exact ⟨.inl rfl, .inl rfl, .inl rfl, .inl rfl, .inl rfl, .inl rfl, .inl rfl, .inl rfl, .inl rfl, .inl rfl, .inl rfl, .inl rfl, trivial⟩
  ·refine pw_exit ?_
   refine pw_frzB 11 10 (cs1 := [.str (sn3.getD ss.length [])]) (cs2 := []) rfl rfl rfl (by decide) ?_
   refine pw_normV rfl ?_
   refine zNq ?_
   (repeat' (first | refine zS ?_ | refine zq5 ?_ | refine zq6 ?_))
   (refine pl_append (b := 40) hT hD rfl rfl rfl rfl rfl rfl rfl rfl (.inl (Nat.zero_lt_succ _)) rfl rfl (by simp; omega) (fun cap1 _ hcap => ?_); (refine zNp ?_))
   (repeat' (first | refine zS ?_ | refine zq5 ?_ | refine zq6 ?_))
   refine ⟨(k - 1, ss ++ [⟨sn3.getD ss.length [], its⟩], (c.1, cap1, c.2.2), jc), ⟨by rw [List.length_append, List.length_singleton]; omega, hss.snoc h3 (by omega) hits, hjc⟩, by dsimp only; omega, ?_, ?_⟩
   all_goals simp only [List.map_append, List.length_append]
   ·rw [show ((k - 1 : Nat) : Int) = (k : Int) - 1 by omega]
    (exact zLe)
   ·exact ⟨.inl rfl, .inl rfl, .inl rfl, .inl rfl, .inl rfl, .inl rfl, .inl rfl, .inl rfl, .inl rfl, .inl rfl, trivial⟩
 ·obtain rfl : k = 0 := by omega
  clear h hk
  refine pw_exit ?_
  refine pw_less (st' := gst l x ⟨gs, ss, [], [], [], []⟩ c ja) (env' := genv x n) zLe (by unfold gst; (exact zLes)) (h3 B j hD gs hgs ss hss c ja hja)
theorem gI3 (l : List Int) (hl : Tp l) (x : Topo) (n : Nat) (h4 : GI4 Gl l x n) : GI3 Gl l x n := by
 intro B j hD gs hgs ss hss c ja hja
 unfold gst genv
 refine pw_code rfl ?_
 refine zNq ?_
 (repeat' (first | refine zS ?_ | refine zq5 ?_ | refine zq6 ?_))
 (refine pl_op rfl (zCl [0] e17 (c13n l hl ja hja 2 (by decide) (by decide)) (fun r s hq => ?_)); obtain ⟨jb, ⟨mb, hmb, rfl⟩, hjb, rfl⟩ := hq; refine ⟨rfl, rfl, ?_⟩; (refine zNp ?_))
 (repeat' (first | refine zS ?_ | refine zq5 ?_ | refine zq6 ?_))
 refine zNq ?_
 refine pw_joinX hD (fun a : Nat × List TWin × Nat => a.1 ≤ l.length ∧ (a.2.1 = [] ∨ ∃ q, QW q ∧ a.2.1 = [⟨[119, 111, 114, 107], (wParse (wWords q)).1⟩])) (fun _ => [(160, .any)])
  (fun a => [tape l a.1, .box (eTopo x).cells, gI0, .box [.msl 2 4 0 (gs.map eDef).length c.1, .msl 2 5 0 (ss.map eDef).length c.2.1, .msl 2 10 0 (a.2.1.map eWin).length a.2.2, .msl 10 7 0 (([] : List TStm).map eStm).length c.2.2.2.1, .msl 6 8 0 (([] : List TPub).map ePub).length c.2.2.2.2.1, .msl 5 9 0 (([] : List THid).map eHid).length c.2.2.2.2.2],
   .arr 2 (gs.map eDef) c.1, .arr 2 (ss.map eDef) c.2.1, .dead, .arr 10 (([] : List TStm).map eStm) c.2.2.2.1, .arr 6 (([] : List TPub).map ePub) c.2.2.2.2.1, .arr 5 (([] : List THid).map eHid) c.2.2.2.2.2, .arr 2 (a.2.1.map eWin) a.2.2]) 11 rfl (fun _ => rfl) (fun _ => rfl) (fun _ => rfl) ?_ ?_
 ·refine zT ?_ ?_ <;> intro h1 <;> refine zNq ?_
  ·(repeat' (first | refine zS ?_ | refine zq5 ?_ | refine zq6 ?_))
   refine zDr [[0,1,2],[3],[4,5],[6],[7],[8]] ?_
   refine zDn ?_
   refine zD ?_
   (refine po_step rfl rfl (zCl [0] e39 (c_gWindow l hl jb hjb) (fun r s hq => ?_)); obtain ⟨jw, ⟨q, hq, rfl⟩, hjw, rfl⟩ := hq; refine ⟨rfl, rfl, zLok, ?_⟩; refine zDn ?_)
   refine zD ?_
   (refine po_step rfl rfl (op_append (b := 40) hT rfl rfl rfl rfl rfl rfl (.inl (Nat.zero_lt_succ _)) rfl rfl (by simp) (fun cap1 _ hcap => ⟨zLok, ?_⟩)); refine zDn ?_)
   refine zD ?_
   exact ⟨(jw, [⟨[119, 111, 114, 107], (wParse (wWords q)).1⟩], cap1), ⟨hjw, .inr ⟨q, hq, rfl⟩⟩, zLe, zLes⟩
  ·refine pw_ghost 2 ?_
   refine zNq ?_
   (refine pw_mv 10 6 hD rfl rfl rfl rfl rfl ?_; refine pw_norm rfl ?_)
   (repeat' (first | refine zS ?_ | refine zq5 ?_ | refine zq6 ?_))
   exact ⟨(jb, [], c.2.2.1), ⟨hjb, .inl rfl⟩, zLe, zLes⟩
 rintro ⟨jw, ws, cw⟩ ⟨hjw, hws⟩
 dsimp only at hjw hws ⊢
 refine zNq ?_
 (refine pw_mv 6 10 hD rfl rfl rfl rfl rfl ?_; refine pw_norm rfl ?_)
 (refine pw_trim 10 hD rfl rfl ?_; refine pw_norm rfl ?_)
 refine zNq ?_
 have hwl : ws.length ≤ 1 := by
  rcases hws with rfl | ⟨q, _, rfl⟩
  ·exact Nat.zero_le _
  ·exact Nat.le_refl _
 refine pw_less (st' := gst l x ⟨gs, ss, ws, [], [], []⟩ (c.1, c.2.1, cw, c.2.2.2) jw) (env' := genv x n) zLe (by unfold gst; (exact zLes)) (h4 B j hD gs hgs ss hss ws hws _ jw hjw)
theorem gI4 (l : List Int) (hl : Tp l) (x : Topo) (n : Nat) (hn : n < 900) (hxd : x.devs.length < 900) (h5 : GI5 Gl l x n) : GI4 Gl l x n := by
 intro B j hD gs hgs ss hss ws hws c jw hjw
 have hwl := hws.len
 unfold gst genv
 refine pw_code rfl ?_
 refine zNq ?_
 refine zNq ?_
 refine pw_frzB 4 3 (cs1 := []) rfl rfl rfl (by decide) ?_
 refine pw_normV rfl ?_
 refine pw_frzB 5 3 (cs1 := [.sl (gs.map eDef)]) rfl rfl rfl (by decide) ?_
 refine pw_normV rfl ?_
 refine pw_frzB 6 3 (cs1 := [.sl (gs.map eDef), .sl (ss.map eDef)]) rfl rfl rfl (by decide) ?_
 refine pw_normV rfl ?_
 refine zNq ?_
 (repeat' (first | refine zS ?_ | refine zq5 ?_ | refine zq6 ?_))
 rw [show (n : Int) + 1 = ((n + 1 : Nat) : Int) by omega]
 (refine pl_op rfl (zCl [0] e17 (c13n l hl jw hjw (n + 1) (by omega) (by omega)) (fun r s hq => ?_)); obtain ⟨jb2, ⟨ms2, hms2, rfl⟩, hjb2, rfl⟩ := hq; refine ⟨rfl, rfl, ?_⟩; (refine zNp ?_))
 (repeat' (first | refine zS ?_ | refine zq5 ?_ | refine zq6 ?_))
 refine zNq ?_
 refine pw_for hD (fun a : Nat × List TStm × Nat × Nat => [(17, .int .i64 a.1)]) (fun a => hst l x ⟨gs, ss, ws, a.2.1, [], []⟩ a.2.2.1 c.2.2.2.2.1 c.2.2.2.2.2 a.2.2.2)
  (fun a => a.1 + a.2.1.length ≤ n ∧ (∀ s ∈ a.2.1, GStm x ⟨gs, ss, ws, [], [], []⟩ s) ∧ a.2.2.2 ≤ l.length) (fun a => a.1) (ms2, [], c.2.2.2.1, jb2) ⟨by dsimp only; simp; omega, by simp, hjb2⟩ 10 rfl (fun _ => rfl)
  (by unfold hst; (exact zLes)) (fun _ => rfl) (fun _ => rfl) zLe ?_
 rintro ⟨k, sts, cs, ja⟩ ⟨hk, hsts, hja⟩
 dsimp only at hk hsts hja ⊢
 unfold hst
 refine zNq ?_
 (repeat' (first | refine zS ?_ | refine zq5 ?_ | refine zq6 ?_))
 refine zT ?_ ?_ <;> intro h <;> refine zNq ?_
 ·have hgs1 := hgs.1
  have hss1 := hss.1
  (repeat' (first | refine zS ?_ | refine zq5 ?_ | refine zq6 ?_))
  refine zDr [[0,1,2,3,4],[5],[6],[7],[8],[9]] ?_
  refine zDn ?_
  refine po_free hT rfl ?_
  refine po_free hT rfl ?_
  refine po_free hT rfl ?_
  refine po_free hT rfl ?_
  refine po_weak (y := eInt3 ⟨gs, ss, ws, [], [], []⟩) hT rfl rfl rfl (.inr (.inr (.inr (.inr ⟨_, _, rfl, rfl, ⟨.inr (.inl rfl), .inr (.inl rfl), .inr (.inl rfl), .inl rfl, .inl rfl, .inl rfl, trivial⟩⟩)))) rfl ?_
  refine zDn ?_
  (refine po_step rfl rfl (zCl [0] e40 (c_gStatement l hl ja hja x ⟨gs, ss, ws, [], [], []⟩ (by dsimp only; omega) (by dsimp only; omega) (by dsimp only; omega) hxd) (fun r s hq => ?_)); obtain ⟨jd, ⟨s, hs, rfl⟩, hjd, rfl⟩ := hq; refine ⟨rfl, rfl, zLok, ?_⟩; refine zDn ?_)
  refine zD ?_
  (refine po_step rfl rfl (op_append (b := 136) hT rfl rfl rfl rfl rfl rfl (.inl (Nat.zero_lt_succ _)) rfl rfl (by simp; omega) (fun cap1 _ hcap => ⟨zLok, ?_⟩)); refine zDn ?_)
  refine zD ?_
  (refine pw_mv 7 10 hD rfl rfl rfl rfl rfl ?_; refine pw_norm rfl ?_)
  (repeat' (first | refine zS ?_ | refine zq5 ?_ | refine zq6 ?_))
  refine ⟨(k - 1, sts ++ [s], cap1, jd), ⟨by rw [List.length_append, List.length_singleton]; omega, fun z hz => ?_, hjd⟩, by dsimp only; omega, ?_, ?_⟩
  ·rcases List.mem_append.1 hz with hz | hz
   ·exact hsts z hz
   ·rw [List.mem_singleton.1 hz]; exact hs
  all_goals simp only [List.map_append, List.length_append]
  ·rw [show ((k - 1 : Nat) : Int) = (k : Int) - 1 by omega]
   (exact zLe)
  ·(exact zLes)
 ·obtain rfl : k = 0 := by omega
  clear h
  have hstl : sts.length ≤ n := by omega
  clear hk
  refine pw_exit ?_
  refine pw_less (st' := hst l x ⟨gs, ss, ws, sts, [], []⟩ cs c.2.2.2.2.1 c.2.2.2.2.2 ja) (env' := genv x n) zLe (by unfold hst; (exact zLes)) (h5 B j hD gs hgs ss hss ws hws sts hstl hsts cs _ _ ja hja)
theorem gI5 (l : List Int) (hl : Tp l) (x : Topo) (n : Nat) (hx : x.edges.length < 900) (hxe : ∀ e ∈ x.edges, PfxIn e.pfx) (h6 : GI6 Gl l x n) : GI5 Gl l x n := by
 intro B j hD gs hgs ss hss ws hws sts hstl hsts cs c4 c5 ja hja
 unfold hst genv
 refine pw_code rfl ?_
 refine zNq ?_
 refine zNq ?_
 refine pw_seq ?_
 refine pw_joinX hD (fun a : Nat × List TPub × Nat => a.1 ≤ l.length ∧ a.2.1.length ≤ 1 ∧ ∀ p ∈ a.2.1, PubG x p) (fun _ => [])
  (fun a => [tape l a.1, .box (eTopo x).cells, gI0, .box [.sl (gs.map eDef), .sl (ss.map eDef), .sl (ws.map eWin), .msl 10 7 0 (sts.map eStm).length cs, .msl 6 11 0 (a.2.1.map ePub).length a.2.2, .msl 5 9 0 (([] : List THid).map eHid).length c5],
   .dead, .dead, .dead, .arr 10 (sts.map eStm) cs, .dead, .arr 5 (([] : List THid).map eHid) c5, .dead, .arr 6 (a.2.1.map ePub) a.2.2]) 12 rfl (fun _ => rfl) (fun _ => rfl) (fun _ => rfl) ?_ ?_
 ·(repeat' (first | refine zS ?_ | refine zq5 ?_ | refine zq6 ?_))
  refine pl_split 190 rfl (fun hw => ?_) (fun hw => ?_)
  ·have hw0 : 1 < x.edges.length := by simp at hw; omega
   have hx0 : (x.edges.map eEdge)[(0 : Int).toNat]? = some (eEdge (x.edges.getD 0 gedge0)) := by
    show (x.edges.map eEdge)[0]? = _
    rw [List.getElem?_map, List.getD, List.getElem?_eq_getElem (by omega)]; rfl
   have hx1 : (x.edges.map eEdge)[(1 : Int).toNat]? = some (eEdge (x.edges.getD 1 gedge0)) := by
    show (x.edges.map eEdge)[1]? = _
    rw [List.getElem?_map, List.getD, List.getElem?_eq_getElem hw0]; rfl
   (repeat' (first | refine zS ?_ | refine zq5 ?_ | refine zq6 ?_))
   (refine pl_on rfl rfl (zCl [0] e17 (c13n l hl ja hja 2 (by decide) (by decide)) (fun r s hq => ?_)); obtain ⟨jp, ⟨mp, hmp, rfl⟩, hjp, rfl⟩ := hq; refine ⟨rfl, rfl, ?_⟩; (refine zNp ?_))
   (repeat' (first | refine zS ?_ | refine zq5 ?_ | refine zq6 ?_))
   refine zT ?_ ?_ <;> intro h1 <;> refine zNq ?_
   ·(repeat' (first | refine zS ?_ | refine zq5 ?_ | refine zq6 ?_))
    (refine pl_op rfl (op_of (v_index (p := eEdge (x.edges.getD 1 gedge0)) hT rfl rfl rfl rfl (by omega) (hx1) rfl) ?_); (refine zNp ?_))
    (repeat' (first | refine zS ?_ | refine zq5 ?_ | refine zq6 ?_))
    have hro := rof_range (hxe _ (getD_mem (d := gedge0) hw0))
    (refine pl_op rfl (op_fun (c54 (x.edges.getD 1 gedge0).pfx) rfl rfl e41 zLe rfl (fun r hr => ?_)); subst hr; refine ⟨rfl, ?_⟩; (refine zNp ?_))
    generalize rof (x.edges.getD 1 gedge0).pfx = ro at hro ⊢
    (repeat' (first | refine zS ?_ | refine zq5 ?_ | refine zq6 ?_))
    refine zDr [[0,1,2,3,7,10,11,12,13,14,15,16,17],[4],[5,6],[8],[9],[18],[19,20,21],[22],[23],[24]] ?_
    refine zDn ?_
    refine zD ?_
    (refine po_val rfl rfl (v_index (p := eEdge (x.edges.getD 0 gedge0)) hT rfl rfl rfl rfl (by decide) hx0 rfl) ?_; refine zDn ?_)
    refine zD ?_
    (refine po_step rfl rfl (zCl [0] e17 (c13n l hl jp hjp 2 (by decide) (by decide)) (fun r s hq => ?_)); obtain ⟨j5, ⟨m5, hm5, rfl⟩, hj5, rfl⟩ := hq; refine ⟨rfl, rfl, zLok, ?_⟩; refine zDn ?_)
    (refine po_val rfl rfl (v_index (p := .int .i64 (protos2.getD m5 0)) hT rfl rfl rfl rfl (by omega) (lit_at (.int .i64) protos2 m5 0 hm5) rfl) ?_; refine zDn ?_)
    refine zD ?_
    (refine po_step rfl rfl (zCl [0] e42 (c_gNumber l hl j5 hj5 65535 (by decide) (by decide)) (fun r s hq => ?_)); obtain ⟨j6, ⟨v1, hv1, rfl⟩, hj6, rfl⟩ := hq; refine ⟨rfl, rfl, zLok, ?_⟩; refine zDn ?_)
    refine zD ?_
    (refine po_step rfl rfl (zCl [0] e42 (c_gNumber l hl j6 hj6 65535 (by decide) (by decide)) (fun r s hq => ?_)); obtain ⟨j7, ⟨v2, hv2, rfl⟩, hj7, rfl⟩ := hq; refine ⟨rfl, rfl, zLok, ?_⟩; refine zDn ?_)
    refine zD ?_
    (refine po_step rfl rfl (op_append (b := 56) hT rfl rfl rfl rfl rfl rfl (.inl (Nat.zero_lt_succ _)) rfl rfl (by simp) (fun cap1 _ hcap => ⟨zLok, ?_⟩)); refine zDn ?_)
    refine zD ?_
    have hp2 : protos2.getD m5 0 = 6 ∨ protos2.getD m5 0 = 17 := by
     have := getD_mem (L := protos2) (d := 0) hm5
     simpa only [protos2, List.mem_cons, List.mem_nil_iff, or_false] using this
    exact ⟨(j7, [⟨3405803781, protos2.getD m5 0, v1, (x.edges.getD 0 gedge0).name, ro.1, v2⟩], cap1), ⟨hj7, Nat.le_refl _, fun p hp => by
     rw [List.mem_singleton.1 hp]
     exact ⟨hp2, hv1, hv2, ⟨_, getD_mem (d := gedge0) (by omega), rfl⟩, ⟨(by decide : (0 : Int) ≤ 3405803781), (by decide : (3405803781 : Int) < 4294967296)⟩, hro.1⟩⟩, zLe, zLes⟩
   ·refine pw_ghost 6 ?_
    refine pw_ghost 6 ?_
    refine zNq ?_
    (refine pw_mv 11 8 hD rfl rfl rfl rfl rfl ?_; refine pw_norm rfl ?_)
    (repeat' (first | refine zS ?_ | refine zq5 ?_ | refine zq6 ?_))
    exact ⟨(jp, [], c4), ⟨hjp, Nat.zero_le _, by simp⟩, zLe, zLes⟩
  ·refine pl_ghost 6 ?_
   refine pl_ghost 6 ?_
   (refine zNp ?_)
   (refine pl_mv 11 8 hD rfl rfl rfl rfl rfl ?_; (first | refine pl_norm rfl ?_ | refine pl_normE rfl ?_))
   (repeat' (first | refine zS ?_ | refine zq5 ?_ | refine zq6 ?_))
   exact ⟨(ja, [], c4), ⟨hja, Nat.zero_le _, by simp⟩, zLe, zLes⟩
 rintro ⟨jq, pubs, cp⟩ ⟨hjq, hpl, hpub⟩
 dsimp only at hjq hpl hpub ⊢
 refine zNq ?_
 (refine pw_mv 8 11 hD rfl rfl rfl rfl rfl ?_; refine pw_norm rfl ?_)
 (refine pw_trim 10 hD rfl rfl ?_; refine pw_norm rfl ?_)
 refine pw_less (st' := hst l x ⟨gs, ss, ws, sts, pubs, []⟩ cs cp c5 jq) (env' := genv x n) zLe (by unfold hst; (exact zLes)) (h6 B j hD gs hgs ss hss ws hws sts hstl hsts pubs hpl hpub cs cp _ jq hjq)
theorem gI6 (l : List Int) (hl : Tp l) (x : Topo) (n : Nat) (hx : x.edges.length < 900) : GI6 Gl l x n := by
 intro B j hD gs hgs ss hss ws hws sts hstl hsts pubs hpl hpub cs cp c5 jq hjq
 unfold hst genv
 refine pw_code rfl ?_
 refine zNq ?_
 refine zNq ?_
 refine pw_seq ?_
 refine pw_joinX hD (fun a : Nat × List THid × Nat => a.1 ≤ l.length ∧ a.2.1.length ≤ 1 ∧ ∀ p ∈ a.2.1, HidG x p) (fun _ => [])
  (fun a => [tape l a.1, .box (eTopo x).cells, gI0, .box [.sl (gs.map eDef), .sl (ss.map eDef), .sl (ws.map eWin), .msl 10 7 0 (sts.map eStm).length cs, .msl 6 8 0 (pubs.map ePub).length cp, .msl 5 10 0 (a.2.1.map eHid).length a.2.2],
   .dead, .dead, .dead, .arr 10 (sts.map eStm) cs, .arr 6 (pubs.map ePub) cp, .dead, .arr 5 (a.2.1.map eHid) a.2.2]) 11 rfl (fun _ => rfl) (fun _ => rfl) (fun _ => rfl) ?_ ?_
 ·(repeat' (first | refine zS ?_ | refine zq5 ?_ | refine zq6 ?_))
  refine pl_split 232 rfl (fun hw => ?_) (fun hw => ?_)
  ·have hw0 : 0 < x.edges.length := by simp at hw; omega
   (repeat' (first | refine zS ?_ | refine zq5 ?_ | refine zq6 ?_))
   (refine pl_on rfl rfl (zCl [0] e17 (c13n l hl jq hjq 3 (by decide) (by decide)) (fun r s hq => ?_)); obtain ⟨jp, ⟨mp, hmp, rfl⟩, hjp, rfl⟩ := hq; refine ⟨rfl, rfl, ?_⟩; (refine zNp ?_))
   (repeat' (first | refine zS ?_ | refine zq5 ?_ | refine zq6 ?_))
   refine zT ?_ ?_ <;> intro h1 <;> refine zNq ?_
   ·(repeat' (first | refine zS ?_ | refine zq5 ?_ | refine zq6 ?_))
    (refine pl_op rfl (zCl [0] e17 (c13n l hl jp hjp x.edges.length hw0 (by omega)) (fun r s hq => ?_)); obtain ⟨j5, ⟨m5, hm5, rfl⟩, hj5, rfl⟩ := hq; refine ⟨rfl, rfl, ?_⟩; (refine zNp ?_))
    (repeat' (first | refine zS ?_ | refine zq5 ?_ | refine zq6 ?_))
    refine zDr [[0,1,2,3,4,5,6,7,8],[9],[10,11,12,13,14],[15],[16],[17]] ?_
    refine zDn ?_
    refine zD ?_
    (refine po_val rfl rfl (v_index (p := eEdge (x.edges.getD m5 gedge0)) hT rfl rfl rfl rfl (by omega) (lit_at eEdge x.edges m5 gedge0 hm5) rfl) ?_; refine zDn ?_)
    refine zD ?_
    (refine po_step rfl rfl (zCl [0] e17 (c13n l hl j5 hj5 40 (by decide) (by decide)) (fun r s hq => ?_)); obtain ⟨j6, ⟨m6, hm6, rfl⟩, hj6, rfl⟩ := hq; refine ⟨rfl, rfl, zLok, ?_⟩; refine zDn ?_)
    refine zD ?_
    (refine po_step rfl rfl (op_append (b := 48) hT rfl rfl rfl rfl rfl rfl (.inl (Nat.zero_lt_succ _)) rfl rfl (by simp) (fun cap1 _ hcap => ⟨zLok, ?_⟩)); refine zDn ?_)
    refine zD ?_
    exact ⟨(j6, [⟨[103, 49], (x.edges.getD m5 gedge0).name, 3325256705, ⟨1024, 1024 + (m6 : Int)⟩⟩], cap1), ⟨hj6, Nat.le_refl _, fun p hp => by
     rw [List.mem_singleton.1 hp]
     exact ⟨rfl, ⟨_, getD_mem (d := gedge0) hm5, rfl⟩, ⟨(by decide : (0 : Int) ≤ 3325256705), (by decide : (3325256705 : Int) < 4294967296)⟩, rfl, by dsimp only; omega, by dsimp only; omega⟩⟩, zLe, zLes⟩
   ·refine pw_ghost 5 ?_
    refine zNq ?_
    (refine pw_mv 10 9 hD rfl rfl rfl rfl rfl ?_; refine pw_norm rfl ?_)
    (repeat' (first | refine zS ?_ | refine zq5 ?_ | refine zq6 ?_))
    exact ⟨(jp, [], c5), ⟨hjp, Nat.zero_le _, by simp⟩, zLe, zLes⟩
  ·refine pl_ghost 5 ?_
   (refine zNp ?_)
   (refine pl_mv 10 9 hD rfl rfl rfl rfl rfl ?_; (first | refine pl_norm rfl ?_ | refine pl_normE rfl ?_))
   (repeat' (first | refine zS ?_ | refine zq5 ?_ | refine zq6 ?_))
   exact ⟨(jq, [], c5), ⟨hjq, Nat.zero_le _, by simp⟩, zLe, zLes⟩
 rintro ⟨jr, hids, ch⟩ ⟨hjr, hhl, hhid⟩
 dsimp only at hjr hhl hhid ⊢
 refine zNq ?_
 (repeat' (first | refine zS ?_ | refine zq5 ?_ | refine zq6 ?_))
 exact ⟨_, _, _, rfl, ⟨jr, ⟨⟨gs, ss, ws, sts, pubs, hids⟩, ⟨hgs, hss, hws, hstl, fun s hs => (hsts s hs).cong rfl rfl rfl, hpl, hpub, hhl, hhid⟩, rfl⟩, hjr, rfl⟩, by (refine .inr (.inr (.inr (.inr (.inl ⟨_, _, rfl, rfl, ?_⟩)))); (repeat (first | exact True.intro | refine ⟨.inr (.inl rfl), ?_⟩ | refine ⟨.inr (.inr (.inl ⟨rfl, rfl⟩)), ?_⟩ | refine ⟨.inr (.inr (.inr (.inl ⟨_, _, _, _, _, _, rfl, rfl, rfl, rfl, rfl⟩))), ?_⟩ | refine ⟨.inr (.inr (.inr (.inl ⟨_, _, _, _, _, _, rfl, rfl, rfl, (by simp only [List.length_map, List.length_set, List.length_append, List.length_cons, List.length_nil]), rfl⟩))), ?_⟩))), ⟨.inr (.inl rfl), trivial⟩, rfl, rfl⟩
end
section
variable {Gl : Glob}
theorem c_gIntent (l : List Int) (hl : Tp l) (j : Nat) (hj : j ≤ l.length) (x : Topo) (n : Nat) (hn : n < 900) (hx : x.edges.length < 900) (hxd : x.devs.length < 900) (hxe : ∀ e ∈ x.edges, PfxIn e.pfx) :
  Gen Gl 12 [eTopo x, .int .i64 n] l j fun r => ∃ i : TInt, IGen x n i ∧ r = eIntent i :=
 gI1 l hl j hj x n hx (gI2 l hl x n (gI3 l hl x n (gI4 l hl x n hn hxd (gI5 l hl x n hx hxe (gI6 l hl x n hx)))))
theorem gbyte_v : ∀ n : Fin 256, vbyte (UInt8.ofNat n.val) = true → gbyte (UInt8.ofNat n.val) = true := by decide +kernel
theorem gbyte_d : ∀ n : Fin 256, dbad (UInt8.ofNat n.val) = false → gbyte (UInt8.ofNat n.val) = true := by decide +kernel
theorem of_fin {p : UInt8 → Prop} (h : ∀ n : Fin 256, p (UInt8.ofNat n.val)) (c : UInt8) : p c := by
 have := h ⟨c.toNat, c.toNat_lt⟩
 simpa using this
theorem vname_gw {s : Str} (h : vname s = true) : GW s := by
 unfold vname at h
 simp only [Bool.and_eq_true, Bool.not_eq_true'] at h
 obtain ⟨h1, h2⟩ := h
 refine ⟨fun e => ?_, fun c hc => of_fin (p := fun c => vbyte c = true → gbyte c = true) gbyte_v c (List.all_eq_true.1 h2 c hc)⟩
 subst e
 simp [vhead] at h1
theorem dec_g (n : Nat) : ∀ c ∈ dec n, gbyte c = true := fun c hc => of_fin (p := fun c => dbad c = false → gbyte c = true) gbyte_d c (by simpa using List.any_eq_false.1 (dec_dig n) c hc)
theorem dec_gw (n : Nat) : GW (dec n) := ⟨dec_ne n, dec_g n⟩
theorem pfxS_gw (p : TPfx) : GW (pfxS p) := by
 refine ⟨by simp [pfxS], fun c hc => ?_⟩
 simp only [pfxS, addrS, List.mem_append, List.mem_singleton] at hc
 rcases hc with ((((((((hc | hc) | hc) | hc) | hc) | hc) | hc) | hc) | hc)
 all_goals first | exact dec_g _ c hc | (subst hc; decide)
theorem key_gw {s : Str} (h : (!(s == []) && s.all gbyte) = true) : GW s := by
 simp only [Bool.and_eq_true, Bool.not_eq_true', beq_eq_false_iff_ne] at h
 exact ⟨h.1, List.all_eq_true.1 h.2⟩

end
end Go.Proofs.YtkaobkjcjodffaaGreatDoor