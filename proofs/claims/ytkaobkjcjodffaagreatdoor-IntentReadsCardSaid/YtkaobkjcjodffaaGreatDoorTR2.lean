/-
 Contracts of functions, walked over pure values.
-/
import Derived.Test.YtkaobkjcjodffaaGreatDoorTB6
import Derived.Test.YtkaobkjcjodffaaGreatDoorSPwReadW
import Derived.Test.YtkaobkjcjodffaaGreatDoorTV1
set_option maxHeartbeats 20000000
set_option maxRecDepth 100000
namespace Go.Proofs.YtkaobkjcjodffaaGreatDoor
open Go Go.Pw
section
theorem wr_strct {n R : Nat} {t : TypeId} {ps : List PV} {l : List (Nat × Nat × Bool × TypeId)} {a b : Nat} {z : Option (List PV)} (ht : tys[t]? = some ⟨.strct l, a, b, z⟩) (h : WR tys R (n + 1) t ps) : ∀ (i : Nat) x, l[i]? = some x → WR tys R n x.2.2.2 ((ps.drop x.1).take x.2.1) := by
 unfold WR at h
 rw [ht] at h
 exact fun i x hx => h x (List.mem_of_getElem? hx)
theorem wt_slR {α : Type} {Q : α → Prop} {e : α → PV} {n R : Nat} {t el s : TypeId} {ps : List PV} {a b c : Nat} {z : Option (List PV)} (ht : tys[t]? = some ⟨.sl el s c, a, b, z⟩) (h : WT tys (n + 1) t ps) (hr : WR tys R (n + 1) t ps)
  (he : ∀ cells, WT tys n el cells → WR tys R n el cells → ∃ d, Q d ∧ mkE (((tys[el]?).map fun ti => ti.tk.agg).getD false) cells = e d) : ∃ l : List α, ps = [.sl (l.map e)] ∧ l.length * c ≤ R ∧ ∀ d ∈ l, Q d := by
 unfold WT at h
 unfold WR at hr
 rw [ht] at h hr
 obtain ⟨xs, rfl, hl, hx⟩ := h
 obtain ⟨ys, hy, hm, hw⟩ := hr
 cases hy
 obtain ⟨l, rfl, hq⟩ := map_of (e := e) (Q := Q) (xs := xs) fun x hxm => by
  obtain ⟨_, h2, h3⟩ := hx x hxm
  obtain ⟨d, hd, hde⟩ := he _ h2 (hw x hxm)
  exact ⟨d, hd, h3.trans hde⟩
 exact ⟨l, rfl, by simpa only [List.length_map] using hm, hq⟩
theorem wt_rng {n : Nat} {cells : List PV} (h : WT tys (n + 2) 85 cells) : ∃ r, RIn r ∧ cells = (eRng r).cells := by
 obtain ⟨hl, hf⟩ := wt_strct (t := 85) rfl h
 match cells, hl with
 | [c0, c1], _ =>
  obtain ⟨a, ha, hb⟩ := wt_int (t := 79) rfl (hf 0 _ rfl)
  obtain ⟨b, hbb, hc⟩ := wt_int (t := 79) rfl (hf 1 _ rfl)
  cases ha; cases hbb
  exact ⟨⟨a, b⟩, ⟨u32_bounds hb, u32_bounds hc⟩, rfl⟩
theorem wt_item {n : Nat} {cells : List PV} (h : WT tys (n + 3) 93 cells) : ∃ x, ItIn x ∧ PV.agg cells = eItem x := by
 obtain ⟨hl, hf⟩ := wt_strct (t := 93) rfl h
 match cells, hl with
 | [c0, c1, c2, c3, c4, c5, c6], _ =>
  obtain ⟨x0, h0, _⟩ := wt_int (t := 3) rfl (hf 0 _ rfl)
  obtain ⟨x1, h1⟩ := wt_str (t := 9) rfl (hf 1 _ rfl)
  obtain ⟨p, hp, h2⟩ := wt_pfx (hf 2 _ rfl)
  obtain ⟨x3, h3, _⟩ := wt_int (t := 3) rfl (hf 3 _ rfl)
  obtain ⟨r, hr, h4⟩ := wt_rng (hf 4 _ rfl)
  cases h0; cases h1; cases h2; cases h3; cases h4
  exact ⟨⟨x0, x1, p, x3, r⟩, ⟨hp, hr.1.1⟩, rfl⟩
theorem wt_def {n R : Nat} {cells : List PV} (h : WT tys (n + 5) 72 cells) (hr : WR tys R (n + 5) 72 cells) : ∃ d : TDef, (d.items.length * 56 ≤ R ∧ ∀ x ∈ d.items, ItIn x) ∧ PV.agg cells = eDef d := by
 obtain ⟨hl, hf⟩ := wt_strct (t := 72) rfl h
 have hg := wr_strct (t := 72) rfl hr
 match cells, hl with
 | [c0, c1], _ =>
  obtain ⟨x0, h0⟩ := wt_str (t := 9) rfl (hf 0 _ rfl)
  obtain ⟨l, h1, hm, hq⟩ := wt_slR (t := 70) (e := eItem) (Q := ItIn) rfl (hf 1 _ rfl) (hg 1 _ rfl) fun cells hc _ => wt_item hc
  cases h0; cases h1
  exact ⟨⟨x0, l⟩, ⟨hm, hq⟩, rfl⟩
theorem wt_win {n R : Nat} {cells : List PV} (h : WT tys (n + 4) 76 cells) (hr : WR tys R (n + 4) 76 cells) : ∃ d : TWin, (d.active.length * 8 ≤ R ∧ ∀ x ∈ d.active, RIn x) ∧ PV.agg cells = eWin d := by
 obtain ⟨hl, hf⟩ := wt_strct (t := 76) rfl h
 have hg := wr_strct (t := 76) rfl hr
 match cells, hl with
 | [c0, c1], _ =>
  obtain ⟨x0, h0⟩ := wt_str (t := 9) rfl (hf 0 _ rfl)
  obtain ⟨l, h1, hm, hq⟩ := wt_slR (t := 74) (e := eRng) (Q := RIn) rfl (hf 1 _ rfl) (hg 1 _ rfl) fun cells hc _ => by
   obtain ⟨r, hr, rfl⟩ := wt_rng hc
   exact ⟨r, hr, rfl⟩
  cases h0; cases h1
  exact ⟨⟨x0, l⟩, ⟨hm, hq⟩, rfl⟩
theorem wt_stm {n : Nat} {cells : List PV} (h : WT tys (n + 2) 61 cells) : ∃ d : TStm, True ∧ PV.agg cells = eStm d := by
 obtain ⟨hl, hf⟩ := wt_strct (t := 61) rfl h
 match cells, hl with
 | [c0, c1, c2, c3, c4, c5, c6, c7, c8, c9], _ =>
  obtain ⟨x0, h0⟩ := wt_bool (t := 4) rfl (hf 0 _ rfl)
  obtain ⟨x1, h1⟩ := wt_str (t := 9) rfl (hf 1 _ rfl)
  obtain ⟨x2, h2⟩ := wt_str (t := 9) rfl (hf 2 _ rfl)
  obtain ⟨x3, h3⟩ := wt_str (t := 9) rfl (hf 3 _ rfl)
  obtain ⟨x4, h4⟩ := wt_bool (t := 4) rfl (hf 4 _ rfl)
  obtain ⟨x5, h5⟩ := wt_str (t := 9) rfl (hf 5 _ rfl)
  obtain ⟨x6, h6⟩ := wt_str (t := 9) rfl (hf 6 _ rfl)
  obtain ⟨x7, h7⟩ := wt_str (t := 9) rfl (hf 7 _ rfl)
  obtain ⟨x8, h8⟩ := wt_str (t := 9) rfl (hf 8 _ rfl)
  obtain ⟨x9, h9, _⟩ := wt_int (t := 3) rfl (hf 9 _ rfl)
  cases h0; cases h1; cases h2; cases h3; cases h4; cases h5; cases h6; cases h7; cases h8; cases h9
  exact ⟨⟨x0, x1, x2, x3, x4, x5, x6, x7, x8, x9⟩, trivial, rfl⟩
theorem wt_pub {n : Nat} {cells : List PV} (h : WT tys (n + 2) 81 cells) : ∃ p : TPub, ((0 ≤ p.addr ∧ p.addr < 4294967296) ∧ 0 ≤ p.real ∧ p.real < 4294967296) ∧ PV.agg cells = ePub p := by
 obtain ⟨hl, hf⟩ := wt_strct (t := 81) rfl h
 match cells, hl with
 | [c0, c1, c2, c3, c4, c5], _ =>
  obtain ⟨x0, h0, b0⟩ := wt_int (t := 79) rfl (hf 0 _ rfl)
  obtain ⟨x1, h1, _⟩ := wt_int (t := 3) rfl (hf 1 _ rfl)
  obtain ⟨x2, h2, _⟩ := wt_int (t := 3) rfl (hf 2 _ rfl)
  obtain ⟨x3, h3⟩ := wt_str (t := 9) rfl (hf 3 _ rfl)
  obtain ⟨x4, h4, b4⟩ := wt_int (t := 79) rfl (hf 4 _ rfl)
  obtain ⟨x5, h5, _⟩ := wt_int (t := 3) rfl (hf 5 _ rfl)
  cases h0; cases h1; cases h2; cases h3; cases h4; cases h5
  exact ⟨⟨x0, x1, x2, x3, x4, x5⟩, ⟨u32_bounds b0, u32_bounds b4⟩, rfl⟩
theorem wt_hid {n : Nat} {cells : List PV} (h : WT tys (n + 3) 87 cells) : ∃ p : THid, (0 ≤ p.addr ∧ p.addr < 4294967296) ∧ PV.agg cells = eHid p := by
 obtain ⟨hl, hf⟩ := wt_strct (t := 87) rfl h
 match cells, hl with
 | [c0, c1, c2, c3, c4], _ =>
  obtain ⟨x0, h0⟩ := wt_str (t := 9) rfl (hf 0 _ rfl)
  obtain ⟨x1, h1⟩ := wt_str (t := 9) rfl (hf 1 _ rfl)
  obtain ⟨x2, h2, b2⟩ := wt_int (t := 79) rfl (hf 2 _ rfl)
  obtain ⟨r, _, h3⟩ := wt_rng (hf 3 _ rfl)
  cases h0; cases h1; cases h2; cases h3
  exact ⟨⟨x0, x1, x2, r⟩, u32_bounds b2, rfl⟩
theorem wt_intent {n : Nat} {cells : List PV} (h : WT tys (n + 7) 34 cells) (hr : WR tys reachBytes (n + 7) 34 cells) : ∃ x : TInt, ITy x ∧ PV.agg cells = eIntent x := by
 obtain ⟨hl, hf⟩ := wt_strct (t := 34) rfl h
 have hg := wr_strct (t := 34) rfl hr
 have hR : reachBytes = 140737488351232 := rfl
 rw [hR] at hg
 match cells, hl with
 | [c0, c1, c2, c3, c4, c5], _ =>
  obtain ⟨l0, h0, m0, q0⟩ := wt_slR (t := 28) (e := eDef) (Q := fun d => d.items.length * 56 ≤ 140737488351232 ∧ ∀ x ∈ d.items, ItIn x) rfl (hf 0 _ rfl) (hg 0 _ rfl) fun cells hc hw => wt_def hc hw
  obtain ⟨l1, h1, m1, q1⟩ := wt_slR (t := 28) (e := eDef) (Q := fun d => d.items.length * 56 ≤ 140737488351232 ∧ ∀ x ∈ d.items, ItIn x) rfl (hf 1 _ rfl) (hg 1 _ rfl) fun cells hc hw => wt_def hc hw
  obtain ⟨l2, h2, m2, q2⟩ := wt_slR (t := 29) (e := eWin) (Q := fun d => d.active.length * 8 ≤ 140737488351232 ∧ ∀ x ∈ d.active, RIn x) rfl (hf 2 _ rfl) (hg 2 _ rfl) fun cells hc hw => wt_win hc hw
  obtain ⟨l3, h3, m3, _⟩ := wt_slR (t := 30) (e := eStm) (Q := fun _ => True) rfl (hf 3 _ rfl) (hg 3 _ rfl) fun cells hc _ => wt_stm hc
  obtain ⟨l4, h4, m4, q4⟩ := wt_slR (t := 31) (e := ePub) (Q := fun p => (0 ≤ p.addr ∧ p.addr < 4294967296) ∧ 0 ≤ p.real ∧ p.real < 4294967296) rfl (hf 4 _ rfl) (hg 4 _ rfl) fun cells hc _ => wt_pub hc
  obtain ⟨l5, h5, m5, q5⟩ := wt_slR (t := 32) (e := eHid) (Q := fun h => 0 ≤ h.addr ∧ h.addr < 4294967296) rfl (hf 5 _ rfl) (hg 5 _ rfl) fun cells hc _ => wt_hid hc
  cases h0; cases h1; cases h2; cases h3; cases h4; cases h5
  exact ⟨⟨l0, l1, l2, l3, l4, l5⟩, ⟨⟨⟨by dsimp only; omega, by dsimp only; omega, by dsimp only; omega⟩, by dsimp only; omega, by dsimp only; omega, by dsimp only; omega⟩, fun d hd => ⟨by have := (q0 d hd).1; omega, (q0 d hd).2⟩, fun d hd => ⟨by have := (q1 d hd).1; omega, (q1 d hd).2⟩, fun d hd => ⟨by have := (q2 d hd).1; omega, (q2 d hd).2⟩, q4, q5⟩, rfl⟩
variable {Gl : Glob}
attribute [local irreducible] PW PWL OpP PCalls PWO PWT bothT
theorem spoil_0 (l : List Int) (hl : Tp l) : SpoilAt Gl l 0 := by
 intro j hj i n hn hi c B j0 hD hk
 have hg1 := hi.groups
 have hg2 := hi.services
 have hg3 := hi.windows
 have hg4 := hi.stms
 have hg5 := hi.pubs
 have hg6 := hi.hids
 unfold sst senv
 refine pw_code rfl ?_
 refine zNq ?_
 (repeat' (first | refine zS ?_ | refine zq5 ?_ | refine zq6 ?_))
 (refine pl_op rfl (zCl [0] e17 (c13d l hl j hj 14 (by decide)) (fun r s hq => ?_)); obtain ⟨rfl, rfl⟩ := hq; refine ⟨rfl, rfl, ?_⟩; (refine zNp ?_))
 have hj1 := nxI_le hj 14
 rw [hk]
 generalize nxI l j 14 = j1 at hj1 ⊢
 clear hk
 (repeat' (first | refine zS ?_ | refine zq5 ?_ | refine zq6 ?_))
 refine zDr [[0,1,2,3,7,8],[4],[5,6],[9],[10,11,12,13,14,15],[16],[17],[18]] ?_
 refine zDn ?_
 refine zD ?_
 (refine po_step rfl rfl (zCl [0] e17 (c13n l hl j1 hj1 3 (by decide) (by decide)) (fun r s hq => ?_)); obtain ⟨j2, ⟨m1, hm1, rfl⟩, hj2, rfl⟩ := hq; refine ⟨rfl, rfl, zLok, ?_⟩; refine zDn ?_)
 (refine po_val rfl rfl (v_index (p := .str (spL1.getD m1 [])) hT rfl rfl rfl rfl (by omega) (lit_at (.str) spL1 m1 [] hm1) rfl) ?_; refine zDn ?_)
 refine zD ?_
 (refine po_step rfl rfl (zCl [0] e17 (c13n l hl j2 hj2 3 (by decide) (by decide)) (fun r s hq => ?_)); obtain ⟨j3, ⟨m2, hm2, rfl⟩, hj3, rfl⟩ := hq; refine ⟨rfl, rfl, zLok, ?_⟩; refine zDn ?_)
 (refine po_val rfl rfl (v_index (p := .str (spL2.getD m2 [])) hT rfl rfl rfl rfl (by omega) (lit_at (.str) spL2 m2 [] hm2) rfl) ?_; refine zDn ?_)
 refine zD ?_
 (refine po_step rfl rfl (op_append (b := 40) hT rfl rfl rfl rfl rfl rfl (.inl (Nat.zero_lt_succ _)) rfl rfl (by simp only [List.length_map, List.length_cons, List.length_nil]; omega) (fun c1 _ hcap => ⟨zLok, ?_⟩)); refine zDn ?_)
 refine zD ?_
 (refine pw_mv 10 21 hD rfl rfl rfl rfl rfl ?_; refine pw_norm rfl ?_)
 (repeat' (first | refine zS ?_ | refine zq5 ?_ | refine zq6 ?_))
 exact ⟨_, eIntent { i with groups := i.groups ++ [⟨spL1.getD m1 [], [⟨3, spL2.getD m2 [], pfx0, 0, rng0⟩]⟩] }, _, rfl, ⟨j3, ⟨{ i with groups := i.groups ++ [⟨spL1.getD m1 [], [⟨3, spL2.getD m2 [], pfx0, 0, rng0⟩]⟩] }, hi.addG ⟨Nat.le_refl _, fun x hx => by rw [List.mem_singleton.1 hx]; exact ⟨⟨Int.le_refl 0, (by decide : (0 : Int) < 4294967296)⟩, Int.le_refl 0⟩⟩, rfl⟩, hj3, rfl⟩, by (simp only [eIntent, List.map_append, List.map_cons, List.map_nil]; (refine .inr (.inr (.inr (.inr (.inl ⟨_, _, rfl, rfl, ?_⟩)))); (repeat (first | exact True.intro | refine ⟨.inr (.inl rfl), ?_⟩ | refine ⟨.inr (.inr (.inl ⟨rfl, rfl⟩)), ?_⟩ | refine ⟨.inr (.inr (.inr (.inl ⟨_, _, _, _, _, _, rfl, rfl, rfl, rfl, rfl⟩))), ?_⟩ | refine ⟨.inr (.inr (.inr (.inl ⟨_, _, _, _, _, _, rfl, rfl, rfl, (by simp only [List.length_map, List.length_append, List.length_cons, List.length_nil]), rfl⟩))), ?_⟩)))), ⟨.inr (.inl rfl), trivial⟩, rfl, rfl⟩
theorem spoil_2 (l : List Int) (hl : Tp l) : SpoilAt Gl l 2 := by
 intro j hj i n hn hi c B j0 hD hk
 have hg1 := hi.groups
 have hg2 := hi.services
 have hg3 := hi.windows
 have hg4 := hi.stms
 have hg5 := hi.pubs
 have hg6 := hi.hids
 unfold sst senv
 refine pw_code rfl ?_
 refine zNq ?_
 (repeat' (first | refine zS ?_ | refine zq5 ?_ | refine zq6 ?_))
 (refine pl_op rfl (zCl [0] e17 (c13d l hl j hj 14 (by decide)) (fun r s hq => ?_)); obtain ⟨rfl, rfl⟩ := hq; refine ⟨rfl, rfl, ?_⟩; (refine zNp ?_))
 have hj1 := nxI_le hj 14
 rw [hk]
 generalize nxI l j 14 = j1 at hj1 ⊢
 clear hk
 (repeat' (first | refine zS ?_ | refine zq5 ?_ | refine zq6 ?_))
 refine zDr [[0,1,2,3,7,8,12,15],[4],[5,6],[9],[10,11],[13],[14],[16],[17,18,19,20,21,22],[23],[24],[25]] ?_
 refine zDn ?_
 refine zD ?_
 (refine po_step rfl rfl (zCl [0] e17 (c13n l hl j1 hj1 2 (by decide) (by decide)) (fun r s hq => ?_)); obtain ⟨j2, ⟨m1, hm1, rfl⟩, hj2, rfl⟩ := hq; refine ⟨rfl, rfl, zLok, ?_⟩; refine zDn ?_)
 (refine po_val rfl rfl (v_index (p := .str (spL3.getD m1 [])) hT rfl rfl rfl rfl (by omega) (lit_at (.str) spL3 m1 [] hm1) rfl) ?_; refine zDn ?_)
 refine zD ?_
 (refine po_step rfl rfl (zCl [0] e17 (c13n l hl j2 hj2 5 (by decide) (by decide)) (fun r s hq => ?_)); obtain ⟨j3, ⟨m2, hm2, rfl⟩, hj3, rfl⟩ := hq; refine ⟨rfl, rfl, zLok, ?_⟩; refine zDn ?_)
 (refine po_val rfl rfl (v_index (p := .int .i64 (spP1.getD m2 0)) hT rfl rfl rfl rfl (by omega) (lit_at (.int .i64) spP1 m2 0 hm2) rfl) ?_; refine zDn ?_)
 refine zD ?_
 (refine po_step rfl rfl (zCl [0] e17 (c13n l hl j3 hj3 10 (by decide) (by decide)) (fun r s hq => ?_)); obtain ⟨j4, ⟨m3, hm3, rfl⟩, hj4, rfl⟩ := hq; refine ⟨rfl, rfl, zLok, ?_⟩; refine zDn ?_)
 refine zD ?_
 (refine po_step rfl rfl (zCl [0] e17 (c13n l hl j4 hj4 10 (by decide) (by decide)) (fun r s hq => ?_)); obtain ⟨j5, ⟨m4, hm4, rfl⟩, hj5, rfl⟩ := hq; refine ⟨rfl, rfl, zLok, ?_⟩; refine zDn ?_)
 refine zD ?_
 (refine po_step rfl rfl (op_append (b := 40) hT rfl rfl rfl rfl rfl rfl (.inl (Nat.zero_lt_succ _)) rfl rfl (by simp only [List.length_map, List.length_cons, List.length_nil]; omega) (fun c1 _ hcap => ⟨zLok, ?_⟩)); refine zDn ?_)
 refine zD ?_
 (refine pw_mv 12 21 hD rfl rfl rfl rfl rfl ?_; refine pw_norm rfl ?_)
 (repeat' (first | refine zS ?_ | refine zq5 ?_ | refine zq6 ?_))
 exact ⟨_, eIntent { i with services := i.services ++ [⟨spL3.getD m1 [], [⟨4, [], pfx0, spP1.getD m2 0, ⟨m3, m4⟩⟩]⟩] }, _, rfl, ⟨j5, ⟨{ i with services := i.services ++ [⟨spL3.getD m1 [], [⟨4, [], pfx0, spP1.getD m2 0, ⟨m3, m4⟩⟩]⟩] }, hi.addS ⟨Nat.le_refl _, fun x hx => by rw [List.mem_singleton.1 hx]; exact ⟨⟨Int.le_refl 0, (by decide : (0 : Int) < 4294967296)⟩, Int.natCast_nonneg _⟩⟩, rfl⟩, hj5, rfl⟩, by (simp only [eIntent, List.map_append, List.map_cons, List.map_nil]; (refine .inr (.inr (.inr (.inr (.inl ⟨_, _, rfl, rfl, ?_⟩)))); (repeat (first | exact True.intro | refine ⟨.inr (.inl rfl), ?_⟩ | refine ⟨.inr (.inr (.inl ⟨rfl, rfl⟩)), ?_⟩ | refine ⟨.inr (.inr (.inr (.inl ⟨_, _, _, _, _, _, rfl, rfl, rfl, rfl, rfl⟩))), ?_⟩ | refine ⟨.inr (.inr (.inr (.inl ⟨_, _, _, _, _, _, rfl, rfl, rfl, (by simp only [List.length_map, List.length_append, List.length_cons, List.length_nil]), rfl⟩))), ?_⟩)))), ⟨.inr (.inl rfl), trivial⟩, rfl, rfl⟩
theorem spoil_3 (l : List Int) (hl : Tp l) : SpoilAt Gl l 3 := by
 intro j hj i n hn hi c B j0 hD hk
 have hg1 := hi.groups
 have hg2 := hi.services
 have hg3 := hi.windows
 have hg4 := hi.stms
 have hg5 := hi.pubs
 have hg6 := hi.hids
 unfold sst senv
 refine pw_code rfl ?_
 refine zNq ?_
 (repeat' (first | refine zS ?_ | refine zq5 ?_ | refine zq6 ?_))
 (refine pl_op rfl (zCl [0] e17 (c13d l hl j hj 14 (by decide)) (fun r s hq => ?_)); obtain ⟨rfl, rfl⟩ := hq; refine ⟨rfl, rfl, ?_⟩; (refine zNp ?_))
 have hj1 := nxI_le hj 14
 rw [hk]
 generalize nxI l j 14 = j1 at hj1 ⊢
 clear hk
 (repeat' (first | refine zS ?_ | refine zq5 ?_ | refine zq6 ?_))
 refine zDr [[0,1,2,3],[4],[5,6,7,8,9,10],[11],[12],[13]] ?_
 refine zDn ?_
 refine zD ?_
 (refine po_step rfl rfl (zCl [0] e17 (c13n l hl j1 hj1 3 (by decide) (by decide)) (fun r s hq => ?_)); obtain ⟨j2, ⟨m1, hm1, rfl⟩, hj2, rfl⟩ := hq; refine ⟨rfl, rfl, zLok, ?_⟩; refine zDn ?_)
 (refine po_val rfl rfl (v_index (p := .str (spL4.getD m1 [])) hT rfl rfl rfl rfl (by omega) (lit_at (.str) spL4 m1 [] hm1) rfl) ?_; refine zDn ?_)
 refine zD ?_
 (refine po_step rfl rfl (op_append (b := 40) hT rfl rfl rfl rfl rfl rfl (.inl (Nat.zero_lt_succ _)) rfl rfl (by simp only [List.length_map, List.length_cons, List.length_nil]; omega) (fun c1 _ hcap => ⟨zLok, ?_⟩)); refine zDn ?_)
 refine zD ?_
 (refine pw_mv 12 21 hD rfl rfl rfl rfl rfl ?_; refine pw_norm rfl ?_)
 (repeat' (first | refine zS ?_ | refine zq5 ?_ | refine zq6 ?_))
 exact ⟨_, eIntent { i with services := i.services ++ [⟨[115], [⟨3, spL4.getD m1 [], pfx0, 0, rng0⟩]⟩] }, _, rfl, ⟨j2, ⟨{ i with services := i.services ++ [⟨[115], [⟨3, spL4.getD m1 [], pfx0, 0, rng0⟩]⟩] }, hi.addS ⟨Nat.le_refl _, fun x hx => by rw [List.mem_singleton.1 hx]; exact ⟨⟨Int.le_refl 0, (by decide : (0 : Int) < 4294967296)⟩, Int.le_refl 0⟩⟩, rfl⟩, hj2, rfl⟩, by (simp only [eIntent, List.map_append, List.map_cons, List.map_nil]; (refine .inr (.inr (.inr (.inr (.inl ⟨_, _, rfl, rfl, ?_⟩)))); (repeat (first | exact True.intro | refine ⟨.inr (.inl rfl), ?_⟩ | refine ⟨.inr (.inr (.inl ⟨rfl, rfl⟩)), ?_⟩ | refine ⟨.inr (.inr (.inr (.inl ⟨_, _, _, _, _, _, rfl, rfl, rfl, rfl, rfl⟩))), ?_⟩ | refine ⟨.inr (.inr (.inr (.inl ⟨_, _, _, _, _, _, rfl, rfl, rfl, (by simp only [List.length_map, List.length_append, List.length_cons, List.length_nil]), rfl⟩))), ?_⟩)))), ⟨.inr (.inl rfl), trivial⟩, rfl, rfl⟩
theorem spoil_4 (l : List Int) (hl : Tp l) : SpoilAt Gl l 4 := by
 intro j hj i n hn hi c B j0 hD hk
 have hg1 := hi.groups
 have hg2 := hi.services
 have hg3 := hi.windows
 have hg4 := hi.stms
 have hg5 := hi.pubs
 have hg6 := hi.hids
 unfold sst senv
 refine pw_code rfl ?_
 refine zNq ?_
 (repeat' (first | refine zS ?_ | refine zq5 ?_ | refine zq6 ?_))
 (refine pl_op rfl (zCl [0] e17 (c13d l hl j hj 14 (by decide)) (fun r s hq => ?_)); obtain ⟨rfl, rfl⟩ := hq; refine ⟨rfl, rfl, ?_⟩; (refine zNp ?_))
 have hj1 := nxI_le hj 14
 rw [hk]
 generalize nxI l j 14 = j1 at hj1 ⊢
 clear hk
 (repeat' (first | refine zS ?_ | refine zq5 ?_ | refine zq6 ?_))
 refine zDr [[0,1,2,3,7],[4],[5,6],[8],[9,10],[11],[12],[13]] ?_
 refine zDn ?_
 refine zD ?_
 (refine po_step rfl rfl (zCl [0] e17 (c13n l hl j1 hj1 2 (by decide) (by decide)) (fun r s hq => ?_)); obtain ⟨j2, ⟨m1, hm1, rfl⟩, hj2, rfl⟩ := hq; refine ⟨rfl, rfl, zLok, ?_⟩; refine zDn ?_)
 (refine po_val rfl rfl (v_index (p := .str (spL5.getD m1 [])) hT rfl rfl rfl rfl (by omega) (lit_at (.str) spL5 m1 [] hm1) rfl) ?_; refine zDn ?_)
 refine zD ?_
 (refine po_step rfl rfl (zCl [0] e55 (c_gRanges l hl j2 hj2) (fun r s hq => ?_)); obtain ⟨j3, ⟨xs, hx1, hx2, rfl⟩, hj3, rfl⟩ := hq; refine ⟨rfl, rfl, zLok, ?_⟩; refine zDn ?_)
 refine zD ?_
 (refine po_step rfl rfl (op_append (b := 40) hT rfl rfl rfl rfl rfl rfl (.inl (Nat.zero_lt_succ _)) rfl rfl (by simp only [List.length_map, List.length_cons, List.length_nil]; omega) (fun c1 _ hcap => ⟨zLok, ?_⟩)); refine zDn ?_)
 refine zD ?_
 (refine pw_mv 13 21 hD rfl rfl rfl rfl rfl ?_; refine pw_norm rfl ?_)
 (repeat' (first | refine zS ?_ | refine zq5 ?_ | refine zq6 ?_))
 exact ⟨_, eIntent { i with windows := i.windows ++ [⟨spL5.getD m1 [], xs⟩] }, _, rfl, ⟨j3, ⟨{ i with windows := i.windows ++ [⟨spL5.getD m1 [], xs⟩] }, hi.addW ⟨hx1, fun x hx => by have := hx2 x hx; unfold RIn; omega⟩, rfl⟩, hj3, rfl⟩, by (simp only [eIntent, List.map_append, List.map_cons, List.map_nil]; (refine .inr (.inr (.inr (.inr (.inl ⟨_, _, rfl, rfl, ?_⟩)))); (repeat (first | exact True.intro | refine ⟨.inr (.inl rfl), ?_⟩ | refine ⟨.inr (.inr (.inl ⟨rfl, rfl⟩)), ?_⟩ | refine ⟨.inr (.inr (.inr (.inl ⟨_, _, _, _, _, _, rfl, rfl, rfl, rfl, rfl⟩))), ?_⟩ | refine ⟨.inr (.inr (.inr (.inl ⟨_, _, _, _, _, _, rfl, rfl, rfl, (by simp only [List.length_map, List.length_append, List.length_cons, List.length_nil]), rfl⟩))), ?_⟩)))), ⟨.inr (.inl rfl), trivial⟩, rfl, rfl⟩
theorem spoil_5 (l : List Int) (hl : Tp l) : SpoilAt Gl l 5 := by
 intro j hj i n hn hi c B j0 hD hk
 have hg1 := hi.groups
 have hg2 := hi.services
 have hg3 := hi.windows
 have hg4 := hi.stms
 have hg5 := hi.pubs
 have hg6 := hi.hids
 unfold sst senv
 refine pw_code rfl ?_
 refine zNq ?_
 (repeat' (first | refine zS ?_ | refine zq5 ?_ | refine zq6 ?_))
 (refine pl_op rfl (zCl [0] e17 (c13d l hl j hj 14 (by decide)) (fun r s hq => ?_)); obtain ⟨rfl, rfl⟩ := hq; refine ⟨rfl, rfl, ?_⟩; (refine zNp ?_))
 have hj1 := nxI_le hj 14
 rw [hk]
 generalize nxI l j 14 = j1 at hj1 ⊢
 clear hk
 (repeat' (first | refine zS ?_ | refine zq5 ?_ | refine zq6 ?_))
 refine zDr [[0,1,2,5,7,8,12,13,17],[3],[4],[6,9],[10,11],[14],[15,16],[18],[19,20,21,22],[23],[24],[25]] ?_
 refine zDn ?_
 refine zD ?_
 (refine po_step rfl rfl (zCl [0] e17 (c13n l hl j1 hj1 2 (by decide) (by decide)) (fun r s hq => ?_)); obtain ⟨j2, ⟨m1, hm1, rfl⟩, hj2, rfl⟩ := hq; refine ⟨rfl, rfl, zLok, ?_⟩; refine zDn ?_)
 refine zD ?_
 (refine po_step rfl rfl (zCl [0] e56 (c_gName l hl j2 hj2) (fun r s hq => ?_)); obtain ⟨j3, ⟨s1, rfl⟩, hj3, rfl⟩ := hq; refine ⟨rfl, rfl, zLok, ?_⟩; refine zDn ?_)
 (refine po_step rfl rfl (zCl [0] e17 (c13n l hl j3 hj3 3 (by decide) (by decide)) (fun r s hq => ?_)); obtain ⟨j4, ⟨m2, hm2, rfl⟩, hj4, rfl⟩ := hq; refine ⟨rfl, rfl, zLok, ?_⟩; refine zDn ?_)
 (refine po_val rfl rfl (v_index (p := .str (spL6.getD m2 [])) hT rfl rfl rfl rfl (by omega) (lit_at (.str) spL6 m2 [] hm2) rfl) ?_; refine zDn ?_)
 refine zD ?_
 (refine po_step rfl rfl (zCl [0] e17 (c13n l hl j4 hj4 3 (by decide) (by decide)) (fun r s hq => ?_)); obtain ⟨j5, ⟨m3, hm3, rfl⟩, hj5, rfl⟩ := hq; refine ⟨rfl, rfl, zLok, ?_⟩; refine zDn ?_)
 (refine po_val rfl rfl (v_index (p := .str (spL7.getD m3 [])) hT rfl rfl rfl rfl (by omega) (lit_at (.str) spL7 m3 [] hm3) rfl) ?_; refine zDn ?_)
 refine zD ?_
 (refine po_step rfl rfl (zCl [0] e17 (c13n l hl j5 hj5 3 (by decide) (by decide)) (fun r s hq => ?_)); obtain ⟨j6, ⟨m4, hm4, rfl⟩, hj6, rfl⟩ := hq; refine ⟨rfl, rfl, zLok, ?_⟩; refine zDn ?_)
 refine zD ?_
 (refine po_step rfl rfl (op_append (b := 136) hT rfl rfl rfl rfl rfl rfl (.inl (Nat.zero_lt_succ _)) rfl rfl (by simp only [List.length_map, List.length_cons, List.length_nil]; omega) (fun c1 _ hcap => ⟨zLok, ?_⟩)); refine zDn ?_)
 refine zD ?_
 (refine pw_mv 15 21 hD rfl rfl rfl rfl rfl ?_; refine pw_norm rfl ?_)
 (repeat' (first | refine zS ?_ | refine zq5 ?_ | refine zq6 ?_))
 exact ⟨_, eIntent { i with stms := i.stms ++ [⟨((m1 : Int) == 0), s1, [], [], false, [], [], spL6.getD m2 [], spL7.getD m3 [], (m4 : Int) * 600 - 1⟩] }, _, rfl, ⟨j6, ⟨{ i with stms := i.stms ++ [⟨((m1 : Int) == 0), s1, [], [], false, [], [], spL6.getD m2 [], spL7.getD m3 [], (m4 : Int) * 600 - 1⟩] }, hi.addT _, rfl⟩, hj6, rfl⟩, by (simp only [eIntent, List.map_append, List.map_cons, List.map_nil]; (refine .inr (.inr (.inr (.inr (.inl ⟨_, _, rfl, rfl, ?_⟩)))); (repeat (first | exact True.intro | refine ⟨.inr (.inl rfl), ?_⟩ | refine ⟨.inr (.inr (.inl ⟨rfl, rfl⟩)), ?_⟩ | refine ⟨.inr (.inr (.inr (.inl ⟨_, _, _, _, _, _, rfl, rfl, rfl, rfl, rfl⟩))), ?_⟩ | refine ⟨.inr (.inr (.inr (.inl ⟨_, _, _, _, _, _, rfl, rfl, rfl, (by simp only [List.length_map, List.length_append, List.length_cons, List.length_nil]), rfl⟩))), ?_⟩)))), ⟨.inr (.inl rfl), trivial⟩, rfl, rfl⟩
theorem spoil_6 (l : List Int) (hl : Tp l) : SpoilAt Gl l 6 := by
 intro j hj i n hn hi c B j0 hD hk
 have hg1 := hi.groups
 have hg2 := hi.services
 have hg3 := hi.windows
 have hg4 := hi.stms
 have hg5 := hi.pubs
 have hg6 := hi.hids
 unfold sst senv
 refine pw_code rfl ?_
 refine zNq ?_
 (repeat' (first | refine zS ?_ | refine zq5 ?_ | refine zq6 ?_))
 (refine pl_op rfl (zCl [0] e17 (c13d l hl j hj 14 (by decide)) (fun r s hq => ?_)); obtain ⟨rfl, rfl⟩ := hq; refine ⟨rfl, rfl, ?_⟩; (refine zNp ?_))
 have hj1 := nxI_le hj 14
 rw [hk]
 generalize nxI l j 14 = j1 at hj1 ⊢
 clear hk
 (repeat' (first | refine zS ?_ | refine zq5 ?_ | refine zq6 ?_))
 refine pw_room 15 rfl fun hroom => ?_
 refine zT ?_ ?_ <;> intro g <;> refine zNq ?_
 ·have h0 : 0 < i.stms.length := by simpa using g
  have hc0 : c.2.2.2.1 ≠ 0 := by rw [List.length_map] at hroom; omega
  have hx0 : (i.stms.map eStm)[0]? = some (eStm (i.stms.getD 0 default)) := by rw [List.getElem?_map, List.getD, List.getElem?_eq_getElem h0]; rfl
  (repeat' (first | refine zS ?_ | refine zq5 ?_ | refine zq6 ?_))
  refine zDr [[0,1,2,3],[4],[5,6,7,8],[9]] ?_
  refine zDn ?_
  refine zD ?_
  (refine po_step rfl rfl (zCl [0] e17 (c13n l hl j1 hj1 3 (by decide) (by decide)) (fun r s hq => ?_)); obtain ⟨j2, ⟨m1, hm1, rfl⟩, hj2, rfl⟩ := hq; refine ⟨rfl, rfl, zLok, ?_⟩; refine zDn ?_)
  (refine po_val rfl rfl (v_index (p := .str (spL8.getD m1 [])) hT rfl rfl rfl rfl (by omega) (lit_at (.str) spL8 m1 [] hm1) rfl) ?_; refine zDn ?_)
  refine zD ?_
  (refine po_val rfl rfl (v_indexm hT rfl rfl rfl rfl rfl (by decide) (by rw [List.length_map]; omega) (hc0)) ?_; refine zDn ?_)
  refine zD ?_
  (refine po_step rfl rfl (op_storeE' (x0 := eStm (i.stms.getD 0 default)) (x1 := eStm { i.stms.getD 0 default with cls := spL8.getD m1 [] }) (xs' := (i.stms.set 0 { i.stms.getD 0 default with cls := spL8.getD m1 [] }).map eStm) hT rfl rfl rfl rfl rfl (hc0) (hx0) rfl rfl rfl rfl (Nat.le_of_ble_eq_true rfl) rfl (by rw [List.map_set] <;> rfl) ⟨zLok, ?_⟩); refine zDn ?_)
  refine zD ?_
  (repeat' (first | refine zS ?_ | refine zq5 ?_ | refine zq6 ?_))
  exact ⟨_, eIntent { i with stms := i.stms.set 0 { i.stms.getD 0 default with cls := spL8.getD m1 [] } }, _, rfl, ⟨j2, ⟨{ i with stms := i.stms.set 0 { i.stms.getD 0 default with cls := spL8.getD m1 [] } }, hi.setT _ _, rfl⟩, hj2, rfl⟩, by (simp only [eIntent, List.map_set]; (refine .inr (.inr (.inr (.inr (.inl ⟨_, _, rfl, rfl, ?_⟩)))); (repeat (first | exact True.intro | refine ⟨.inr (.inl rfl), ?_⟩ | refine ⟨.inr (.inr (.inl ⟨rfl, rfl⟩)), ?_⟩ | refine ⟨.inr (.inr (.inr (.inl ⟨_, _, _, _, _, _, rfl, rfl, rfl, rfl, rfl⟩))), ?_⟩ | refine ⟨.inr (.inr (.inr (.inl ⟨_, _, _, _, _, _, rfl, rfl, rfl, (by simp only [List.length_map, List.length_set]), rfl⟩))), ?_⟩)))), ⟨.inr (.inl rfl), trivial⟩, rfl, rfl⟩
 ·(repeat' (first | refine zS ?_ | refine zq5 ?_ | refine zq6 ?_))
  exact ⟨_, eIntent i, _, rfl, ⟨j1, ⟨i, hi.mono (Nat.le_add_right n 3), rfl⟩, hj1, rfl⟩, by (refine .inr (.inr (.inr (.inr (.inl ⟨_, _, rfl, rfl, ?_⟩)))); (repeat (first | exact True.intro | refine ⟨.inr (.inl rfl), ?_⟩ | refine ⟨.inr (.inr (.inl ⟨rfl, rfl⟩)), ?_⟩ | refine ⟨.inr (.inr (.inr (.inl ⟨_, _, _, _, _, _, rfl, rfl, rfl, rfl, rfl⟩))), ?_⟩ | refine ⟨.inr (.inr (.inr (.inl ⟨_, _, _, _, _, _, rfl, rfl, rfl, (by simp only [List.length_map, List.length_set, List.length_append, List.length_cons, List.length_nil]), rfl⟩))), ?_⟩))), ⟨.inr (.inl rfl), trivial⟩, rfl, rfl⟩

end
end Go.Proofs.YtkaobkjcjodffaaGreatDoor