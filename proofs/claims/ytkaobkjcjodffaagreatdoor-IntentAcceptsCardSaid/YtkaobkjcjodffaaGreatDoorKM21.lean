/-
 The windows that the generators make have a text: plain.
 The text of an intent's lines in another order is read as the same intent.
 A generated intent is valid, and its text is short: plain.
 What is read from a text is valid: plain.
-/
import Derived.Test.YtkaobkjcjodffaaGreatDoorKM15
import Derived.Test.YtkaobkjcjodffaaGreatDoorKK32
import Derived.Test.YtkaobkjcjodffaaGreatDoorKK43B
import Derived.Test.YtkaobkjcjodffaaGreatDoorKP1
import Derived.Test.YtkaobkjcjodffaaGreatDoorKB6
import Derived.Test.YtkaobkjcjodffaaGreatDoorJPwAuto
set_option maxHeartbeats 20000000
set_option maxRecDepth 100000
namespace Go.Proofs.YtkaobkjcjodffaaGreatDoor
open Go Go.Pw
section
def OneDay (r : TRng) : Prop := r.lo ≤ r.hi ∧ 0 ≤ r.lo ∧ r.lo / 1440 ≤ 6 ∧ r.hi < (r.lo / 1440) * 1440 + 1440
def below (d : Nat) (r : TRng) : Bool := decide (r.lo < (d : Int) * 1440)
def inDay (d : Nat) (r : TRng) : Bool := decide ((d : Int) * 1440 ≤ r.lo ∧ r.lo < (d : Int) * 1440 + 1440)
theorem below_step (d : Nat) : ∀ l : List TRng, (l.filter (below d)).length + (l.filter (inDay d)).length ≤ (l.filter (below (d + 1))).length
 | [] => Nat.le_refl 0
 | r :: l => by
  have h := below_step d l
  have e1 : ((r :: l).filter (below d)).length = (if r.lo < (d : Int) * 1440 then 1 else 0) + (l.filter (below d)).length := by
   by_cases g : r.lo < (d : Int) * 1440
   ·rw [List.filter_cons_of_pos (show below d r = true from decide_eq_true g), if_pos g, List.length_cons, Nat.add_comm]
   ·rw [List.filter_cons_of_neg (by simp [below, g]), if_neg g, Nat.zero_add]
  have e2 : ((r :: l).filter (below (d + 1))).length = (if r.lo < ((d + 1 : Nat) : Int) * 1440 then 1 else 0) + (l.filter (below (d + 1))).length := by
   by_cases g : r.lo < ((d + 1 : Nat) : Int) * 1440
   ·rw [List.filter_cons_of_pos (show below (d + 1) r = true from decide_eq_true g), if_pos g, List.length_cons, Nat.add_comm]
   ·rw [List.filter_cons_of_neg (by simp only [below, decide_eq_true_eq]; exact g), if_neg g, Nat.zero_add]
  have e3 : ((r :: l).filter (inDay d)).length = (if (d : Int) * 1440 ≤ r.lo ∧ r.lo < (d : Int) * 1440 + 1440 then 1 else 0) + (l.filter (inDay d)).length := by
   by_cases g : (d : Int) * 1440 ≤ r.lo ∧ r.lo < (d : Int) * 1440 + 1440
   ·rw [List.filter_cons_of_pos (show inDay d r = true from decide_eq_true g), if_pos g, List.length_cons, Nat.add_comm]
   ·rw [List.filter_cons_of_neg (by simp only [inDay, decide_eq_true_eq]; exact g), if_neg g, Nat.zero_add]
  rw [e1, e2, e3]
  split <;> split <;> split <;> omega
theorem wDay_canon {R : List TRng} (h : ∀ r ∈ R, OneDay r) (d : Nat) : (wDay (canon R) d).length ≤ (R.filter (inDay d)).length := by
 have e : wDay (canon R) d = canon (R.filter (inDay d)) := by
  refine canon_uniq (canon_ok _).1 fun v => ?_
  unfold wDay
  rw [isect_mem, (canon_ok R).2]
  constructor
  ·rintro ⟨⟨r, hr, h1, h2⟩, s, hs, h3, h4⟩
   rw [List.mem_singleton] at hs
   subst hs
   unfold dayAll at h3 h4
   dsimp only at h3 h4
   have := h r hr
   unfold OneDay at this
   refine ⟨r, List.mem_filter.2 ⟨hr, decide_eq_true ?_⟩, h1, h2⟩
   omega
  ·rintro ⟨r, hr, h1, h2⟩
   obtain ⟨hr, hd⟩ := List.mem_filter.1 hr
   have hd := of_decide_eq_true hd
   have := h r hr
   unfold OneDay at this
   refine ⟨⟨r, hr, h1, h2⟩, _, List.mem_singleton_self _, ?_, ?_⟩ <;> unfold dayAll <;> dsimp only <;> omega
 rw [e]
 exact canon_len _
theorem wDays_canon {R : List TRng} (h : ∀ r ∈ R, OneDay r) : ∀ n : Nat, (wDays (canon R) n).length ≤ 3 * (R.filter (below n)).length
 | 0 => Nat.zero_le _
 | n + 1 => by
  have h1 := wDays_canon h n
  have h2 := wPuts_len n (wDay (canon R) n) (wDays (canon R) n)
  have h3 := wDay_canon h n
  have h4 := below_step n R
  rw [wDays_succ]
  omega
theorem canon_top {R : List TRng} (h : ∀ r ∈ R, OneDay r) : ∀ r ∈ canon R, RIn r ∧ r.hi ≤ 10079 := fun r hr => by
 have hc := (canon_ok R).1
 have h1 := hc.le r hr
 obtain ⟨a, ha, g1, g2⟩ := ((canon_ok R).2 r.lo).1 ⟨r, hr, Int.le_refl _, h1⟩
 obtain ⟨b, hb, g3, g4⟩ := ((canon_ok R).2 r.hi).1 ⟨r, hr, h1, Int.le_refl _⟩
 have ha := h a ha
 have hb := h b hb
 unfold OneDay at ha hb
 unfold RIn
 omega
theorem wOk_canon {R : List TRng} (h : ∀ r ∈ R, OneDay r) (h0 : R ≠ []) (hl : R.length ≤ 15) : wOkB (canon R) = true := by
 have ht := canon_top h
 have hc := (canon_ok R).1
 have hv : ivalid (canon R) 10079 = true := ivalid_can hc fun r hr => (ht r hr).2
 have hn : canon R ≠ [] := fun e => by
  obtain ⟨r, R', rfl⟩ := List.exists_cons_of_ne_nil h0
  have hr := h r (List.mem_cons_self ..)
  have := ((canon_ok (r :: R')).2 r.lo).2 ⟨r, List.mem_cons_self .., Int.le_refl _, hr.1⟩
  rw [e] at this
  exact mem_nil _ this
 have h1 := wDays_pos hc hn (fun r hr => (ht r hr).1) fun r hr => (ht r hr).2
 have h2 := wDays_canon h 7
 have h3 := List.length_filter_le (below 7) R
 unfold wOkB wFormat
 rw [if_pos hv, if_neg hn, Bool.and_eq_true]
 exact ⟨decide_eq_true (by omega), decide_eq_true (by omega)⟩
theorem itemRs_one {d t : Str} (h1 : spanOk d = true) (h2 : timeOk t = true) : ∀ r ∈ itemRs d t, OneDay r := fun r hr => by
 have hs := span_facts d h1
 have ht := time_facts t h2
 simp only [itemRs, List.mem_map, List.mem_range] at hr
 obtain ⟨k, hk, rfl⟩ := hr
 unfold OneDay dayR
 dsimp only
 have e : ((spanA d + (k : Int)) * 1440 + timeA t) / 1440 = spanA d + k := by omega
 rw [e]
 omega
theorem wd6_ok : ∀ i, i < 6 → spanOk (wd6.getD i []) = true ∧ (spanB (wd6.getD i []) - spanA (wd6.getD i []) + 1).toNat ≤ 5 ∧ 1 ≤ (spanB (wd6.getD i []) - spanA (wd6.getD i []) + 1).toNat := by decide
theorem wh5_ok : ∀ i, i < 5 → timeOk (wh5.getD i []) = true := by decide
def qItem (p : Nat × Nat) : List TRng := itemRs (wd6.getD p.1 []) (wh5.getD p.2 [])
theorem qItem_ok {p : Nat × Nat} (h : p.1 < 6 ∧ p.2 < 5) : (∀ r ∈ qItem p, OneDay r) ∧ (qItem p).length ≤ 5 ∧ 1 ≤ (qItem p).length := by
 have h1 := wd6_ok _ h.1
 refine ⟨itemRs_one h1.1 (wh5_ok _ h.2), ?_⟩
 unfold qItem itemRs
 rw [List.length_map, List.length_range]
 exact h1.2
theorem wRun_q (d t : Str) (rest : List Str) (out : List TRng) (n : Nat) (h1 : spanOk d = true) (h2 : timeOk t = true) : wRun (d :: t :: [44] :: rest) out n = wRun rest (out ++ itemRs d t) (n + 1) := by
 rw [wRun, if_neg (by rw [h1, h2]; decide)]
 rfl
theorem wRun_e (d t : Str) (out : List TRng) (n : Nat) (h1 : spanOk d = true) (h2 : timeOk t = true) : wRun [d, t] out n = some (out ++ itemRs d t, n + 1) := by
 rw [wRun, if_neg (by rw [h1, h2]; decide)]
theorem wParse_q {q : List (Nat × Nat)} (h : QW q) : ∃ R, (∀ r ∈ R, OneDay r) ∧ R ≠ [] ∧ R.length ≤ 15 ∧ wParse (wWords q) = (canon R, 0) := by
 obtain ⟨h0, h3, hp⟩ := h
 match q, h0, h3, hp with
 | [a], _, _, hp =>
  have ha := hp a (by simp)
  have ia := qItem_ok ha
  have sa := (wd6_ok _ ha.1).1
  have ta := wh5_ok _ ha.2
  refine ⟨qItem a, ia.1, fun e => by rw [e] at ia; simp at ia, by omega, ?_⟩
  show wParse [wd6.getD a.1 [], wh5.getD a.2 []] = _
  unfold wParse
  rw [if_neg (by simp), wRun_e _ _ _ _ sa ta]
  simp [wEnd, qItem]
 | [a, b], _, _, hp =>
  have ha := hp a (by simp)
  have hb := hp b (by simp)
  have ia := qItem_ok ha
  have ib := qItem_ok hb
  have sa := (wd6_ok _ ha.1).1
  have ta := wh5_ok _ ha.2
  have sb := (wd6_ok _ hb.1).1
  have tb := wh5_ok _ hb.2
  refine ⟨qItem b ++ qItem a, fun r hr => (List.mem_append.1 hr).elim (ib.1 r) (ia.1 r), fun e => ?_, by rw [List.length_append]; omega, ?_⟩
  ·have := congrArg List.length e; rw [List.length_append] at this; simp only [List.length_nil] at this; omega
  show wParse [wd6.getD b.1 [], wh5.getD b.2 [], [44], wd6.getD a.1 [], wh5.getD a.2 []] = _
  unfold wParse
  rw [if_neg (by simp), wRun_q _ _ _ _ _ sb tb, wRun_e _ _ _ _ sa ta]
  simp [wEnd, qItem]
 | [a, b, c], _, _, hp =>
  have ha := hp a (by simp)
  have hb := hp b (by simp)
  have hc := hp c (by simp)
  have ia := qItem_ok ha
  have ib := qItem_ok hb
  have ic := qItem_ok hc
  have sa := (wd6_ok _ ha.1).1
  have ta := wh5_ok _ ha.2
  have sb := (wd6_ok _ hb.1).1
  have tb := wh5_ok _ hb.2
  have sc := (wd6_ok _ hc.1).1
  have tc := wh5_ok _ hc.2
  refine ⟨(qItem c ++ qItem b) ++ qItem a, fun r hr => (List.mem_append.1 hr).elim (fun g => (List.mem_append.1 g).elim (ic.1 r) (ib.1 r)) (ia.1 r), fun e => ?_, by simp only [List.length_append]; omega, ?_⟩
  ·have := congrArg List.length e; simp only [List.length_append, List.length_nil] at this; omega
  show wParse [wd6.getD c.1 [], wh5.getD c.2 [], [44], wd6.getD b.1 [], wh5.getD b.2 [], [44], wd6.getD a.1 [], wh5.getD a.2 []] = _
  unfold wParse
  rw [if_neg (by simp), wRun_q _ _ _ _ _ sc tc, wRun_q _ _ _ _ _ sb tb, wRun_e _ _ _ _ sa ta]
  simp [wEnd, qItem]
theorem wOk_q {q : List (Nat × Nat)} (h : QW q) : wOkB (wParse (wWords q)).1 = true := by
 obtain ⟨R, h1, h2, h3, e⟩ := wParse_q h
 rw [e]
 exact wOk_canon h1 h2 h3
theorem MGood.of {a b : List TLine} (h : MGood b) (hs : ∀ x ∈ a, x.words ∈ b.map TLine.words) : MGood a := by
 have : ∀ x ∈ a, ∃ y ∈ b, y.words = x.words := fun x hx => List.mem_map.1 (hs x hx)
 refine ⟨fun x hx => ?_, fun x hx => ?_, fun x hx => ?_⟩ <;> obtain ⟨y, hy, e⟩ := this x hx <;> rw [← e]
 ·exact h.some y hy
 ·exact h.few y hy
 ·exact h.good y hy
theorem vDefs_of {l : List TDef} {sv : Bool} (h : VDef l sv) : vDefs l sv = true := by
 unfold vDefs
 rw [Bool.and_eq_true]
 refine ⟨decide_eq_true h.len, List.all_eq_true.2 fun k hk => ?_⟩
 have hk := List.mem_range.1 hk
 have hm := getD_memD hk
 unfold dOk dHead
 rw [Bool.and_eq_true, Bool.and_eq_true, Bool.and_eq_true, Bool.and_eq_true]
 exact ⟨⟨⟨⟨h.name _ hm, decide_eq_true (h.first k hk)⟩, decide_eq_true (h.i1 _ hm)⟩, decide_eq_true (h.i2 _ hm)⟩, List.all_eq_true.2 fun x hx => h.items _ hm x hx⟩
theorem iValid_of {i : TInt} (h : IV i) : iValid i = true := by
 unfold iValid
 simp only [Bool.and_eq_true, decide_eq_true_eq]
 refine ⟨⟨⟨⟨⟨⟨vDefs_of h.gs, vDefs_of h.ss⟩, h.wl⟩, h.sl⟩, h.pl⟩, h.hl⟩, ⟨⟨?_, List.all_eq_true.2 h.stms⟩, List.all_eq_true.2 h.pubs⟩, List.all_eq_true.2 h.hids⟩
 refine List.all_eq_true.2 fun k hk => ?_
 have hk := List.mem_range.1 hk
 have hm := getD_memD hk
 unfold wWin
 rw [Bool.and_eq_true, Bool.and_eq_true]
 exact ⟨⟨h.wname _ hm, decide_eq_true (h.wfirst k hk)⟩, h.wok _ hm⟩
theorem eqI_self (x : TItem) : eqI x x = true := by simp [eqI]
theorem GDefs.vdef {nm : List Str} {Q : TItem → Prop} {ds : List TDef} {sv : Bool} (h : GDefs nm Q ds) (hn : ∀ k, k < 3 → vname (nm.getD k []) = true) (hd : ∀ k, k < 3 → ∀ j, j < k → (nm.getD j [] == nm.getD k []) = false) (hq : ∀ y, Q y → vItem y sv = true) : VDef ds sv := by
 have h3 := h.1
 have hget : ∀ k, k < ds.length → ∃ d, ds[k]? = some d ∧ ds.getD k default = d := fun k hk => ⟨ds[k], List.getElem?_eq_getElem hk, by rw [List.getD, List.getElem?_eq_getElem hk]; rfl⟩
 refine ⟨by omega, fun d hd' => ?_, fun k hk => ?_, fun d hd' => (h.mem hd').1.1, fun d hd' => by have := (h.mem hd').1.2; omega, fun d hd' y hy => hq y ((h.mem hd').2 y hy)⟩
 ·obtain ⟨k, hk⟩ := List.mem_iff_getElem?.1 hd'
  rw [(h.2 k d hk).1]
  exact hn k (by have := (List.getElem?_eq_some_iff.1 hk).1; omega)
 ·obtain ⟨d, e, e2⟩ := hget k hk
  rw [e2]
  refine firstAt_hit hk ?_ fun j x hj hx => ?_
  ·have : ds[k] = d := by have := List.getElem?_eq_getElem hk; rw [e] at this; exact (Option.some.inj this).symm
   rw [this]; exact beq_self_eq_true _
  ·show (x.name == d.name) = false
   rw [(h.2 j x hx).1, (h.2 k d e).1]
   exact hd k (by omega) j hj
theorem TGen.zone {m : Nat} {t : Topo} (h : TGen m t) {e : TEdge} (he : e ∈ t.edges) : vname e.zone = true := by
 obtain ⟨k, hk⟩ := List.mem_iff_getElem?.1 he
 exact (by decide : ∀ z ∈ zones3, vname z = true) _ (h.edges k e hk).zone
theorem TGen.ename {m : Nat} {t : Topo} (h : TGen m t) {e : TEdge} (he : e ∈ t.edges) : vname e.name = true := by
 obtain ⟨k, hk⟩ := List.mem_iff_getElem?.1 he
 have h1 := (List.getElem?_eq_some_iff.1 hk).1
 have h2 := h.el
 rw [(h.edges k e hk).name]
 exact (by decide : ∀ k, k < 5 → vname (names5.getD k []) = true) k (by omega)
theorem TGen.dcls {m : Nat} {t : Topo} (h : TGen m t) {d : TDev} (hd : d ∈ t.devs) : okName d.cls = true := by
 obtain ⟨k, hk⟩ := List.mem_iff_getElem?.1 hd
 exact (by decide : ∀ z ∈ cls3, okName z = true) _ (h.devs k d hk).cls
theorem ok_of {s : Str} (h : vname s = true) : okName s = true := by unfold okName; rw [h, Bool.or_true]
theorem GGItem.ok {m : Nat} {x : Topo} (hx : TGen m x) {y : TItem} (h : GGItem x y) : vItem y false = true := by
 rcases h with ⟨p, hp, rfl⟩ | ⟨e, he, rfl⟩ | rfl
 ·show ((!false && pvalid p) && eqI ⟨2, [], p, 0, rng0⟩ ⟨2, [], p, 0, rng0⟩) = true
  rw [valid_eq p hp.1, hp.2, eqI_self]; rfl
 ·show ((!false && vname e.zone) && eqI ⟨1, e.zone, pfx0, 0, rng0⟩ ⟨1, e.zone, pfx0, 0, rng0⟩) = true
  rw [hx.zone he, eqI_self]; rfl
 ·decide
theorem GSItem.ok {y : TItem} (h : GSItem y) : vItem y true = true := by
 rcases h with ⟨p, r, hp, hr, rfl⟩ | rfl | rfl | rfl
 ·show ((true && vPorts p r) && eqI ⟨4, [], pfx0, p, r⟩ ⟨4, [], pfx0, p, r⟩) = true
  rw [eqI_self]
  unfold vPorts
  rw [if_pos hp, decide_eq_true hr.2.1, decide_eq_true hr.2.2]
  rfl
 all_goals decide
theorem IGen.iv {m n : Nat} {x : Topo} {i : TInt} (hx : TGen m x) (h : IGen x n i) (hn : n ≤ 64) : IV i := by
 have vg : VDef i.groups false := h.gs.vdef (by decide) (by decide) fun y hy => hy.ok hx
 have vs : VDef i.services true := h.ss.vdef (by decide) (by decide) fun y hy => hy.ok
 have vw : ∀ w ∈ i.windows, w.name = [119, 111, 114, 107] := fun w hw => by obtain ⟨q, _, rfl⟩ := h.win hw; rfl
 refine ⟨vg, vs, ?_, Nat.le_trans h.stl hn, Nat.le_trans h.pl (by decide), Nat.le_trans h.hl (by decide), fun w hw => ?_, fun k hk => ?_, fun w hw => ?_, fun s hs => ?_, fun p hp => ?_, fun d hd => ?_⟩
 ·rcases h.ws with e | ⟨q, _, e⟩ <;> rw [e] <;> simp
 ·rw [vw w hw]; decide
 ·rcases h.ws with e | ⟨q, _, e⟩ <;> rw [e] at hk ⊢
  ·cases hk
  ·have : k = 0 := by simp at hk; exact hk
   subst this
   rfl
 ·obtain ⟨q, hq, rfl⟩ := h.win hw; exact wOk_q hq
 ·have g := h.stm s hs
  have ng : ∀ t : Str, (t = [] ∨ ∃ d ∈ i.groups, t = d.name) → okName t = true := fun t ht => by
   rcases ht with rfl | ⟨d, hd, rfl⟩
   ·rfl
   ·exact ok_of (vg.name d hd)
  have hexs : okName s.exSrc = true := by
   rcases g.exc with ⟨_, e, _⟩ | ⟨_, e, _⟩
   ·exact ng _ e
   ·rw [e]; rfl
  have hexd : okName s.exDst = true := by
   rcases g.exc with ⟨_, _, e⟩ | ⟨_, _, e⟩
   ·exact ng _ e
   ·rw [e]; rfl
  have hsv : okName s.service = true := by
   rcases g.service with e | ⟨d, hd, e⟩ <;> rw [e]
   ·rfl
   ·exact ok_of (vs.name d hd)
  have hcl : okName s.cls = true := by
   rcases g.cls with e | ⟨_, d, hd, e⟩ <;> rw [e]
   ·rfl
   ·exact hx.dcls hd
  have hdu : okName s.during = true := by
   rcases g.during with e | ⟨d, hd, e⟩ <;> rw [e]
   ·rfl
   ·rw [vw d hd]; decide
  have hpr := (by decide : ∀ z ∈ prios5, 0 ≤ z ∧ z ≤ 1000) _ g.prio
  unfold vStm stmNames stmRest
  simp only [List.all_cons, List.all_nil, ng _ g.src, ng _ g.dst, hsv, hcl, hdu, hexs, hexd, Bool.true_and, Bool.and_true, Bool.and_eq_true, Bool.or_eq_true, decide_eq_true_eq]
  refine ⟨⟨⟨?_, ?_⟩, hpr.1⟩, hpr.2⟩
  ·rcases g.cls with e | ⟨e, _⟩
   ·exact .inr (by rw [e]; rfl)
   ·exact .inl e
  ·rcases g.exc with ⟨e, _⟩ | ⟨_, e1, e2⟩
   ·exact .inl e
   ·exact .inr ⟨by rw [e1]; rfl, by rw [e2]; rfl⟩
 ·obtain ⟨h1, h2, h3, ⟨e, he, h4⟩, _⟩ := h.pub p hp
  unfold vPub
  rw [h4, hx.ename he, decide_eq_true h2.1, decide_eq_true h2.2, decide_eq_true h3.1, decide_eq_true h3.2]
  rcases h1 with e | e <;> rw [e] <;> rfl
 ·obtain ⟨h1, ⟨e, he, h2⟩, _, h4, h5, h6⟩ := h.hid d hd
  unfold vHid
  rw [h1, h2, hx.ename he, h4, decide_eq_true h5, decide_eq_true (show d.ports.hi ≤ 65535 by omega)]
  rfl
theorem pfxParse_ok {s : Str} (h : (pfxParse s).2 = true) : pvalid (pfxParse s).1 = true := by
 revert h
 unfold pfxParse pfxP2
 split
 ·intro h; cases h
 split
 ·intro h; cases h
 split
 ·intro h; cases h
 rename_i h3
 intro _
 simpa using h3
theorem rng0_in : (0 : Int) ≤ rng0.lo := Int.le_refl 0
theorem pfx0_in : (0 : Int) ≤ pfx0.addr ∧ pfx0.addr < 4294967296 := ⟨Int.le_refl 0, (by decide : (0 : Int) < 4294967296)⟩
theorem rdItem_ok {w : List Str} {sv : Bool} (h1 : (rdItem w sv).2.1 = true) (h2 : (rdItem w sv).2.2 = true) : vItem (rdItem w sv).1 sv = true ∧ ItIn (rdItem w sv).1 := by
 revert h1 h2
 unfold rdItem
 split
 ·rename_i h
  obtain ⟨rfl, _⟩ := h
  intro _ _
  exact ⟨by decide, pfx0_in, by decide⟩
 split
 ·intro h; cases h
 split
 ·rename_i h
  obtain ⟨rfl, _⟩ := h
  intro h1 _
  dsimp only at h1
  have p1 := portsT_ok h1
  have p2 := portsT_in (w.getD 1 [])
  generalize (portsT (w.getD 1 [])).1 = r at p1 p2
  refine ⟨?_, pfx0_in, p2.1.1⟩
  have hp : (if w.getD 0 [] = [117, 100, 112] then (17 : Int) else 6) = 6 ∨ (if w.getD 0 [] = [117, 100, 112] then (17 : Int) else 6) = 17 := by split <;> simp
  generalize (if w.getD 0 [] = [117, 100, 112] then (17 : Int) else 6) = p at hp
  show ((true && vPorts p r) && eqI ⟨4, [], pfx0, p, r⟩ ⟨4, [], pfx0, p, r⟩) = true
  rw [eqI_self]
  unfold vPorts
  rw [if_pos hp, decide_eq_true p1.1, decide_eq_true p1.2]
  rfl
 split
 ·rename_i h
  obtain ⟨rfl, _⟩ := h
  intro _ h2
  dsimp only at h2
  simp only [Bool.and_eq_true, bne_iff_ne, ne_eq] at h2
  obtain ⟨⟨⟨a, b⟩, c⟩, d⟩ := h2
  have hr := number_range _ _ _ a
  generalize (number (w.getD 1 []) 0 255).1 = p at b c d hr
  refine ⟨?_, pfx0_in, rng0_in⟩
  show ((true && vPorts p rng0) && eqI ⟨4, [], pfx0, p, rng0⟩ ⟨4, [], pfx0, p, rng0⟩) = true
  rw [eqI_self]
  unfold vPorts
  rw [if_neg (by omega), if_neg b, decide_eq_true (show p ≥ 0 by omega), decide_eq_true (show p ≤ 255 by omega)]
  rfl
 split
 ·intro h1 _
  dsimp only at h1
  refine ⟨?_, pfx0_in, rng0_in⟩
  generalize w.getD 1 [] = nm at h1
  show (vname nm && eqI ⟨3, nm, pfx0, 0, rng0⟩ ⟨3, nm, pfx0, 0, rng0⟩) = true
  rw [eqI_self, h1]; rfl
 split
 ·rename_i h
  obtain ⟨hs, _⟩ := h
  have hs : sv = false := by simpa using hs
  subst hs
  intro h1 _
  dsimp only at h1
  refine ⟨?_, pfx0_in, rng0_in⟩
  generalize w.getD 1 [] = nm at h1
  show ((!false && vname nm) && eqI ⟨1, nm, pfx0, 0, rng0⟩ ⟨1, nm, pfx0, 0, rng0⟩) = true
  rw [eqI_self, h1]; rfl
 split
 ·rename_i h
  obtain ⟨hs, _⟩ := h
  have hs : sv = false := by simpa using hs
  subst hs
  intro h1 _
  dsimp only at h1
  have g1 := pfxParse_ok h1
  have g2 := pfx_in (w.getD 1 [])
  generalize (pfxParse (w.getD 1 [])).1 = p at g1 g2
  refine ⟨?_, g2, rng0_in⟩
  show ((!false && pvalid p) && eqI ⟨2, [], p, 0, rng0⟩ ⟨2, [], p, 0, rng0⟩) = true
  rw [eqI_self, g1]; rfl
 ·intro h; cases h
theorem firstAt_oldN {α : Type} {p : α → Bool} {l r : List α} {i : Nat} (h : firstAt p l = (i : Int)) : firstAt p (l ++ r) = (i : Int) := by
 unfold firstAt at h ⊢
 rw [List.findIdx?_append]
 cases hf : l.findIdx? p with
 | none => rw [hf] at h; have : (-1 : Int) = (i : Int) := h; omega
 | some k => rw [hf] at h; exact h
theorem firstAt_newN {α : Type} {p : α → Bool} {l : List α} {x : α} (h : firstAt p l < 0) (hx : p x = true) : firstAt p (l ++ [x]) = (l.length : Int) := by
 unfold firstAt at h ⊢
 rw [List.findIdx?_append]
 cases hf : l.findIdx? p with
 | none => simp [hx]
 | some k => rw [hf] at h; have : (k : Int) < 0 := h; omega
theorem getD_app {α : Type} [Inhabited α] {l : List α} {x : α} {k : Nat} (hk : k < l.length) : (l ++ [x]).getD k default = l.getD k default := by
 rw [List.getD, List.getD, List.getElem?_append_left hk]
theorem getD_end {α : Type} [Inhabited α] {l : List α} {x : α} : (l ++ [x]).getD l.length default = x := by
 rw [List.getD, List.getElem?_append_right (Nat.le_refl _), Nat.sub_self]; rfl
theorem first_snoc {α : Type} [Inhabited α] {q : α → Str} {l : List α} {x : α} (h : ∀ k, k < l.length → firstAt (fun y => q y == q (l.getD k default)) l = k) (hx : firstAt (fun y => q y == q x) l < 0) :
  ∀ k, k < (l ++ [x]).length → firstAt (fun y => q y == q ((l ++ [x]).getD k default)) (l ++ [x]) = k := by
 intro k hk
 rw [List.length_append, List.length_singleton] at hk
 rcases Nat.lt_or_ge k l.length with hlt | hge
 ·rw [getD_app hlt]; exact firstAt_oldN (h k hlt)
 ·obtain rfl : k = l.length := by omega
  rw [getD_end]
  exact firstAt_newN hx (beq_self_eq_true _)
theorem segGo_one (ws : List Str) : ∀ done cur, 1 ≤ (segGo ws done cur).length := by
 intro done cur
 obtain ⟨t, h, hn⟩ := segGo_pre ws done cur
 rw [h, List.length_append]
 have := List.length_pos_iff.2 hn
 omega
theorem pDef_ok {l : List TDef} {w : List Str} {sv : Bool} (hl : VDef l sv) (hi : ∀ d ∈ l, ∀ x ∈ d.items, ItIn x) (h : (pDef l w sv).1 = 0) : VDef (pDef l w sv).2 sv ∧ ∀ d ∈ (pDef l w sv).2, ∀ x ∈ d.items, ItIn x := by
 revert h
 unfold pDef
 split
 ·intro h; cases h
 split
 ·intro h; cases h
 split
 ·intro h; cases h
 split
 ·intro h; cases h
 split
 ·intro h; cases h
 split
 ·intro h; cases h
 split
 ·intro h; cases h
 rename_i h1 h2 h3 h4 h5 h6 h7
 intro _
 have hv : vname (w.getD 1 []) = true := Decidable.not_not.1 fun q => h1 (.inl (.inr q))
 have h3 := Decidable.not_not.1 h3
 have h4 := Decidable.not_not.1 h4
 have h2 := Decidable.not_not.1 h2
 rw [List.all_eq_true] at h3 h4
 have hone : 1 ≤ (itemsT (w.drop 3)).1.length := by
  unfold itemsT at h2 ⊢
  split
  ·exact segGo_one _ _ _
  ·rename_i q; rw [if_neg q] at h2; cases h2
 generalize (itemsT (w.drop 3)).1 = its at h3 h4 h5 hone
 generalize w.getD 1 [] = nm at hv h6
 have hit : ∀ x ∈ its.map (fun x => (rdItem x sv).1), vItem x sv = true ∧ ItIn x := fun x hx => by
  obtain ⟨y, hy, rfl⟩ := List.mem_map.1 hx
  exact rdItem_ok (h3 y hy) (h4 y hy)
 have hm : ∀ {Q : TDef → Prop}, (∀ d ∈ l, Q d) → Q ⟨nm, its.map fun x => (rdItem x sv).1⟩ → ∀ d ∈ l ++ [⟨nm, its.map fun x => (rdItem x sv).1⟩], Q d := fun a b d hd => by
  rcases List.mem_append.1 hd with hd | hd
  ·exact a d hd
  ·rw [List.mem_singleton.1 hd]; exact b
 refine ⟨⟨?_, hm hl.name hv, ?_, hm hl.i1 ?_, hm hl.i2 ?_, hm hl.items fun x hx => (hit x hx).1⟩, hm hi fun x hx => (hit x hx).2⟩
 ·rw [List.length_append, List.length_singleton]; omega
 ·exact first_snoc (q := TDef.name) hl.first (show firstAt (fun y : TDef => y.name == nm) l < 0 by omega)
 ·rw [List.length_map]; exact hone
 ·rw [List.length_map]; omega
theorem pWin_ok {l : List TWin} {w : List Str} (hl : l.length ≤ 32) (hn : ∀ d ∈ l, vname d.name = true) (hf : ∀ k, k < l.length → firstAt (fun x : TWin => x.name == (l.getD k default).name) l = k) (ho : ∀ d ∈ l, wOkB d.active = true) (hi : ∀ d ∈ l, d.active.length < 100000 ∧ ∀ r ∈ d.active, RIn r) (h : (pWin l w).1 = 0) :
  (pWin l w).2.length ≤ 32 ∧ (∀ d ∈ (pWin l w).2, vname d.name = true) ∧ (∀ k, k < (pWin l w).2.length → firstAt (fun x : TWin => x.name == ((pWin l w).2.getD k default).name) (pWin l w).2 = k) ∧ (∀ d ∈ (pWin l w).2, wOkB d.active = true) ∧ ∀ d ∈ (pWin l w).2, d.active.length < 100000 ∧ ∀ r ∈ d.active, RIn r := by
 revert h
 unfold pWin
 split
 ·intro h; cases h
 split
 ·rename_i h2; intro h; exact (h2 h).elim
 split
 ·intro h; cases h
 split
 ·intro h; cases h
 split
 ·intro h; cases h
 rename_i h1 h2 h3 h4 h5
 intro _
 have hv : vname (w.getD 1 []) = true := Decidable.not_not.1 fun q => h1 (.inl (.inr q))
 have h3 := Decidable.not_not.1 h3
 have hp := wParse_ok (w.drop 3)
 generalize (wParse (w.drop 3)).1 = ac at h3 hp
 generalize w.getD 1 [] = nm at hv h4
 have hm : ∀ {Q : TWin → Prop}, (∀ d ∈ l, Q d) → Q ⟨nm, ac⟩ → ∀ d ∈ l ++ [⟨nm, ac⟩], Q d := fun a b d hd => by
  rcases List.mem_append.1 hd with hd | hd
  ·exact a d hd
  ·rw [List.mem_singleton.1 hd]; exact b
 refine ⟨?_, hm hn hv, ?_, hm ho h3, hm hi ⟨by have := hp.2; dsimp only; omega, hp.1⟩⟩
 ·rw [List.length_append, List.length_singleton]; omega
 ·exact first_snoc (q := TWin.name) hf (show firstAt (fun y : TWin => y.name == nm) l < 0 by omega)
theorem okName_ref {s : Str} (h : (rdRef s).2 = true) : okName (rdRef s).1 = true := by
 revert h
 unfold rdRef
 split
 ·intro _; rfl
 ·intro h; exact ok_of h
structure SRd (x : TRd) : Prop where
 nm : x.ok = true → (stmNames x.s).all okName = true
 pc : x.s.permit = true ∨ x.s.cls = []
 ex : x.s.excepted = true ∨ x.s.exSrc = [] ∧ x.s.exDst = []
 p0 : 0 ≤ x.s.prio ∧ x.s.prio ≤ 1000
theorem names_iff (s : TStm) : (stmNames s).all okName = true ↔ okName s.src = true ∧ okName s.dst = true ∧ okName s.service = true ∧ okName s.cls = true ∧ okName s.during = true ∧ okName s.exSrc = true ∧ okName s.exDst = true := by
 unfold stmNames
 simp only [List.all_cons, List.all_nil, Bool.and_true, Bool.and_eq_true]
theorem sHead_rd (w : List Str) : SRd (sHead w) := by
 unfold sHead
 refine ⟨fun h => ?_, .inr rfl, .inr ⟨rfl, rfl⟩, (by decide : (0 : Int) ≤ 0), (by decide : (0 : Int) ≤ 1000)⟩
 dsimp only at h
 simp only [Bool.and_eq_true, Bool.true_and] at h
 exact (names_iff _).2 ⟨okName_ref h.1.1, okName_ref h.1.2, okName_ref h.2, rfl, rfl, rfl, rfl⟩
theorem sExc_rd {x : TRd} (h : SRd x) : SRd (sExc x) := by
 unfold sExc
 split
 ·refine ⟨fun g => ?_, h.pc, .inl rfl, h.p0⟩
  dsimp only at g
  simp only [Bool.and_eq_true] at g
  obtain ⟨a, b, c, d, e, _, _⟩ := (names_iff _).1 (h.nm g.1.1)
  exact (names_iff _).2 ⟨a, b, c, d, e, okName_ref g.1.2, okName_ref g.2⟩
 ·exact h
theorem sVia_rd {x : TRd} (h : SRd x) : SRd (sVia x) := by
 unfold sVia
 split
 ·rename_i hq
  refine ⟨fun g => ?_, .inl hq.1.1, h.ex, h.p0⟩
  dsimp only at g
  simp only [Bool.and_eq_true] at g
  obtain ⟨a, b, c, d, e, f, k⟩ := (names_iff _).1 (h.nm g.1)
  exact (names_iff _).2 ⟨a, b, c, ok_of g.2, e, f, k⟩
 ·exact h
theorem sDur_rd {x : TRd} (h : SRd x) : SRd (sDur x) := by
 unfold sDur
 split
 ·refine ⟨fun g => ?_, h.pc, h.ex, h.p0⟩
  dsimp only at g
  simp only [Bool.and_eq_true] at g
  obtain ⟨a, b, c, d, e, f, k⟩ := (names_iff _).1 (h.nm g.1)
  exact (names_iff _).2 ⟨a, b, c, d, ok_of g.2, f, k⟩
 ·exact h
theorem sPri_rd {x : TRd} (h : SRd x) : SRd (sPri x).1 := by
 unfold sPri
 split
 ·refine ⟨fun g => ?_, h.pc, h.ex, number_in _ _ _ (by decide)⟩
  dsimp only at g
  simp only [Bool.and_eq_true] at g
  exact (names_iff _).2 ((names_iff _).1 (h.nm g.1))
 ·exact h
theorem rdStm_ok {w : List Str} (h : (rdStm w).1 = 0) : vStm (rdStm w).2 = true := by
 revert h
 unfold rdStm
 split
 ·intro h; cases h
 split
 ·intro h; cases h
 split
 ·intro h; cases h
 rename_i h1 h2 h3
 intro _
 have hr := sPri_rd (sDur_rd (sVia_rd (sExc_rd (sHead_rd w))))
 have hok : (sPri (sDur (sVia (sExc (sHead w))))).1.ok = true := Decidable.not_not.1 fun q => h2 (.inl q)
 dsimp only
 generalize (sPri (sDur (sVia (sExc (sHead w))))).1 = x at hr hok
 unfold vStm
 rw [hr.nm hok, Bool.true_and]
 unfold stmRest
 simp only [Bool.and_eq_true, Bool.or_eq_true, decide_eq_true_eq, beq_iff_eq]
 exact ⟨⟨⟨hr.pc, hr.ex⟩, hr.p0.1⟩, hr.p0.2⟩
theorem mem_snocA {α : Type} {Q : α → Prop} {l : List α} {x : α} (a : ∀ d ∈ l, Q d) (b : Q x) : ∀ d ∈ l ++ [x], Q d := fun d hd => by
 rcases List.mem_append.1 hd with hd | hd
 ·exact a d hd
 ·rw [List.mem_singleton.1 hd]; exact b
theorem pStm_ok {l : List TStm} {w : List Str} (hl : ∀ s ∈ l, vStm s = true) (h : (pStm l w).1 = 0) : ∀ s ∈ (pStm l w).2, vStm s = true := by
 revert h
 unfold pStm
 split
 ·rename_i h1; intro h; exact (h1 h).elim
 split
 ·intro h; cases h
 rename_i h1 _
 intro _
 exact mem_snocA hl (rdStm_ok (Decidable.not_not.1 h1))
theorem protoOf_ok {s : Str} (h : protoOf s ≠ 0) : protoOf s = 6 ∨ protoOf s = 17 := by
 unfold protoOf at h ⊢
 split
 ·exact .inl rfl
 ·split
  ·exact .inr rfl
  ·rename_i h1 h2; rw [if_neg h1, if_neg h2] at h; exact (h rfl).elim
theorem pPub_ok {l : List TPub} {w : List Str} (hl : ∀ s ∈ l, vPub s = true) (hi : ∀ p ∈ l, (0 ≤ p.addr ∧ p.addr < 4294967296) ∧ 0 ≤ p.real ∧ p.real < 4294967296) (h : (pPub l w).1 = 0) : (∀ s ∈ (pPub l w).2, vPub s = true) ∧ ∀ p ∈ (pPub l w).2, (0 ≤ p.addr ∧ p.addr < 4294967296) ∧ 0 ≤ p.real ∧ p.real < 4294967296 := by
 revert h
 unfold pPub
 split
 ·intro h; cases h
 split
 ·intro h; cases h
 split
 ·intro h; cases h
 split
 ·intro h; cases h
 rename_i h1 h2 h3 _
 intro _
 have hv : vname (w.getD 5 []) = true := Decidable.not_not.1 fun q => h1 (.inr q)
 have n1 := number_range _ _ _ (Decidable.not_not.1 fun q => h3 (.inl q))
 have n2 := number_range _ _ _ (Decidable.not_not.1 fun q => h3 (.inr q))
 have hp := protoOf_ok fun q => h2 (.inl (.inl q))
 refine ⟨mem_snocA hl ?_, mem_snocA hi ⟨addr_lt _, addr_lt _⟩⟩
 unfold vPub
 simp only [Bool.and_eq_true, Bool.or_eq_true, decide_eq_true_eq, beq_iff_eq]
 exact ⟨⟨⟨hp, n1.2⟩, n2.2⟩, hv⟩
theorem pHid_ok {l : List THid} {w : List Str} (hl : ∀ s ∈ l, vHid s = true) (hi : ∀ p ∈ l, 0 ≤ p.addr ∧ p.addr < 4294967296) (h : (pHid l w).1 = 0) : (∀ s ∈ (pHid l w).2, vHid s = true) ∧ ∀ p ∈ (pHid l w).2, 0 ≤ p.addr ∧ p.addr < 4294967296 := by
 revert h
 unfold pHid
 split
 ·intro h; cases h
 split
 ·intro h; cases h
 split
 ·intro h; cases h
 split
 ·intro h; cases h
 rename_i h1 h2 h3 _
 intro _
 have v1 : vname (w.getD 1 []) = true := Decidable.not_not.1 fun q => h1 (.inl (.inr q))
 have v2 : vname (w.getD 3 []) = true := Decidable.not_not.1 fun q => h1 (.inr q)
 have p1 := portsT_ok (Decidable.not_not.1 fun q => h2 (.inr q))
 refine ⟨mem_snocA hl ?_, mem_snocA hi (addr_lt _)⟩
 unfold vHid
 simp only [Bool.and_eq_true, decide_eq_true_eq]
 exact ⟨⟨v1, v2⟩, ⟨by omega, p1.1⟩, p1.2⟩
theorem iLine_ok {i : TInt} {w : List Str} (h : IV i ∧ IIn2 i) (hl : ILim i) : (iLine i w).1 = 0 → IV (iLine i w).2 ∧ IIn2 (iLine i w).2 := by
 obtain ⟨hv, hi⟩ := h
 have hlim := iLine_lim hl w
 revert hlim
 unfold iLine
 split
 ·intro hlim h0
  obtain ⟨a, b⟩ := pDef_ok hv.gs hi.gits h0
  exact ⟨{ hv with gs := a }, { hi with gits := b }⟩
 split
 ·intro hlim h0
  obtain ⟨a, b⟩ := pDef_ok hv.ss hi.sits h0
  exact ⟨{ hv with ss := a }, { hi with sits := b }⟩
 split
 ·intro hlim h0
  obtain ⟨a, b, c, d, e⟩ := pWin_ok hv.wl hv.wname hv.wfirst hv.wok hi.wins h0
  exact ⟨{ hv with wl := a, wname := b, wfirst := c, wok := d }, { hi with wins := e }⟩
 split
 ·intro hlim h0
  exact ⟨{ hv with sl := hlim.stms, stms := pStm_ok hv.stms h0 }, { hi with }⟩
 split
 ·intro hlim h0
  exact ⟨{ hv with sl := hlim.stms, stms := pStm_ok hv.stms h0 }, { hi with }⟩
 split
 ·intro hlim h0
  obtain ⟨a, b⟩ := pPub_ok hv.pubs hi.pins h0
  exact ⟨{ hv with pl := hlim.pubs, pubs := a }, { hi with pins := b }⟩
 split
 ·intro hlim h0
  obtain ⟨a, b⟩ := pHid_ok hv.hids hi.hins h0
  exact ⟨{ hv with hl := hlim.hids, hids := a }, { hi with hins := b }⟩
 ·intro _ h0; cases h0
theorem int0_ok : IV int0 ∧ IIn2 int0 := by
 have v : ∀ sv, VDef [] sv := fun sv => ⟨by decide, by simp, by simp, by simp, by simp, by simp⟩
 exact ⟨⟨v _, v _, by decide, by decide, by decide, by decide, by simp [int0], by simp [int0], by simp [int0], by simp [int0], by simp [int0], by simp [int0]⟩, ⟨⟨by simp [int0], by simp [int0], by simp [int0]⟩, by simp [int0], by simp [int0]⟩⟩
theorem iRun_ok : ∀ (ls : List TLine) (i : TInt), IV i ∧ IIn2 i → ILim i → (∀ x ∈ ls, 0 ≤ x.num) → ((iRun ls i).2.2 = 0 → (IV (iRun ls i).1 ∧ IIn2 (iRun ls i).1) ∧ (iRun ls i).2.1 = 0) ∧ ((iRun ls i).2.2 ≠ 0 → (iRun ls i).1 = int0 ∧ 0 ≤ (iRun ls i).2.1)
 | [], i, h, _, _ => ⟨fun _ => ⟨h, rfl⟩, fun h => (h rfl).elim⟩
 | l :: ls, i, h, hl, hn => by
  rw [iRun]
  split
  ·rename_i h0
   exact ⟨fun q => (h0 q).elim, fun _ => ⟨rfl, hn l (List.mem_cons_self ..)⟩⟩
  ·rename_i h0
   exact iRun_ok ls _ (iLine_ok h hl (Decidable.not_not.1 h0)) (iLine_lim hl _) fun x hx => hn x (List.mem_cons_of_mem _ hx)
theorem lrun_num : ∀ (ls : List Str) (i : Nat) (out : List TLine), (∀ x ∈ out, 0 ≤ x.num) → (∀ x ∈ (lrun ls i out).1, 0 ≤ x.num) ∧ 0 ≤ (lrun ls i out).2.1
 | [], i, out, ho => ⟨ho, Int.le_refl 0⟩
 | l :: ls, i, out, ho => by
  rw [lrun]
  split
  ·exact ⟨by simp, by dsimp only; omega⟩
  split
  ·exact ⟨by simp, by dsimp only; omega⟩
  split
  ·exact lrun_num ls (i + 1) _ (mem_snocA ho (by dsimp only; omega))
  ·exact lrun_num ls (i + 1) _ ho
theorem lines_num (s : Str) : (∀ x ∈ (lines s).1, 0 ≤ x.num) ∧ 0 ≤ (lines s).2.1 := by
 unfold lines
 split
 ·exact ⟨by simp, Int.le_refl 0⟩
 ·exact lrun_num _ _ _ (by simp)
theorem iParse_ok (s : Str) : ((iParse s).2.2 = 0 → (IV (iParse s).1 ∧ IIn2 (iParse s).1) ∧ (iParse s).2.1 = 0) ∧ ((iParse s).2.2 ≠ 0 → (iParse s).1 = int0 ∧ 0 ≤ (iParse s).2.1) := by
 unfold iParse
 split
 ·rename_i h0
  exact ⟨fun q => (h0 q).elim, fun _ => ⟨rfl, (lines_num s).2⟩⟩
 ·exact iRun_ok _ _ int0_ok int0_lim (lines_num s).1
variable {Gl : Glob}
attribute [local irreducible] PW PWL OpP PCalls PWO PWT bothT
def lines30 : List Str := [[103, 114, 111, 117, 112, 32, 103, 57, 32, 61, 32, 122, 111, 110, 101, 32, 108, 97, 110, 32, 44, 32, 115, 117, 98, 110, 101, 116, 32, 49, 48, 46, 48, 46, 48, 46, 48, 47, 56], [103, 114, 111, 117, 112, 32, 103, 57, 32, 61, 32, 122, 111, 110, 101, 32, 108, 97, 110, 32, 44], [103, 114, 111, 117, 112, 32, 103, 49, 32, 61, 32, 122, 111, 110, 101, 32, 97, 110, 121], [103, 114, 111, 117, 112, 32, 103, 49, 32, 61, 32, 122, 111, 110, 101, 32, 120], [103, 114, 111, 117, 112, 32, 103, 57, 32, 61], [115, 101, 114, 118, 105, 99, 101, 32, 115, 57, 32, 61, 32, 105, 99, 109, 112, 32, 44, 32, 112, 114, 111, 116, 111, 32, 52, 55], [115, 101, 114, 118, 105, 99, 101, 32, 115, 57, 32, 61, 32, 112, 114, 111, 116, 111, 32, 49, 55], [115, 101, 114, 118, 105, 99, 101, 32, 115, 57, 32, 61, 32, 112, 114, 111, 116, 111, 32, 50, 53, 54], [115, 101, 114, 118, 105, 99, 101, 32, 115, 57, 32, 61, 32, 116, 99, 112, 32, 56, 48, 45], [115, 101, 114, 118, 105, 99, 101, 32, 115, 57, 32, 61, 32, 116, 99, 112, 32, 49, 45, 54, 53, 53, 51, 54], [115, 101, 114, 118, 105, 99, 101, 32, 119, 101, 98, 32, 61, 32, 117, 100, 112, 32, 53, 51], [119, 105, 110, 100, 111, 119, 32, 119, 57, 32, 61, 32, 109, 111, 110, 32, 48, 56, 58, 48, 48, 45, 48, 57, 58, 48, 48], [119, 105, 110, 100, 111, 119, 32, 119, 57, 32, 61, 32, 110, 101, 118, 101, 114], [119, 105, 110, 100, 111, 119, 32, 119, 111, 114, 107, 32, 61, 32, 110, 101, 118, 101, 114], [119, 105, 110, 100, 111, 119, 32, 119, 57, 32, 61], [119, 105, 110, 100, 111, 119, 32, 119, 57, 32, 61, 32, 109, 111, 110], [97, 108, 108, 111, 119, 32, 97, 110, 121, 32, 45, 62, 32, 97, 110, 121, 32, 97, 110, 121], [100, 101, 110, 121, 32, 97, 32, 45, 62, 32, 98, 32, 99, 32, 118, 105, 97, 32, 105, 112, 115], [100, 101, 110, 121, 32, 97, 32, 45, 62, 32, 98, 32, 99, 32, 100, 117, 114, 105, 110, 103, 32, 119, 32, 112, 114, 105, 111, 114, 105, 116, 121, 32, 49, 48, 48, 48], [97, 108, 108, 111, 119, 32, 97, 32, 45, 62, 32, 98, 32, 99, 32, 112, 114, 105, 111, 114, 105, 116, 121, 32, 49, 48, 48, 49], [97, 108, 108, 111, 119, 32, 97, 32, 45, 62, 32, 98, 32, 99, 32, 112, 114, 105, 111, 114, 105, 116, 121, 32, 49, 32, 118, 105, 97, 32, 105, 112, 115], [97, 108, 108, 111, 119, 32, 97, 32, 45, 62, 32, 98, 32, 97, 110, 121, 32, 101, 120, 99, 101, 112, 116, 32, 120, 32, 45, 62, 32, 121, 32, 101, 120, 99, 101, 112, 116, 32, 120, 32, 45, 62, 32, 121], [97, 108, 108, 111, 119, 32, 97, 110, 121, 32, 45, 62, 32, 97, 110, 121], [112, 117, 98, 108, 105, 115, 104, 32, 49, 46, 50, 46, 51, 46, 52, 32, 116, 99, 112, 32, 56, 48, 32, 97, 116, 32, 101, 49, 32, 116, 111, 32, 49, 48, 46, 48, 46, 48, 46, 49, 32, 56, 48, 56, 48], [112, 117, 98, 108, 105, 115, 104, 32, 49, 46, 50, 46, 51, 46, 52, 32, 105, 99, 109, 112, 32, 56, 48, 32, 97, 116, 32, 101, 49, 32, 116, 111, 32, 49, 48, 46, 48, 46, 48, 46, 49, 32, 56, 48, 56, 48], [112, 117, 98, 108, 105, 115, 104, 32, 49, 46, 50, 46, 51, 46, 52, 32, 117, 100, 112, 32, 54, 53, 53, 51, 54, 32, 97, 116, 32, 101, 49, 32, 116, 111, 32, 49, 48, 46, 48, 46, 48, 46, 49, 32, 49], [104, 105, 100, 101, 32, 103, 49, 32, 97, 116, 32, 101, 49, 32, 98, 101, 104, 105, 110, 100, 32, 49, 46, 50, 46, 51, 46, 52, 32, 112, 111, 114, 116, 115, 32, 49, 48, 50, 52, 45, 50, 48, 48, 48], [104, 105, 100, 101, 32, 103, 49, 32, 97, 116, 32, 101, 49, 32, 98, 101, 104, 105, 110, 100, 32, 49, 46, 50, 46, 51, 46, 52, 32, 112, 111, 114, 116, 115, 32, 49, 48, 50, 51], [104, 105, 100, 101, 32, 97, 110, 121, 32, 97, 116, 32, 101, 49, 32, 98, 101, 104, 105, 110, 100, 32, 49, 46, 50, 46, 51, 46, 52, 32, 112, 111, 114, 116, 115, 32, 53, 48, 48, 48], [112, 101, 114, 109, 105, 116, 32, 97]]
theorem lines30_len : ∀ s ∈ lines30, s.length ≤ 60 := by decide
theorem c_gLine (l : List Int) (hl : Tp l) (i : Nat) (hi : i ≤ l.length) : Gen Gl 16 [] l i fun r => ∃ s : Str, s.length ≤ 61 ∧ r = .str s := by
 refine PCalls.of hT Tryz.func16 rfl 1 (Nat.le_refl _) fun B hD => ?_
 refine pw_norm rfl ?_
 (try refine zS ?_)
 (refine pl_op rfl (op_call [0] rfl rfl e17 (by decide) rfl rfl rfl zLe zLes (c13n l hl i hi 30 (by decide) (by decide)) (fun r s hq => ?_)); obtain ⟨i1, ⟨m, hm, rfl⟩, hi1, rfl⟩ := hq; refine ⟨rfl, rfl, ?_⟩; (refine zNp ?_))
 have hs : (lines30.getD m []).length ≤ 60 := lines30_len _ (getD_mem hm)
 (refine pl_op rfl (op_of (v_index (p := .str (lines30.getD m [])) hT rfl rfl rfl rfl (by omega) (lit_at .str lines30 m [] hm) rfl) ?_); (refine zNp ?_))
 generalize lines30.getD m [] = s at hs
 (try refine zS ?_)
 exact ⟨_, _, _, rfl, ⟨i1, ⟨s ++ [10], by simp; omega, rfl⟩, hi1, rfl⟩, .inr (.inl rfl), ⟨.inr (.inl rfl), trivial⟩, rfl, rfl⟩

end
end Go.Proofs.YtkaobkjcjodffaaGreatDoor