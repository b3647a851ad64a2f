/-
 Contracts of functions, walked over pure values.
-/
import Derived.Test.YtkaobkjcjodffaaGreatDoorTC6
import Derived.Test.YtkaobkjcjodffaaGreatDoorTK54
import Derived.Test.YtkaobkjcjodffaaGreatDoorTK33
import Derived.Test.YtkaobkjcjodffaaGreatDoorTK13
import Derived.Test.YtkaobkjcjodffaaGreatDoorSPwApX
set_option maxHeartbeats 20000000
set_option maxRecDepth 100000
namespace Go.Proofs.YtkaobkjcjodffaaGreatDoor
open Go Go.Pw
section
variable {Gl : Glob}
attribute [local irreducible] PW PWL OpP PCalls PWO wParse PWT bothT
def wd6 : List Str := [[109, 111, 110], [116, 117, 101], [115, 117, 110], [109, 111, 110, 45, 102, 114, 105], [115, 97, 116, 45, 115, 117, 110], [119, 101, 100, 45, 119, 101, 100]]
def wh5 : List Str := [[48, 48, 58, 48, 48, 45, 50, 52, 58, 48, 48], [48, 56, 58, 48, 48, 45, 49, 55, 58, 48, 48], [48, 56, 58, 48, 48, 45, 48, 56, 58, 48, 49], [50, 51, 58, 53, 57, 45, 50, 52, 58, 48, 48], [49, 55, 58, 48, 48, 45, 49, 56, 58, 51, 48]]
def wWords : List (Nat × Nat) → List Str
 | [] => []
 | [p] => [wd6.getD p.1 [], wh5.getD p.2 []]
 | p :: ps => wWords ps ++ [[44], wd6.getD p.1 [], wh5.getD p.2 []]
theorem wWords_len : ∀ q : List (Nat × Nat), (wWords q).length ≤ 3 * q.length
 | [] => Nat.zero_le _
 | [p] => by simp [wWords]
 | p :: r :: ps => by
  have := wWords_len (r :: ps)
  simp only [wWords, List.length_append, List.length_cons, List.length_nil] at this ⊢
  omega
theorem w6_len : ∀ s ∈ wd6, s.length ≤ 11 := by decide
theorem w5_len : ∀ s ∈ wh5, s.length ≤ 11 := by decide
theorem getD_len {L : List Str} {n : Nat} (h : ∀ s ∈ L, s.length ≤ n) (k : Nat) : (L.getD k []).length ≤ n := by
 rw [List.getD]
 cases e : L[k]? with
 | none => exact Nat.zero_le _
 | some x => exact h x (List.mem_of_getElem? e)
theorem wWords_each : ∀ q : List (Nat × Nat), ∀ s ∈ wWords q, s.length ≤ 11
 | [] => by simp [wWords]
 | [p] => by
  intro s hs
  simp only [wWords, List.mem_cons, List.mem_nil_iff, or_false] at hs
  rcases hs with rfl | rfl
  ·exact getD_len w6_len _
  ·exact getD_len w5_len _
 | p :: r :: ps => by
  intro s hs
  simp only [wWords] at hs
  rcases List.mem_append.1 hs with hs | hs
  ·exact wWords_each (r :: ps) s hs
  ·simp only [List.mem_cons, List.mem_nil_iff, or_false] at hs
   rcases hs with rfl | rfl | rfl
   ·decide
   ·exact getD_len w6_len _
   ·exact getD_len w5_len _
def QW (q : List (Nat × Nat)) : Prop := q ≠ [] ∧ q.length ≤ 3 ∧ ∀ p ∈ q, p.1 < 6 ∧ p.2 < 5
theorem c_gWindow (l : List Int) (hl : Tp l) (i : Nat) (hi : i ≤ l.length) : Gen Gl 39 [] l i fun r => ∃ q, QW q ∧ r = .sl ((wParse (wWords q)).1.map eRng) := by
 refine PCalls.of hT Tryz.func39 rfl 1 (Nat.le_refl _) fun B hD => ?_
 refine pw_norm rfl ?_
 (repeat' (first | refine zS ?_ | (refine zT ?_ ?_ <;> intro h <;> first | exact zX | refine zNq ?_)))
 refine zDr [[0,1,5,6],[2],[3,4],[7],[8,9],[10],[11]] ?_
 refine zDn ?_
 refine zD ?_
 (refine po_step rfl rfl (zCl [0] e17 (c13n l hl i hi 6 (by decide) (by decide)) (fun r s hq => ?_)); obtain ⟨i1, ⟨a, ha, rfl⟩, hi1, rfl⟩ := hq; refine ⟨rfl, rfl, zLok, ?_⟩; refine zDn ?_)
 (refine po_val rfl rfl (v_index (p := .str (wd6.getD a [])) hT rfl rfl rfl rfl (by omega) (lit_at .str wd6 a [] ha) rfl) ?_; refine zDn ?_)
 refine zD ?_
 (refine po_step rfl rfl (zCl [0] e17 (c13n l hl i1 hi1 5 (by decide) (by decide)) (fun r s hq => ?_)); obtain ⟨i2, ⟨b, hb, rfl⟩, hi2, rfl⟩ := hq; refine ⟨rfl, rfl, zLok, ?_⟩; refine zDn ?_)
 (refine po_val rfl rfl (v_index (p := .str (wh5.getD b [])) hT rfl rfl rfl rfl (by omega) (lit_at .str wh5 b [] hb) rfl) ?_; refine zDn ?_)
 refine zD ?_
 (refine po_step rfl rfl (op_litm hT rfl rfl rfl rfl rfl (by decide) rfl rfl rfl rfl ⟨zLok, ?_⟩); refine zDn ?_)
 refine zD ?_
 (repeat' (first | refine zS ?_ | (refine zT ?_ ?_ <;> intro h <;> first | exact zX | refine zNq ?_)))
 (refine pl_op rfl (zCl [0] e17 (c13n l hl i2 hi2 3 (by decide) (by decide)) (fun r s hq => ?_)); obtain ⟨i3, ⟨n, hn, rfl⟩, hi3, rfl⟩ := hq; refine ⟨rfl, rfl, ?_⟩; (refine zNp ?_))
 (repeat' (first | refine zS ?_ | (refine zT ?_ ?_ <;> intro h <;> first | exact zX | refine zNq ?_)))
 refine zNq ?_
 refine pw_for hD (fun x : Nat × List (Nat × Nat) × Nat × Nat => [(5, .msl 1 1 0 ((wWords x.2.1).map PV.str).length x.2.2.1), (6, .int .i64 x.1), (21, .any)]) (fun x => [tape l x.2.2.2, .arr 1 ((wWords x.2.1).map .str) x.2.2.1])
  (fun x => QW x.2.1 ∧ x.1 + x.2.1.length ≤ 3 ∧ x.2.2.2 ≤ l.length) (fun x => x.1) (n, [(a, b)], 2, i3) ⟨⟨by simp, by simp, by simp; exact ⟨ha, hb⟩⟩, by simp; omega, hi3⟩ 2 rfl (fun _ => rfl) zLes (fun _ => rfl) (fun _ => rfl) zLe ?_
 rintro ⟨k, q, cap, j⟩ ⟨hq, hk, hj⟩
 dsimp only at hq hk hj ⊢
 have hql := wWords_len q
 unfold tape
 refine zNq ?_
 (try refine zS ?_)
 refine zT ?_ ?_ <;> intro h <;> refine zNq ?_
 ·(try refine zS ?_)
  refine zDr [[0,1,2,6,7],[3],[4,5],[8],[9,10,11],[12],[13]] ?_
  refine zDn ?_
  refine zD ?_
  (refine po_step rfl rfl (zCl [0] e17 (c13n l hl j hj 6 (by decide) (by decide)) (fun r s hq => ?_)); obtain ⟨j1, ⟨a', ha', rfl⟩, hj1, rfl⟩ := hq; refine ⟨rfl, rfl, zLok, ?_⟩; refine zDn ?_)
  (refine po_val rfl rfl (v_index (p := .str (wd6.getD a' [])) hT rfl rfl rfl rfl (by omega) (lit_at .str wd6 a' [] ha') rfl) ?_; refine zDn ?_)
  refine zD ?_
  (refine po_step rfl rfl (zCl [0] e17 (c13n l hl j1 hj1 5 (by decide) (by decide)) (fun r s hq => ?_)); obtain ⟨j2, ⟨b', hb', rfl⟩, hj2, rfl⟩ := hq; refine ⟨rfl, rfl, zLok, ?_⟩; refine zDn ?_)
  (refine po_val rfl rfl (v_index (p := .str (wh5.getD b' [])) hT rfl rfl rfl rfl (by omega) (lit_at .str wh5 b' [] hb') rfl) ?_; refine zDn ?_)
  refine zD ?_
  (refine po_step rfl rfl (op_append (b := 16) hT rfl rfl rfl rfl rfl rfl (.inl (Nat.zero_lt_succ _)) rfl rfl (by simp; omega) (fun cap2 _ hcap => ⟨zLok, ?_⟩)); refine zDn ?_)
  refine zD ?_
  (refine pw_mv 1 2 hD rfl rfl rfl rfl rfl ?_; refine pw_norm rfl ?_)
  (repeat' (first | refine zS ?_ | (refine zT ?_ ?_ <;> intro h <;> first | exact zX | refine zNq ?_)))
  obtain ⟨q1, q2, q3⟩ := hq
  have hw : wWords ((a', b') :: q) = wWords q ++ [[44], wd6.getD a' [], wh5.getD b' []] := by
   cases q with
   | nil => exact (q1 rfl).elim
   | cons p ps => rfl
  refine ⟨(k - 1, (a', b') :: q, cap2, j2), ⟨⟨by simp, by simp; omega, fun p hp => ?_⟩, by simp; omega, hj2⟩, by dsimp only; omega, ?_, ?_⟩
  ·rcases List.mem_cons.1 hp with rfl | hp
   ·exact ⟨ha', hb'⟩
   ·exact q3 p hp
  all_goals simp only [hw, List.map_append, List.length_append, List.map_cons, List.map_nil]
  ·rw [show ((k - 1 : Nat) : Int) = (k : Int) - 1 by omega]
   (exact zLe)
  ·(exact zLes)
 ·have h3 : (wWords q).length ≤ 9 := by have := hq.2.1; omega
  have he := wWords_each q
  have hk2 : ∀ k, ((wWords q).getD k []).length < 4294967281 := fun k => by have := getD_len he k; omega
  refine pw_exit ?_
  refine pw_frz1 1 5 rfl rfl (by simp) ?_
  refine zNq ?_
  (repeat' (first | refine zS ?_ | (refine zT ?_ ?_ <;> intro h <;> first | exact zX | refine zNq ?_)))
  exact ⟨_, _, _, rfl, ⟨j, ⟨q, hq, rfl⟩, hj, rfl⟩, .inr (.inl rfl), ⟨.inr (.inl rfl), trivial⟩, rfl, rfl⟩
def gedge0 : TEdge := ⟨[], 0, [], ⟨0, 0⟩, false⟩
def gn3 : List Str := [[103, 49], [103, 50], [103, 51]]
def sn3 : List Str := [[119, 101, 98], [115, 115, 104], [100, 110, 115]]
def protos5 : List Int := [6, 17, 6, 1, 50]
def GGItem (x : Topo) (y : TItem) : Prop := (∃ p, (PfxIn p ∧ rvalid p = true) ∧ y = ⟨2, [], p, 0, rng0⟩) ∨ (∃ e ∈ x.edges, y = ⟨1, e.zone, pfx0, 0, rng0⟩) ∨ y = ⟨3, [103, 49], pfx0, 0, rng0⟩
def GSItem (y : TItem) : Prop := (∃ p r, (p = 6 ∨ p = 17) ∧ (0 ≤ r.lo ∧ r.lo ≤ r.hi ∧ r.hi ≤ 65535) ∧ y = ⟨4, [], pfx0, p, r⟩) ∨ y = ⟨4, [], pfx0, 1, ⟨8, 8⟩⟩ ∨ y = ⟨4, [], pfx0, 50, rng0⟩ ∨ y = ⟨3, [119, 101, 98], pfx0, 0, rng0⟩
def GDefs (nm : List Str) (Q : TItem → Prop) (ds : List TDef) : Prop := ds.length ≤ 3 ∧ ∀ (k : Nat) d, ds[k]? = some d → d.name = nm.getD k [] ∧ (1 ≤ d.items.length ∧ d.items.length ≤ 2) ∧ ∀ y ∈ d.items, Q y
theorem GDefs.snoc {nm : List Str} {Q : TItem → Prop} {ds : List TDef} (h : GDefs nm Q ds) (h3 : ds.length < 3) {its : List TItem} (h1 : 1 ≤ its.length ∧ its.length ≤ 2) (hq : ∀ y ∈ its, Q y) : GDefs nm Q (ds ++ [⟨nm.getD ds.length [], its⟩]) := by
 refine ⟨by simp; omega, fun k d hk => ?_⟩
 rcases Nat.lt_trichotomy k ds.length with g | g | g
 ·rw [List.getElem?_append_left g] at hk; exact h.2 k d hk
 ·subst g
  simp at hk
  subst hk
  exact ⟨rfl, h1, hq⟩
 ·rw [List.getElem?_eq_none (by simp; omega)] at hk; cases hk
def gI0 : PObj := .box [.nilsl, .nilsl, .nilsl, .nilsl, .nilsl, .nilsl]
def gst (l : List Int) (x : Topo) (i : TInt) (c : ICaps) (j : Nat) : List PObj :=
 [tape l j, .box (eTopo x).cells, gI0, .box [.msl 2 4 0 (i.groups.map eDef).length c.1, .msl 2 5 0 (i.services.map eDef).length c.2.1, .msl 2 6 0 (i.windows.map eWin).length c.2.2.1, .msl 10 7 0 (i.stms.map eStm).length c.2.2.2.1, .msl 6 8 0 (i.pubs.map ePub).length c.2.2.2.2.1, .msl 5 9 0 (i.hids.map eHid).length c.2.2.2.2.2],
 .arr 2 (i.groups.map eDef) c.1, .arr 2 (i.services.map eDef) c.2.1, .arr 2 (i.windows.map eWin) c.2.2.1, .arr 10 (i.stms.map eStm) c.2.2.2.1, .arr 6 (i.pubs.map ePub) c.2.2.2.2.1, .arr 5 (i.hids.map eHid) c.2.2.2.2.2]
def hst (l : List Int) (x : Topo) (i : TInt) (c3 c4 c5 : Nat) (j : Nat) : List PObj :=
 [tape l j, .box (eTopo x).cells, gI0, .box [.sl (i.groups.map eDef), .sl (i.services.map eDef), .sl (i.windows.map eWin), .msl 10 7 0 (i.stms.map eStm).length c3, .msl 6 8 0 (i.pubs.map ePub).length c4, .msl 5 9 0 (i.hids.map eHid).length c5],
 .dead, .dead, .dead, .arr 10 (i.stms.map eStm) c3, .arr 6 (i.pubs.map ePub) c4, .arr 5 (i.hids.map eHid) c5]
def protos2 : List Int := [6, 17]
def PubG (x : Topo) (p : TPub) : Prop := (p.proto = 6 ∨ p.proto = 17) ∧ (0 ≤ p.port ∧ p.port ≤ 65535) ∧ (0 ≤ p.realPort ∧ p.realPort ≤ 65535) ∧ (∃ e ∈ x.edges, p.edge = e.name) ∧ (0 ≤ p.addr ∧ p.addr < 4294967296) ∧ 0 ≤ p.real ∧ p.real < 4294967296
def HidG (x : Topo) (h : THid) : Prop := h.group = [103, 49] ∧ (∃ e ∈ x.edges, h.edge = e.name) ∧ (0 ≤ h.addr ∧ h.addr < 4294967296) ∧ h.ports.lo = 1024 ∧ 1024 ≤ h.ports.hi ∧ h.ports.hi ≤ 1063
def genv (x : Topo) (n : Nat) : List PV := [.ptr 0 0, eTopo x, .int .i64 n, .any, .ptr 1 0, .any, .ptr 2 0, .ptr 3 0] ++ List.replicate 252 .any
structure IGen (x : Topo) (n : Nat) (i : TInt) : Prop where
 gs : GDefs gn3 (GGItem x) i.groups
 ss : GDefs sn3 GSItem i.services
 ws : i.windows = [] ∨ ∃ q, QW q ∧ i.windows = [⟨[119, 111, 114, 107], (wParse (wWords q)).1⟩]
 stl : i.stms.length ≤ n
 stm : ∀ s ∈ i.stms, GStm x i s
 pl : i.pubs.length ≤ 1
 pub : ∀ p ∈ i.pubs, PubG x p
 hl : i.hids.length ≤ 1
 hid : ∀ h ∈ i.hids, HidG x h
theorem GStm.cong {x : Topo} {i i' : TInt} {s : TStm} (h : GStm x i s) (h1 : i.groups = i'.groups) (h2 : i.services = i'.services) (h3 : i.windows = i'.windows) : GStm x i' s :=
 ⟨h1 ▸ h.src, h1 ▸ h.dst, h2 ▸ h.service, h1 ▸ h.exc, h.cls, h3 ▸ h.during, h.prio⟩
def gIQ (l : List Int) (x : Topo) (n : Nat) : Post := retF tys Tryz.f12.results.toList 1 fun r s => ∃ i' : Nat, (∃ i : TInt, IGen x n i ∧ r = eIntent i) ∧ i' ≤ l.length ∧ s = [tape l i']
def GI2 (Gl : Glob) (l : List Int) (x : Topo) (n : Nat) : Prop := ∀ (B : Base) (j : Nat) (_ : ∀ i, B.D i = dOf [tape l j] i) (gs : List TDef) (_ : GDefs gn3 (GGItem x) gs) (c : ICaps) (ja : Nat) (_ : ja ≤ l.length), PW Tryz.prog Gl B (tlC 3 (codeOf Tryz.f12)) (genv x n) (gst l x ⟨gs, [], [], [], [], []⟩ c ja) (gIQ l x n)
def GI3 (Gl : Glob) (l : List Int) (x : Topo) (n : Nat) : Prop := ∀ (B : Base) (j : Nat) (_ : ∀ i, B.D i = dOf [tape l j] i) (gs : List TDef) (_ : GDefs gn3 (GGItem x) gs) (ss : List TDef) (_ : GDefs sn3 GSItem ss) (c : ICaps) (ja : Nat) (_ : ja ≤ l.length), PW Tryz.prog Gl B (tlC 4 (codeOf Tryz.f12)) (genv x n) (gst l x ⟨gs, ss, [], [], [], []⟩ c ja) (gIQ l x n)
def WinG (ws : List TWin) : Prop := ws = [] ∨ ∃ q, QW q ∧ ws = [⟨[119, 111, 114, 107], (wParse (wWords q)).1⟩]
theorem WinG.len {ws : List TWin} (h : WinG ws) : ws.length ≤ 1 := by
 rcases h with rfl | ⟨q, _, rfl⟩
 ·exact Nat.zero_le _
 ·exact Nat.le_refl _
def GI4 (Gl : Glob) (l : List Int) (x : Topo) (n : Nat) : Prop := ∀ (B : Base) (j : Nat) (_ : ∀ i, B.D i = dOf [tape l j] i) (gs : List TDef) (_ : GDefs gn3 (GGItem x) gs) (ss : List TDef) (_ : GDefs sn3 GSItem ss) (ws : List TWin) (_ : WinG ws) (c : ICaps) (jw : Nat) (_ : jw ≤ l.length), PW Tryz.prog Gl B (tlC 5 (codeOf Tryz.f12)) (genv x n) (gst l x ⟨gs, ss, ws, [], [], []⟩ c jw) (gIQ l x n)
def GI5 (Gl : Glob) (l : List Int) (x : Topo) (n : Nat) : Prop := ∀ (B : Base) (j : Nat) (_ : ∀ i, B.D i = dOf [tape l j] i) (gs : List TDef) (_ : GDefs gn3 (GGItem x) gs) (ss : List TDef) (_ : GDefs sn3 GSItem ss) (ws : List TWin) (_ : WinG ws) (sts : List TStm) (_ : sts.length ≤ n) (_ : ∀ s ∈ sts, GStm x ⟨gs, ss, ws, [], [], []⟩ s) (cs c4 c5 ja : Nat) (_ : ja ≤ l.length), PW Tryz.prog Gl B (tlC 6 (codeOf Tryz.f12)) (genv x n) (hst l x ⟨gs, ss, ws, sts, [], []⟩ cs c4 c5 ja) (gIQ l x n)
def GI6 (Gl : Glob) (l : List Int) (x : Topo) (n : Nat) : Prop := ∀ (B : Base) (j : Nat) (_ : ∀ i, B.D i = dOf [tape l j] i) (gs : List TDef) (_ : GDefs gn3 (GGItem x) gs) (ss : List TDef) (_ : GDefs sn3 GSItem ss) (ws : List TWin) (_ : WinG ws) (sts : List TStm) (_ : sts.length ≤ n) (_ : ∀ s ∈ sts, GStm x ⟨gs, ss, ws, [], [], []⟩ s) (pubs : List TPub) (_ : pubs.length ≤ 1) (_ : ∀ p ∈ pubs, PubG x p) (cs cp c5 jq : Nat) (_ : jq ≤ l.length), PW Tryz.prog Gl B (tlC 7 (codeOf Tryz.f12)) (genv x n) (hst l x ⟨gs, ss, ws, sts, pubs, []⟩ cs cp c5 jq) (gIQ l x n)
theorem gI1 (l : List Int) (hl : Tp l) (j : Nat) (hj : j ≤ l.length) (x : Topo) (n : Nat) (hx : x.edges.length < 900) (h2 : GI2 Gl l x n) :
  Gen Gl 12 [eTopo x, .int .i64 n] l j fun r => ∃ i : TInt, IGen x n i ∧ r = eIntent i := by
 refine PCalls.of hT Tryz.func12 rfl 1 (Nat.le_of_ble_eq_true rfl) fun B hD => ?_
 refine pw_norm rfl ?_
 (repeat' (first | refine zS ?_ | refine zq5 ?_ | refine zq6 ?_))
 (refine pl_op rfl (zCl [0] e17 (c13n l hl j hj 3 (by decide) (by decide)) (fun r s hq => ?_)); obtain ⟨j1, ⟨m1, hm1, rfl⟩, hj1, rfl⟩ := hq; refine ⟨rfl, rfl, ?_⟩; (refine zNp ?_))
 (repeat' (first | refine zS ?_ | refine zq5 ?_ | refine zq6 ?_))
 refine pw_ghost 2 ?_
 refine pw_ghost 2 ?_
 refine pw_ghost 2 ?_
 refine pw_ghost 10 ?_
 refine pw_ghost 6 ?_
 refine pw_ghost 5 ?_
 refine zNq ?_
 rw [show (1 : Int) + (m1 : Int) = ((1 + m1 : Nat) : Int) by omega]
 refine pw_for hD (fun a : Nat × List TDef × ICaps × Nat => [(8, .int .i64 a.1)]) (fun a => gst l x ⟨a.2.1, [], [], [], [], []⟩ a.2.2.1 a.2.2.2)
  (fun a => a.1 + a.2.1.length ≤ 3 ∧ GDefs gn3 (GGItem x) a.2.1 ∧ a.2.2.2 ≤ l.length) (fun a => a.1) (1 + m1, [], (0, 0, 0, 0, 0, 0), j1) ⟨by dsimp only; simp; omega, ⟨by simp, by simp⟩, hj1⟩ 10 rfl (fun _ => rfl)
  ⟨.inl rfl, .inl rfl, .inl rfl, .inr (.inr ⟨_, _, rfl, rfl, zLe⟩), .inl rfl, .inl rfl, .inl rfl, .inl rfl, .inl rfl, .inl rfl, trivial⟩ (fun _ => rfl) (fun _ => rfl) zLe ?_
 rintro ⟨k, gs, c, ja⟩ ⟨hk, hgs, hja⟩
 dsimp only at hk hgs hja ⊢
 unfold gst
 refine zNq ?_
 (repeat' (first | refine zS ?_ | refine zq5 ?_ | refine zq6 ?_))
 refine zT ?_ ?_ <;> intro h <;> refine zNq ?_
 ·have h3 : gs.length < 3 := by omega
  (repeat' (first | refine zS ?_ | refine zq5 ?_ | refine zq6 ?_))
  (refine pl_op rfl (op_of (v_index (p := .str (gn3.getD gs.length [])) hT rfl rfl rfl rfl (by omega) (lit_at .str gn3 gs.length [] h3) rfl) ?_); (refine zNp ?_))
  (repeat' (first | refine zS ?_ | refine zq5 ?_ | refine zq6 ?_))
  (refine pl_op rfl (zCl [0] e17 (c13n l hl ja hja 2 (by decide) (by decide)) (fun r s hq => ?_)); obtain ⟨jb, ⟨m2, hm2, rfl⟩, hjb, rfl⟩ := hq; refine ⟨rfl, rfl, ?_⟩; (refine zNp ?_))
  (repeat' (first | refine zS ?_ | refine zq5 ?_ | refine zq6 ?_))
  refine pw_ghost 7 ?_
  refine zNq ?_
  rw [show (1 : Int) + (m2 : Int) = ((1 + m2 : Nat) : Int) by omega]
  refine pw_for hD (fun a : Nat × List TItem × Nat × Nat => [(10, .int .i64 a.1)]) (fun a => gst l x ⟨gs, [], [], [], [], []⟩ c a.2.2.2 ++ [.box [.str (gn3.getD gs.length []), .msl 7 11 0 (a.2.1.map eItem).length a.2.2.1], .arr 7 (a.2.1.map eItem) a.2.2.1])
   (fun a => (a.1 + a.2.1.length = 1 + m2) ∧ (∀ y ∈ a.2.1, GGItem x y) ∧ a.2.2.2 ≤ l.length) (fun a => a.1) (1 + m2, [], 0, jb) ⟨by simp, by simp, hjb⟩ 12 rfl (fun _ => rfl)
   (by unfold gst; exact ⟨.inl rfl, .inl rfl, .inl rfl, .inl rfl, .inl rfl, .inl rfl, .inl rfl, .inl rfl, .inl rfl, .inl rfl, .inr (.inr ⟨_, _, rfl, rfl, zLe⟩), .inl rfl, trivial⟩) (fun _ => rfl) (fun _ => rfl) zLe ?_
  rintro ⟨m, its, ci, jc⟩ ⟨hm, hits, hjc⟩
  dsimp only at hm hits hjc ⊢
  unfold gst
  refine zNq ?_
  (repeat' (first | refine zS ?_ | refine zq5 ?_ | refine zq6 ?_))
  refine zT ?_ ?_ <;> intro h2 <;> refine zNq ?_
  ·have hit : its.length < 2 := by omega
   (repeat' (first | refine zS ?_ | refine zq5 ?_ | refine zq6 ?_))
   (refine pl_op rfl (zCl [0] e37 (c_gPrefix l hl jc hjc) (fun r s hq => ?_)); obtain ⟨jd, ⟨p, hp, rfl⟩, hjd, rfl⟩ := hq; refine ⟨rfl, rfl, ?_⟩; (refine zNp ?_))
   (repeat' (first | refine zS ?_ | refine zq5 ?_ | refine zq6 ?_))
   (refine pl_op rfl (zCl [0] e17 (c13 l hl jd hjd (x.edges.length : Int) (by omega)) (fun r s hq => ?_)); obtain ⟨e, je, rfl, he0, he1, hje, rfl⟩ := hq; refine ⟨rfl, rfl, ?_⟩; (refine zNp ?_))
   obtain ⟨e, rfl⟩ : ∃ n : Nat, e = (n : Int) := ⟨e.toNat, by omega⟩
   (repeat (first | refine pl_pure hT rfl ?_ | (refine pl_op rfl (op_storeF hT rfl rfl rfl rfl rfl rfl rfl rfl (Nat.le_of_ble_eq_true rfl) ?_); (first | refine pl_norm rfl ?_ | refine pl_normE rfl ?_))))
   refine pl_nil ?_
   refine zNq ?_
   refine pw_joinX hD (fun a : Nat × TItem => a.1 ≤ l.length ∧ GGItem x a.2) (fun _ => []) (fun a => gst l x ⟨gs, [], [], [], [], []⟩ c a.1 ++ [.box [.str (gn3.getD gs.length []), .msl 7 11 0 (its.map eItem).length ci], .arr 7 (its.map eItem) ci, .box (eItem a.2).cells]) 13 rfl (fun _ => rfl) (fun _ => rfl) (fun _ => rfl) ?_ ?_
   ·(repeat' (first | refine zS ?_ | refine zq5 ?_ | refine zq6 ?_))
    refine pl_split 54 rfl (fun hw => ?_) (fun hw => ?_)
    ·have hw0 : 0 < x.edges.length := by simpa using hw
     have hel : e < x.edges.length := by omega
     (repeat' (first | refine zS ?_ | refine zq5 ?_ | refine zq6 ?_))
     (refine pl_on rfl rfl (zCl [0] e17 (c13n l hl je hje 3 (by decide) (by decide)) (fun r s hq => ?_)); obtain ⟨jf, ⟨m3, hm3, rfl⟩, hjf, rfl⟩ := hq; refine ⟨rfl, rfl, ?_⟩; (refine zNp ?_))
     (repeat' (first | refine zS ?_ | refine zq5 ?_ | refine zq6 ?_))
     refine zT ?_ ?_ <;> intro h4 <;> refine zNq ?_
     ·(repeat' (first | refine zS ?_ | refine zq5 ?_ | refine zq6 ?_))
      (refine pl_op rfl (op_of (v_index (p := eEdge (x.edges.getD e gedge0)) hT rfl rfl rfl rfl (by omega) (lit_at eEdge x.edges e gedge0 hel) rfl) ?_); (refine zNp ?_))
      (repeat' (first | refine zS ?_ | refine zq5 ?_ | refine zq6 ?_))
      exact ⟨(jf, ⟨1, (x.edges.getD e gedge0).zone, pfx0, 0, rng0⟩), ⟨hjf, .inr (.inl ⟨_, getD_mem hel, rfl⟩)⟩, zLe, zLes⟩
     ·(repeat' (first | refine zS ?_ | refine zq5 ?_ | refine zq6 ?_))
      exact ⟨(jf, ⟨2, [], p, 0, rng0⟩), ⟨hjf, .inl ⟨p, hp, rfl⟩⟩, zLe, zLes⟩
    ·(repeat' (first | refine zS ?_ | refine zq5 ?_ | refine zq6 ?_))
     exact ⟨(je, ⟨2, [], p, 0, rng0⟩), ⟨hje, .inl ⟨p, hp, rfl⟩⟩, zLe, zLes⟩
   rintro ⟨jg, y⟩ ⟨hjg, hy⟩
   dsimp only at hjg hy ⊢
   unfold gst
   refine zNq ?_
   refine pw_seq ?_
   refine pw_room 4 rfl fun hroom => ?_
   refine pw_joinX hD (fun a : Nat × TItem => a.1 ≤ l.length ∧ GGItem x a.2) (fun _ => []) (fun a => gst l x ⟨gs, [], [], [], [], []⟩ c a.1 ++ [.box [.str (gn3.getD gs.length []), .msl 7 11 0 (its.map eItem).length ci], .arr 7 (its.map eItem) ci, .box (eItem a.2).cells]) 13 rfl (fun _ => rfl) (fun _ => rfl) (fun _ => rfl) ?_ ?_
   ·(repeat' (first | refine zS ?_ | refine zq5 ?_ | refine zq6 ?_))
    refine pl_split 70 rfl (fun hw => ?_) (fun hw => ?_)
    ·have hw0 : 0 < gs.length := by simpa using hw
     (repeat' (first | refine zS ?_ | refine zq5 ?_ | refine zq6 ?_))
     (refine pl_on rfl rfl (zCl [0] e17 (c13n l hl jg hjg 4 (by decide) (by decide)) (fun r s hq => ?_)); obtain ⟨jf, ⟨m3, hm3, rfl⟩, hjf, rfl⟩ := hq; refine ⟨rfl, rfl, ?_⟩; (refine zNp ?_))
     (repeat' (first | refine zS ?_ | refine zq5 ?_ | refine zq6 ?_))
     refine zT ?_ ?_ <;> intro h4 <;> refine zNq ?_
     ·have hx0 : (gs.map eDef)[0]? = some (eDef (gs.getD 0 default)) := by rw [List.getElem?_map, List.getD, List.getElem?_eq_getElem hw0]; rfl
      have hnm : (gs.getD 0 default).name = [103, 49] := (hgs.2 0 _ (by rw [List.getD, List.getElem?_eq_getElem hw0]; rfl)).1
      have hroom2 : gs.length ≤ c.1 := by simpa using hroom
      (repeat' (first | refine zS ?_ | refine zq5 ?_ | refine zq6 ?_))
      (refine pl_op rfl (op_of (v_indexm hT rfl rfl rfl rfl rfl (by decide) (by show (0 : Int) < ((gs.map eDef).length : Int); rw [List.length_map]; omega) (by omega)) ?_); (refine zNp ?_))
      (repeat' (first | refine zS ?_ | refine zq5 ?_ | refine zq6 ?_))
      (refine pl_op rfl (op_loadE (x0 := eDef (gs.getD 0 default)) hT rfl rfl rfl rfl rfl (by omega) (hx0) rfl ?_); (refine zNp ?_))
      rw [hnm]
      (repeat' (first | refine zS ?_ | refine zq5 ?_ | refine zq6 ?_))
      exact ⟨(jf, ⟨3, [103, 49], pfx0, 0, rng0⟩), ⟨hjf, .inr (.inr rfl)⟩, zLe, zLes⟩
     ·(repeat' (first | refine zS ?_ | refine zq5 ?_ | refine zq6 ?_))
      exact ⟨(jf, y), ⟨hjf, hy⟩, zLe, zLes⟩
    ·(repeat' (first | refine zS ?_ | refine zq5 ?_ | refine zq6 ?_))
     exact ⟨(jg, y), ⟨hjg, hy⟩, zLe, zLes⟩
   rintro ⟨jh, y2⟩ ⟨hjh, hy2⟩
   dsimp only at hjh hy2 ⊢
   unfold gst
   refine zNq ?_
   (repeat' (first | refine zS ?_ | refine zq5 ?_ | refine zq6 ?_))
   (refine pl_append (b := 56) hT hD rfl rfl rfl rfl rfl rfl rfl rfl (.inl (Nat.zero_lt_succ _)) rfl rfl (by simp; omega) (fun cap1 _ hcap => ?_); (refine zNp ?_))
   (repeat' (first | refine zS ?_ | refine zq5 ?_ | refine zq6 ?_))
   refine ⟨(m - 1, its ++ [y2], cap1, jh), ⟨by rw [List.length_append, List.length_singleton]; omega, fun z hz => ?_, hjh⟩, by dsimp only; omega, ?_, ?_⟩
   ·rcases List.mem_append.1 hz with hz | hz
    ·exact hits z hz
    ·rw [List.mem_singleton.1 hz]; exact hy2
   all_goals simp only [List.map_append, List.length_append]
   ·rw [show ((m - 1 : Nat) : Int) = (m : Int) - 1 by omega]
    (exact zLe)
   ·exact ⟨.inl rfl, .inl rfl, .inl rfl, .inl rfl, .inl rfl, .inl rfl, .inl rfl, .inl rfl, .inl rfl, .inl rfl, .inl rfl, .inl rfl, trivial⟩
  ·refine pw_exit ?_
   refine pw_frzB 11 10 (cs1 := [.str (gn3.getD gs.length [])]) (cs2 := []) rfl rfl rfl (by decide) ?_
   refine pw_normV rfl ?_
   refine zNq ?_
   (repeat' (first | refine zS ?_ | refine zq5 ?_ | refine zq6 ?_))
   (refine pl_append (b := 40) hT hD rfl rfl rfl rfl rfl rfl rfl rfl (.inl (Nat.zero_lt_succ _)) rfl rfl (by simp; omega) (fun cap1 _ hcap => ?_); (refine zNp ?_))
   (repeat' (first | refine zS ?_ | refine zq5 ?_ | refine zq6 ?_))
   refine ⟨(k - 1, gs ++ [⟨gn3.getD gs.length [], its⟩], (cap1, c.2), jc), ⟨by rw [List.length_append, List.length_singleton]; omega, hgs.snoc h3 (by omega) hits, hjc⟩, by dsimp only; omega, ?_, ?_⟩
   all_goals simp only [List.map_append, List.length_append]
   ·rw [show ((k - 1 : Nat) : Int) = (k : Int) - 1 by omega]
    (exact zLe)
   ·exact ⟨.inl rfl, .inl rfl, .inl rfl, .inl rfl, .inl rfl, .inl rfl, .inl rfl, .inl rfl, .inl rfl, .inl rfl, trivial⟩
 ·obtain rfl : k = 0 := by omega
  clear h hk
  refine pw_exit ?_
  refine pw_less (st' := gst l x ⟨gs, [], [], [], [], []⟩ c ja) (env' := genv x n) zLe (by unfold gst; (exact zLes)) (h2 B j hD gs hgs c ja hja)

end
end Go.Proofs.YtkaobkjcjodffaaGreatDoor