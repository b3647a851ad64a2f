/-
 What a valid intent is like, and how long its text is: plain.
-/
import Derived.Test.YtkaobkjcjodffaaGreatDoorHK51
import Derived.Test.YtkaobkjcjodffaaGreatDoorGPwApX
import Derived.Test.YtkaobkjcjodffaaGreatDoorHB6
import Derived.Test.YtkaobkjcjodffaaGreatDoorGPwReadW
set_option maxHeartbeats 20000000
set_option maxRecDepth 100000
namespace Go.Proofs.YtkaobkjcjodffaaGreatDoor
open Go Go.Pw
section
structure IIn2 (i : TInt) : Prop extends IIn i where
 pins : ∀ p ∈ i.pubs, (0 ≤ p.addr ∧ p.addr < 4294967296) ∧ 0 ≤ p.real ∧ p.real < 4294967296
 hins : ∀ h ∈ i.hids, 0 ≤ h.addr ∧ h.addr < 4294967296
structure VDef (l : List TDef) (sv : Bool) : Prop where
 len : l.length ≤ 32
 name : ∀ d ∈ l, vname d.name = true
 first : ∀ k, k < l.length → firstAt (fun x : TDef => x.name == (l.getD k default).name) l = k
 i1 : ∀ d ∈ l, 1 ≤ d.items.length
 i2 : ∀ d ∈ l, d.items.length ≤ 16
 items : ∀ d ∈ l, ∀ x ∈ d.items, vItem x sv = true
theorem vDefs_v {l : List TDef} {sv : Bool} (h : vDefs l sv = true) : VDef l sv := by
 unfold vDefs at h
 rw [Bool.and_eq_true, decide_eq_true_eq, List.all_eq_true] at h
 have hk : ∀ k, k < l.length → dOk l sv k = true := fun k hk => h.2 k (List.mem_range.2 hk)
 have hd : ∀ d ∈ l, ∃ k, k < l.length ∧ l.getD k default = d := fun d hd => by
  obtain ⟨k, hk⟩ := List.mem_iff_getElem?.1 hd
  exact ⟨k, (List.getElem?_eq_some_iff.1 hk).1, by rw [List.getD, hk]; rfl⟩
 have hf : ∀ k, k < l.length → ((vname (l.getD k default).name = true ∧ firstAt (fun x : TDef => x.name == (l.getD k default).name) l = k) ∧ 1 ≤ (l.getD k default).items.length) ∧ (l.getD k default).items.length ≤ 16 := fun k hk' => by
  have := hk k hk'
  unfold dOk dHead at this
  simp only [Bool.and_eq_true, decide_eq_true_eq] at this
  exact this.1
 refine ⟨h.1, fun d hd' => ?_, fun k hk' => (hf k hk').1.1.2, fun d hd' => ?_, fun d hd' => ?_, fun d hd' => ?_⟩
 ·obtain ⟨k, h1, rfl⟩ := hd d hd'; exact (hf k h1).1.1.1
 ·obtain ⟨k, h1, rfl⟩ := hd d hd'; exact (hf k h1).1.2
 ·obtain ⟨k, h1, rfl⟩ := hd d hd'; exact (hf k h1).2
 ·obtain ⟨k, h1, rfl⟩ := hd d hd'
  have := hk k h1
  unfold dOk at this
  rw [Bool.and_eq_true, List.all_eq_true] at this
  exact this.2
structure IV (i : TInt) : Prop where
 gs : VDef i.groups false
 ss : VDef i.services true
 wl : i.windows.length ≤ 32
 sl : i.stms.length ≤ 64
 pl : i.pubs.length ≤ 16
 hl : i.hids.length ≤ 8
 wname : ∀ w ∈ i.windows, vname w.name = true
 wfirst : ∀ k, k < i.windows.length → firstAt (fun x : TWin => x.name == (i.windows.getD k default).name) i.windows = k
 wok : ∀ w ∈ i.windows, wOkB w.active = true
 stms : ∀ s ∈ i.stms, vStm s = true
 pubs : ∀ p ∈ i.pubs, vPub p = true
 hids : ∀ h ∈ i.hids, vHid h = true
theorem iValid_v {i : TInt} (h : iValid i = true) : IV i := by
 unfold iValid at h
 simp only [Bool.and_eq_true, decide_eq_true_eq, List.all_eq_true] at h
 obtain ⟨⟨⟨⟨⟨⟨a1, a2⟩, a3⟩, a4⟩, a5⟩, a6⟩, ⟨⟨b1, b2⟩, b3⟩, b4⟩ := h
 have hd : ∀ d ∈ i.windows, ∃ k, k < i.windows.length ∧ i.windows.getD k default = d := fun d hd => by
  obtain ⟨k, hk⟩ := List.mem_iff_getElem?.1 hd
  exact ⟨k, (List.getElem?_eq_some_iff.1 hk).1, by rw [List.getD, hk]; rfl⟩
 have hw : ∀ k, k < i.windows.length → (vname (i.windows.getD k default).name = true ∧ firstAt (fun x : TWin => x.name == (i.windows.getD k default).name) i.windows = k) ∧ wOkB (i.windows.getD k default).active = true := fun k hk => by
  have := b1 k (List.mem_range.2 hk)
  unfold wWin at this
  simpa only [Bool.and_eq_true, decide_eq_true_eq] using this
 refine ⟨vDefs_v a1, vDefs_v a2, a3, a4, a5, a6, fun d hd' => ?_, fun k hk => (hw k hk).1.2, fun d hd' => ?_, b2, b3, b4⟩
 ·obtain ⟨k, h1, rfl⟩ := hd d hd'; exact (hw k h1).1.1
 ·obtain ⟨k, h1, rfl⟩ := hd d hd'; exact (hw k h1).2
theorem eqR_eq {x y : TRng} (h : eqR x y = true) : x = y := by
 unfold eqR at h
 simp only [Bool.and_eq_true, beq_iff_eq] at h
 cases x; cases y
 simp only [TRng.mk.injEq]
 exact ⟨h.1, h.2.1⟩
theorem eqI_eq {x y : TItem} (h : eqI x y = true) : x = y := by
 unfold eqI at h
 simp only [Bool.and_eq_true, beq_iff_eq] at h
 obtain ⟨h1, h2, ⟨h3, h4, _⟩, h5, ⟨h6, h7, _⟩, _⟩ := h
 obtain ⟨k, n, ⟨a, b⟩, p, ⟨l, u⟩⟩ := x
 obtain ⟨k', n', ⟨a', b'⟩, p', ⟨l', u'⟩⟩ := y
 dsimp only at *
 subst h1 h2 h3 h4 h5 h6 h7
 rfl
theorem vItem_f {x : TItem} {sv : Bool} (h : vItem x sv = true) (hi : ItIn x) : FItem x := by
 unfold vItem at h
 split at h
 ·rename_i k
  exact ⟨fun q => by omega, fun q => by omega, fun q => by omega, .inl k⟩
 split at h
 ·rename_i k
  rw [Bool.and_eq_true, Bool.and_eq_true, valid_eq x.pfx hi.addr] at h
  exact ⟨fun _ => ⟨hi.addr, h.1.2⟩, fun q => by omega, fun q => by omega, .inr (.inl k)⟩
 split at h
 ·rename_i k
  exact ⟨fun q => by omega, fun q => by omega, fun q => by omega, .inr (.inr (.inl k))⟩
 split at h
 ·rename_i k
  rw [Bool.and_eq_true, Bool.and_eq_true] at h
  have hp := h.1.2
  have hl := hi.lo
  unfold vPorts at hp
  refine ⟨fun q => by omega, fun _ q => ?_, fun _ => ?_, .inr (.inr (.inr k))⟩
  ·rw [if_pos q, Bool.and_eq_true, decide_eq_true_eq, decide_eq_true_eq] at hp
   exact ⟨hl, by omega, by omega, hp.2⟩
  ·split at hp
   ·omega
   split at hp
   ·omega
   simp only [Bool.and_eq_true, decide_eq_true_eq] at hp
   omega
 ·cases h
theorem stm_prio {s : TStm} (h : vStm s = true) : 0 ≤ s.prio ∧ s.prio ≤ 1000 := by
 unfold vStm stmRest at h
 simp only [Bool.and_eq_true, decide_eq_true_eq] at h
 exact ⟨h.2.1.2, h.2.2⟩
theorem pub_f {p : TPub} (h : vPub p = true) : (p.proto = 6 ∨ p.proto = 17) ∧ (0 ≤ p.port ∧ p.port ≤ 65535) ∧ (0 ≤ p.realPort ∧ p.realPort ≤ 65535) ∧ vname p.edge = true := by
 unfold vPub at h
 simp only [Bool.and_eq_true, Bool.or_eq_true, decide_eq_true_eq, beq_iff_eq] at h
 obtain ⟨⟨⟨a, b⟩, c⟩, d⟩ := h
 exact ⟨a, b, c, d⟩
theorem hid_f {x : THid} (h : vHid x = true) : vname x.group = true ∧ vname x.edge = true ∧ 1024 ≤ x.ports.lo ∧ x.ports.lo ≤ x.ports.hi ∧ x.ports.hi ≤ 65535 := by
 unfold vHid at h
 simp only [Bool.and_eq_true, decide_eq_true_eq] at h
 obtain ⟨⟨a, b⟩, ⟨c, d⟩, e⟩ := h
 exact ⟨a, b, c, d, e⟩
variable {Gl : Glob}
attribute [local irreducible] PW PWL OpP PCalls PWO PWT bothT
structure SpI (n : Nat) (t : TInt) : Prop where
 groups : t.groups.length ≤ n
 services : t.services.length ≤ n
 windows : t.windows.length ≤ n
 stms : t.stms.length ≤ n
 pubs : t.pubs.length ≤ n
 hids : t.hids.length ≤ n
 gitems : ∀ d ∈ t.groups, d.items.length ≤ n ∧ ∀ x ∈ d.items, ItIn x
 sitems : ∀ d ∈ t.services, d.items.length ≤ n ∧ ∀ x ∈ d.items, ItIn x
 active : ∀ d ∈ t.windows, d.active.length ≤ n ∧ ∀ r ∈ d.active, RIn r
 pins : ∀ p ∈ t.pubs, (0 ≤ p.addr ∧ p.addr < 4294967296) ∧ 0 ≤ p.real ∧ p.real < 4294967296
 hins : ∀ h ∈ t.hids, 0 ≤ h.addr ∧ h.addr < 4294967296
theorem SpI.big {n : Nat} {t : TInt} (h : SpI n t) (hn : n < 100000) : IBig t := by
 have h1 := h.groups
 have h2 := h.services
 have h3 := h.windows
 have h4 := h.stms
 have h5 := h.pubs
 have h6 := h.hids
 refine ⟨by omega, by omega, by omega, by omega, by omega, by omega, fun d hd => ?_, fun d hd => ?_, fun d hd => ?_⟩
 ·have := (h.gitems d hd).1; omega
 ·have := (h.sitems d hd).1; omega
 ·have := (h.active d hd).1; omega
theorem SpI.iin {n : Nat} {t : TInt} (h : SpI n t) (hn : n < 100000) : IIn2 t :=
 ⟨⟨fun d hd => (h.gitems d hd).2, fun d hd => (h.sitems d hd).2, fun d hd => ⟨by have := (h.active d hd).1; omega, (h.active d hd).2⟩⟩, h.pins, h.hins⟩
theorem SpI.mono {n m : Nat} {t : TInt} (h : SpI n t) (hn : n ≤ m) : SpI m t :=
 ⟨Nat.le_trans h.groups hn, Nat.le_trans h.services hn, Nat.le_trans h.windows hn, Nat.le_trans h.stms hn, Nat.le_trans h.pubs hn, Nat.le_trans h.hids hn, fun d hd => ⟨Nat.le_trans (h.gitems d hd).1 hn, (h.gitems d hd).2⟩, fun d hd => ⟨Nat.le_trans (h.sitems d hd).1 hn, (h.sitems d hd).2⟩, fun d hd => ⟨Nat.le_trans (h.active d hd).1 hn, (h.active d hd).2⟩, h.pins, h.hins⟩
theorem mem_snocS {α : Type} {Q : α → Prop} {l : List α} {x : α} (a : ∀ d ∈ l, Q d) (b : Q x) : ∀ d ∈ l ++ [x], Q d := fun d hd => by
 rcases List.mem_append.1 hd with hd | hd
 ·exact a d hd
 ·rw [List.mem_singleton.1 hd]; exact b
theorem len_snoc {α : Type} {l : List α} {x : α} {n : Nat} (h : l.length ≤ n) : (l ++ [x]).length ≤ n + 3 := by rw [List.length_append, List.length_singleton]; omega
theorem mem_set {α : Type} {Q : α → Prop} {l : List α} {x : α} {k : Nat} (a : ∀ d ∈ l, Q d) (b : Q x) : ∀ d ∈ l.set k x, Q d := fun d hd => by
 rcases List.mem_or_eq_of_mem_set hd with hd | hd
 ·exact a d hd
 ·rw [hd]; exact b
theorem SpI.addG {n : Nat} {t : TInt} (h : SpI n t) {d : TDef} (hd : d.items.length ≤ 1 ∧ ∀ x ∈ d.items, ItIn x) : SpI (n + 3) { t with groups := t.groups ++ [d] } :=
 { (h.mono (Nat.le_add_right n 3)) with groups := len_snoc h.groups, gitems := mem_snocS (h.mono (Nat.le_add_right n 3)).gitems ⟨by omega, hd.2⟩ }
theorem SpI.addS {n : Nat} {t : TInt} (h : SpI n t) {d : TDef} (hd : d.items.length ≤ 1 ∧ ∀ x ∈ d.items, ItIn x) : SpI (n + 3) { t with services := t.services ++ [d] } :=
 { (h.mono (Nat.le_add_right n 3)) with services := len_snoc h.services, sitems := mem_snocS (h.mono (Nat.le_add_right n 3)).sitems ⟨by omega, hd.2⟩ }
theorem SpI.addW {n : Nat} {t : TInt} (h : SpI n t) {d : TWin} (hd : d.active.length ≤ 3 ∧ ∀ x ∈ d.active, RIn x) : SpI (n + 3) { t with windows := t.windows ++ [d] } :=
 { (h.mono (Nat.le_add_right n 3)) with windows := len_snoc h.windows, active := mem_snocS (h.mono (Nat.le_add_right n 3)).active ⟨by omega, hd.2⟩ }
theorem SpI.addT {n : Nat} {t : TInt} (h : SpI n t) (s : TStm) : SpI (n + 3) { t with stms := t.stms ++ [s] } :=
 { (h.mono (Nat.le_add_right n 3)) with stms := len_snoc h.stms }
theorem SpI.setT {n : Nat} {t : TInt} (h : SpI n t) (k : Nat) (s : TStm) : SpI (n + 3) { t with stms := t.stms.set k s } :=
 { (h.mono (Nat.le_add_right n 3)) with stms := by have := h.stms; show (t.stms.set k s).length ≤ _; rw [List.length_set]; omega }
theorem SpI.dropT {n : Nat} {t : TInt} (h : SpI n t) (k : Nat) : SpI (n + 3) { t with stms := t.stms.drop k } :=
 { (h.mono (Nat.le_add_right n 3)) with stms := by have := h.stms; show (t.stms.drop k).length ≤ _; rw [List.length_drop]; omega }
theorem SpI.addP {n : Nat} {t : TInt} (h : SpI n t) {p : TPub} (hp : (0 ≤ p.addr ∧ p.addr < 4294967296) ∧ 0 ≤ p.real ∧ p.real < 4294967296) : SpI (n + 3) { t with pubs := t.pubs ++ [p] } :=
 { (h.mono (Nat.le_add_right n 3)) with pubs := len_snoc h.pubs, pins := mem_snocS h.pins hp }
theorem SpI.addH {n : Nat} {t : TInt} (h : SpI n t) {p : THid} (hp : 0 ≤ p.addr ∧ p.addr < 4294967296) : SpI (n + 3) { t with hids := t.hids ++ [p] } :=
 { (h.mono (Nat.le_add_right n 3)) with hids := len_snoc h.hids, hins := mem_snocS h.hins hp }
theorem SpI.setG {n : Nat} {t : TInt} (h : SpI n t) (k : Nat) {d : TDef} (hd : d.items.length ≤ n + 3 ∧ ∀ x ∈ d.items, ItIn x) : SpI (n + 3) { t with groups := t.groups.set k d } :=
 { (h.mono (Nat.le_add_right n 3)) with groups := (by have := h.groups; show (t.groups.set k d).length ≤ _; rw [List.length_set]; omega), gitems := mem_set (h.mono (Nat.le_add_right n 3)).gitems hd }
def sst (l : List Int) (j : Nat) (i : TInt) (n : Nat) (og oi : PObj) (c : KCaps) : List PObj :=
 [tape l j, .dead, zI, .dead, .dead, .dead, .dead, .dead, .dead, .dead, og, oi, .arr 2 (i.services.map eDef) c.2.1, .arr 2 (i.windows.map eWin) c.2.2.1, .dead, .arr 10 (i.stms.map eStm) c.2.2.2.1, .dead, .arr 6 (i.pubs.map ePub) c.2.2.2.2.1, .dead, .arr 5 (i.hids.map eHid) c.2.2.2.2.2,
  .box [.msl 2 10 0 n c.1, .msl 2 12 0 (i.services.map eDef).length c.2.1, .msl 2 13 0 (i.windows.map eWin).length c.2.2.1, .msl 10 15 0 (i.stms.map eStm).length c.2.2.2.1, .msl 6 17 0 (i.pubs.map ePub).length c.2.2.2.2.1, .msl 5 19 0 (i.hids.map eHid).length c.2.2.2.2.2]]
def senv : List PV := [.ptr 0 0, .any, .any, .any, .ptr 2 0, .ptr 20 0] ++ List.replicate 266 .any
def sQ (l : List Int) (n : Nat) : Post := retF tys Tryz.f26.results.toList 1 fun r s => ∃ i' : Nat, (∃ t : TInt, SpI (n + 3) t ∧ r = eIntent t) ∧ i' ≤ l.length ∧ s = [tape l i']
theorem nil_len {g : List TDef} {d : TDef} {x : PV} (_ : 0 < g.length) : ((g.set 0 d).map eDef).length = ((g.map eDef).set 0 x).length := by simp
theorem nil_cells {g : List TDef} {d : TDef} : ∀ y ∈ (g.set 0 d).map eDef, y.cells.length = 2 := fun y hy => by
 obtain ⟨z, _, rfl⟩ := List.mem_map.1 hy
 rfl
theorem nil_less {g : List TDef} (h : 0 < g.length) : ∀ (n : Nat) y, ((g.set 0 { g.getD 0 default with items := [] }).map eDef)[n]? = some y → ∃ x, ((g.map eDef).set 0 (.agg [.str (g.getD 0 default).name, .nilsl]))[n]? = some x ∧ ∀ (j : Nat) d, y.cells[j]? = some d → ∃ c, x.cells[j]? = some c ∧ (c = d ∨ c = .nilsl ∧ d = .sl []) := by
 match g, h with
 | d :: l, _ =>
  intro n y hy
  cases n with
  | zero =>
   cases hy
   refine ⟨_, rfl, fun j e he => ?_⟩
   match j, he with
   | 0, he => exact ⟨_, rfl, .inl (Option.some.inj he)⟩
   | 1, he => exact ⟨_, rfl, .inr ⟨rfl, (Option.some.inj he).symm⟩⟩
   | _ + 2, he => cases he
  | succ n => exact ⟨y, hy, fun j e he => ⟨e, he, .inl rfl⟩⟩
def SpoilAt (Gl : Glob) (l : List Int) (k : Int) : Prop := ∀ (j : Nat) (_ : j ≤ l.length) (i : TInt) (n : Nat) (_ : n < 90000) (_ : SpI n i) (c : KCaps) (B : Base) (j0 : Nat) (_ : ∀ k, B.D k = dOf [tape l j0] k) (_ : nxV l j 14 = k),
 PW Tryz.prog Gl B (tlC 2 (codeOf Tryz.f26)) senv (sst l j i (i.groups.map eDef).length (.arr 2 (i.groups.map eDef) c.1) .dead c) (sQ l n)
def spL1 : List Str := [[103, 49], [97, 110, 121], [104]]
def spL2 : List Str := [[104], [103, 49], [110, 111, 119, 104, 101, 114, 101]]
def spL3 : List Str := [[119, 101, 98], [115]]
def spP1 : List Int := [6, 1, 256, -1, 50]
def spL4 : List Str := [[115], [119, 101, 98], [110, 111, 119, 104, 101, 114, 101]]
def spL5 : List Str := [[119, 111, 114, 107], [119]]
def spL6 : List Str := [([] : Str), [105, 112, 115], [97, 110, 121]]
def spL7 : List Str := [([] : Str), [119, 111, 114, 107], [110, 101, 118, 101, 114]]
def spL8 : List Str := [[110, 111, 119, 104, 101, 114, 101], [105, 112, 115], [100, 108, 112]]
def spP2 : List Int := [6, 17, 1]
def spL9 : List Str := [[101, 49], [101, 50], [110, 111, 119, 104, 101, 114, 101]]
def spL10 : List Str := [[103, 49], [110, 111, 119, 104, 101, 114, 101], ([] : Str)]
structure ITy (t : TInt) : Prop where
 lens : (t.groups.length ≤ 140737488355328 ∧ t.services.length ≤ 140737488355328 ∧ t.windows.length ≤ 140737488355328) ∧ t.stms.length ≤ 140737488355328 ∧ t.pubs.length ≤ 140737488355328 ∧ t.hids.length ≤ 140737488355328
 gitems : ∀ d ∈ t.groups, d.items.length ≤ 140737488355328 ∧ ∀ x ∈ d.items, ItIn x
 sitems : ∀ d ∈ t.services, d.items.length ≤ 140737488355328 ∧ ∀ x ∈ d.items, ItIn x
 active : ∀ d ∈ t.windows, d.active.length ≤ 140737488355328 ∧ ∀ r ∈ d.active, RIn r
 pins : ∀ p ∈ t.pubs, (0 ≤ p.addr ∧ p.addr < 4294967296) ∧ 0 ≤ p.real ∧ p.real < 4294967296
 hins : ∀ h ∈ t.hids, 0 ≤ h.addr ∧ h.addr < 4294967296
theorem take_allH {α : Type} [Inhabited α] {Q : α → Prop} {g : List α} {k : Nat} (hlt : k < g.length) (h : ∀ d ∈ g.take k, Q d) (hk : Q (g.getD k default)) : ∀ d ∈ g.take (k + 1), Q d := fun d hd => by
 rw [List.take_succ_eq_append_getElem hlt] at hd
 rcases List.mem_append.1 hd with hd | hd
 ·exact h d hd
 ·rw [List.getD, List.getElem?_eq_getElem hlt] at hk
  rw [List.mem_singleton.1 hd]
  exact hk
theorem c_huge (x : TInt) (hx : ITy x) : PFun Tryz.prog Gl 27 [eIntent x] fun r => ∃ b : Bool, r = .bool b ∧ (b = false → SpI 100 x) := by
 have l1 : (x.groups.map eDef).length = x.groups.length := List.length_map ..
 have l2 : (x.services.map eDef).length = x.services.length := List.length_map ..
 have l3 : (x.windows.map eWin).length = x.windows.length := List.length_map ..
 have l4 : (x.stms.map eStm).length = x.stms.length := List.length_map ..
 have l5 : (x.pubs.map ePub).length = x.pubs.length := List.length_map ..
 have l6 : (x.hids.map eHid).length = x.hids.length := List.length_map ..
 obtain ⟨⟨b1, b2, b3⟩, b4, b5, b6⟩ := hx.lens
 (refine PFun.of hT Tryz.func27 rfl fun B hD => ?_; refine pw_norm rfl ?_)
 (repeat' (first | refine zS ?_ | refine zq5 ?_ | refine zq6 ?_))
 refine zT ?_ ?_ <;> intro h0 <;> refine zNq ?_
 ·(repeat' (first | refine zS ?_ | refine zq5 ?_ | refine zq6 ?_))
  exact ret2 _ rfl ⟨true, rfl, fun h => by cases h⟩ rfl
 ·rw [l1, l2, l3, l4, l5, l6] at *
  have hs : (x.groups.length : Int) + x.services.length + x.windows.length + x.stms.length + x.pubs.length + x.hids.length ≤ 14 ∧ x.stms.length ≤ 4 := by omega
  generalize hv0 : (x.groups.length : Int) + x.services.length + x.windows.length + x.stms.length + x.pubs.length + x.hids.length = v0 at *
  have hp0 : 0 ≤ v0 := by omega
  (repeat' (first | refine zS ?_ | refine zq5 ?_ | refine zq6 ?_))
  refine zNq ?_
  refine pw_for hD (fun a : Nat × Int => [(3, .int .i64 a.2), (4, .int .i64 a.1)]) (fun _ => [.box (eIntent x).cells]) (fun a => a.1 ≤ x.groups.length ∧ (v0 ≤ a.2 ∧ a.2 ≤ v0 + a.1 * 140737488355328) ∧ ∀ d ∈ x.groups.take a.1, (d.items.length : Int) ≤ a.2) (fun a => x.groups.length - a.1) (0, v0) ⟨Nat.zero_le _, ⟨by dsimp only; omega, by dsimp only; omega⟩, fun d hd => by simp at hd⟩ 1 rfl (fun _ => rfl) zLes (fun _ => rfl) (fun _ => rfl) zLe ?_
  rintro ⟨k, v⟩ ⟨hk, hv, hm⟩
  dsimp only at hk hv hm ⊢
  refine zNq ?_
  (repeat' (first | refine zS ?_ | refine zq5 ?_ | refine zq6 ?_))
  refine zT ?_ ?_ <;> intro h <;> refine zNq ?_
  ·have hlt : k < x.groups.length := by omega
   have hid := (hx.gitems _ (getD_memD hlt)).1
   have hml : ((x.groups.getD k default).items.map eItem).length = (x.groups.getD k default).items.length := List.length_map ..
   have hkm : (k : Int) * 140737488355328 ≤ 14 * 140737488355328 := by omega
   (repeat' (first | refine zS ?_ | refine zq5 ?_ | refine zq6 ?_))
   refine ⟨(k + 1, v + (x.groups.getD k default).items.length), ⟨hlt, ⟨by dsimp only; omega, by dsimp only; omega⟩, take_allH hlt (fun d hd => by have := hm d hd; dsimp only; omega) (by dsimp only; omega)⟩, by dsimp only; omega, ?_, zLes⟩
   (exact zLe)
  ·obtain rfl : k = x.groups.length := by omega
   rw [List.take_length] at hm
   have g1 := hm
   generalize v = v1 at *
   clear hm
   (repeat' (first | refine zS ?_ | refine zq5 ?_ | refine zq6 ?_))
   refine zNq ?_
   refine pw_for hD (fun a : Nat × Int => [(3, .int .i64 a.2), (5, .int .i64 a.1)]) (fun _ => [.box (eIntent x).cells]) (fun a => a.1 ≤ x.services.length ∧ (v1 ≤ a.2 ∧ a.2 ≤ v1 + a.1 * 140737488355328) ∧ ∀ d ∈ x.services.take a.1, (d.items.length : Int) ≤ a.2) (fun a => x.services.length - a.1) (0, v1) ⟨Nat.zero_le _, ⟨by dsimp only; omega, by dsimp only; omega⟩, fun d hd => by simp at hd⟩ 1 rfl (fun _ => rfl) zLes (fun _ => rfl) (fun _ => rfl) zLe ?_
   rintro ⟨k, v⟩ ⟨hk, hv, hm⟩
   dsimp only at hk hv hm ⊢
   refine zNq ?_
   (repeat' (first | refine zS ?_ | refine zq5 ?_ | refine zq6 ?_))
   refine zT ?_ ?_ <;> intro h <;> refine zNq ?_
   ·have hlt : k < x.services.length := by omega
    have hid := (hx.sitems _ (getD_memD hlt)).1
    have hml : ((x.services.getD k default).items.map eItem).length = (x.services.getD k default).items.length := List.length_map ..
    have hkm : (k : Int) * 140737488355328 ≤ 14 * 140737488355328 := by omega
    (repeat' (first | refine zS ?_ | refine zq5 ?_ | refine zq6 ?_))
    refine ⟨(k + 1, v + (x.services.getD k default).items.length), ⟨hlt, ⟨by dsimp only; omega, by dsimp only; omega⟩, take_allH hlt (fun d hd => by have := hm d hd; dsimp only; omega) (by dsimp only; omega)⟩, by dsimp only; omega, ?_, zLes⟩
    (exact zLe)
   ·obtain rfl : k = x.services.length := by omega
    rw [List.take_length] at hm
    have g2 := hm
    generalize v = v2 at *
    clear hm
    (repeat' (first | refine zS ?_ | refine zq5 ?_ | refine zq6 ?_))
    refine zNq ?_
    refine pw_for hD (fun a : Nat × Int => [(3, .int .i64 a.2), (6, .int .i64 a.1)]) (fun _ => [.box (eIntent x).cells]) (fun a => a.1 ≤ x.windows.length ∧ (v2 ≤ a.2 ∧ a.2 ≤ v2 + a.1 * 140737488355328) ∧ ∀ d ∈ x.windows.take a.1, (d.active.length : Int) ≤ a.2) (fun a => x.windows.length - a.1) (0, v2) ⟨Nat.zero_le _, ⟨by dsimp only; omega, by dsimp only; omega⟩, fun d hd => by simp at hd⟩ 1 rfl (fun _ => rfl) zLes (fun _ => rfl) (fun _ => rfl) zLe ?_
    rintro ⟨k, v⟩ ⟨hk, hv, hm⟩
    dsimp only at hk hv hm ⊢
    refine zNq ?_
    (repeat' (first | refine zS ?_ | refine zq5 ?_ | refine zq6 ?_))
    refine zT ?_ ?_ <;> intro h <;> refine zNq ?_
    ·have hlt : k < x.windows.length := by omega
     have hid := (hx.active _ (getD_memD hlt)).1
     have hml : ((x.windows.getD k default).active.map eRng).length = (x.windows.getD k default).active.length := List.length_map ..
     have hkm : (k : Int) * 140737488355328 ≤ 14 * 140737488355328 := by omega
     (repeat' (first | refine zS ?_ | refine zq5 ?_ | refine zq6 ?_))
     refine ⟨(k + 1, v + (x.windows.getD k default).active.length), ⟨hlt, ⟨by dsimp only; omega, by dsimp only; omega⟩, take_allH hlt (fun d hd => by have := hm d hd; dsimp only; omega) (by dsimp only; omega)⟩, by dsimp only; omega, ?_, zLes⟩
     (exact zLe)
    ·obtain rfl : k = x.windows.length := by omega
     rw [List.take_length] at hm
     (repeat' (first | refine zS ?_ | refine zq5 ?_ | refine zq6 ?_))
     refine ret2 _ rfl ⟨decide (v > 30), rfl, fun hb => ?_⟩ rfl
     have hb := of_decide_eq_false hb
     refine ⟨by omega, by omega, by omega, by omega, by omega, by omega, fun d hd => ⟨by have := g1 d hd; omega, (hx.gitems d hd).2⟩, fun d hd => ⟨by have := g2 d hd; omega, (hx.sitems d hd).2⟩, fun d hd => ⟨by have := hm d hd; omega, (hx.active d hd).2⟩, hx.pins, hx.hins⟩
end
section
theorem wr_strct {n R : Nat} {t : TypeId} {ps : List PV} {l : List (Nat × Nat × Bool × TypeId)} {a b : Nat} {z : Option (List PV)} (ht : tys[t]? = some ⟨.strct l, a, b, z⟩) (h : WR tys R (n + 1) t ps) : ∀ (i : Nat) x, l[i]? = some x → WR tys R n x.2.2.2 ((ps.drop x.1).take x.2.1) := by
 unfold WR at h
 rw [ht] at h
 exact fun i x hx => h x (List.mem_of_getElem? hx)
theorem wt_slR {α : Type} {Q : α → Prop} {e : α → PV} {n R : Nat} {t el s : TypeId} {ps : List PV} {a b c : Nat} {z : Option (List PV)} (ht : tys[t]? = some ⟨.sl el s c, a, b, z⟩) (h : WT tys (n + 1) t ps) (hr : WR tys R (n + 1) t ps)
  (he : ∀ cells, WT tys n el cells → WR tys R n el cells → ∃ d, Q d ∧ mkE (((tys[el]?).map fun ti => ti.tk.agg).getD false) cells = e d) : ∃ l : List α, ps = [.sl (l.map e)] ∧ l.length * c ≤ R ∧ ∀ d ∈ l, Q d := by
 unfold WT at h
 unfold WR at hr
 rw [ht] at h hr
 obtain ⟨xs, rfl, hl, hx⟩ := h
 obtain ⟨ys, hy, hm, hw⟩ := hr
 cases hy
 obtain ⟨l, rfl, hq⟩ := map_of (e := e) (Q := Q) (xs := xs) fun x hxm => by
  obtain ⟨_, h2, h3⟩ := hx x hxm
  obtain ⟨d, hd, hde⟩ := he _ h2 (hw x hxm)
  exact ⟨d, hd, h3.trans hde⟩
 exact ⟨l, rfl, by simpa only [List.length_map] using hm, hq⟩
theorem wt_rng {n : Nat} {cells : List PV} (h : WT tys (n + 2) 85 cells) : ∃ r, RIn r ∧ cells = (eRng r).cells := by
 obtain ⟨hl, hf⟩ := wt_strct (t := 85) rfl h
 match cells, hl with
 | [c0, c1], _ =>
  obtain ⟨a, ha, hb⟩ := wt_int (t := 79) rfl (hf 0 _ rfl)
  obtain ⟨b, hbb, hc⟩ := wt_int (t := 79) rfl (hf 1 _ rfl)
  cases ha; cases hbb
  exact ⟨⟨a, b⟩, ⟨u32_bounds hb, u32_bounds hc⟩, rfl⟩
theorem wt_item {n : Nat} {cells : List PV} (h : WT tys (n + 3) 93 cells) : ∃ x, ItIn x ∧ PV.agg cells = eItem x := by
 obtain ⟨hl, hf⟩ := wt_strct (t := 93) rfl h
 match cells, hl with
 | [c0, c1, c2, c3, c4, c5, c6], _ =>
  obtain ⟨x0, h0, _⟩ := wt_int (t := 3) rfl (hf 0 _ rfl)
  obtain ⟨x1, h1⟩ := wt_str (t := 9) rfl (hf 1 _ rfl)
  obtain ⟨p, hp, h2⟩ := wt_pfx (hf 2 _ rfl)
  obtain ⟨x3, h3, _⟩ := wt_int (t := 3) rfl (hf 3 _ rfl)
  obtain ⟨r, hr, h4⟩ := wt_rng (hf 4 _ rfl)
  cases h0; cases h1; cases h2; cases h3; cases h4
  exact ⟨⟨x0, x1, p, x3, r⟩, ⟨hp, hr.1.1⟩, rfl⟩
theorem wt_def {n R : Nat} {cells : List PV} (h : WT tys (n + 5) 72 cells) (hr : WR tys R (n + 5) 72 cells) : ∃ d : TDef, (d.items.length * 56 ≤ R ∧ ∀ x ∈ d.items, ItIn x) ∧ PV.agg cells = eDef d := by
 obtain ⟨hl, hf⟩ := wt_strct (t := 72) rfl h
 have hg := wr_strct (t := 72) rfl hr
 match cells, hl with
 | [c0, c1], _ =>
  obtain ⟨x0, h0⟩ := wt_str (t := 9) rfl (hf 0 _ rfl)
  obtain ⟨l, h1, hm, hq⟩ := wt_slR (t := 70) (e := eItem) (Q := ItIn) rfl (hf 1 _ rfl) (hg 1 _ rfl) fun cells hc _ => wt_item hc
  cases h0; cases h1
  exact ⟨⟨x0, l⟩, ⟨hm, hq⟩, rfl⟩
theorem wt_win {n R : Nat} {cells : List PV} (h : WT tys (n + 4) 76 cells) (hr : WR tys R (n + 4) 76 cells) : ∃ d : TWin, (d.active.length * 8 ≤ R ∧ ∀ x ∈ d.active, RIn x) ∧ PV.agg cells = eWin d := by
 obtain ⟨hl, hf⟩ := wt_strct (t := 76) rfl h
 have hg := wr_strct (t := 76) rfl hr
 match cells, hl with
 | [c0, c1], _ =>
  obtain ⟨x0, h0⟩ := wt_str (t := 9) rfl (hf 0 _ rfl)
  obtain ⟨l, h1, hm, hq⟩ := wt_slR (t := 74) (e := eRng) (Q := RIn) rfl (hf 1 _ rfl) (hg 1 _ rfl) fun cells hc _ => by
   obtain ⟨r, hr, rfl⟩ := wt_rng hc
   exact ⟨r, hr, rfl⟩
  cases h0; cases h1
  exact ⟨⟨x0, l⟩, ⟨hm, hq⟩, rfl⟩
theorem wt_stm {n : Nat} {cells : List PV} (h : WT tys (n + 2) 61 cells) : ∃ d : TStm, True ∧ PV.agg cells = eStm d := by
 obtain ⟨hl, hf⟩ := wt_strct (t := 61) rfl h
 match cells, hl with
 | [c0, c1, c2, c3, c4, c5, c6, c7, c8, c9], _ =>
  obtain ⟨x0, h0⟩ := wt_bool (t := 4) rfl (hf 0 _ rfl)
  obtain ⟨x1, h1⟩ := wt_str (t := 9) rfl (hf 1 _ rfl)
  obtain ⟨x2, h2⟩ := wt_str (t := 9) rfl (hf 2 _ rfl)
  obtain ⟨x3, h3⟩ := wt_str (t := 9) rfl (hf 3 _ rfl)
  obtain ⟨x4, h4⟩ := wt_bool (t := 4) rfl (hf 4 _ rfl)
  obtain ⟨x5, h5⟩ := wt_str (t := 9) rfl (hf 5 _ rfl)
  obtain ⟨x6, h6⟩ := wt_str (t := 9) rfl (hf 6 _ rfl)
  obtain ⟨x7, h7⟩ := wt_str (t := 9) rfl (hf 7 _ rfl)
  obtain ⟨x8, h8⟩ := wt_str (t := 9) rfl (hf 8 _ rfl)
  obtain ⟨x9, h9, _⟩ := wt_int (t := 3) rfl (hf 9 _ rfl)
  cases h0; cases h1; cases h2; cases h3; cases h4; cases h5; cases h6; cases h7; cases h8; cases h9
  exact ⟨⟨x0, x1, x2, x3, x4, x5, x6, x7, x8, x9⟩, trivial, rfl⟩
theorem wt_pub {n : Nat} {cells : List PV} (h : WT tys (n + 2) 81 cells) : ∃ p : TPub, ((0 ≤ p.addr ∧ p.addr < 4294967296) ∧ 0 ≤ p.real ∧ p.real < 4294967296) ∧ PV.agg cells = ePub p := by
 obtain ⟨hl, hf⟩ := wt_strct (t := 81) rfl h
 match cells, hl with
 | [c0, c1, c2, c3, c4, c5], _ =>
  obtain ⟨x0, h0, b0⟩ := wt_int (t := 79) rfl (hf 0 _ rfl)
  obtain ⟨x1, h1, _⟩ := wt_int (t := 3) rfl (hf 1 _ rfl)
  obtain ⟨x2, h2, _⟩ := wt_int (t := 3) rfl (hf 2 _ rfl)
  obtain ⟨x3, h3⟩ := wt_str (t := 9) rfl (hf 3 _ rfl)
  obtain ⟨x4, h4, b4⟩ := wt_int (t := 79) rfl (hf 4 _ rfl)
  obtain ⟨x5, h5, _⟩ := wt_int (t := 3) rfl (hf 5 _ rfl)
  cases h0; cases h1; cases h2; cases h3; cases h4; cases h5
  exact ⟨⟨x0, x1, x2, x3, x4, x5⟩, ⟨u32_bounds b0, u32_bounds b4⟩, rfl⟩
theorem wt_hid {n : Nat} {cells : List PV} (h : WT tys (n + 3) 87 cells) : ∃ p : THid, (0 ≤ p.addr ∧ p.addr < 4294967296) ∧ PV.agg cells = eHid p := by
 obtain ⟨hl, hf⟩ := wt_strct (t := 87) rfl h
 match cells, hl with
 | [c0, c1, c2, c3, c4], _ =>
  obtain ⟨x0, h0⟩ := wt_str (t := 9) rfl (hf 0 _ rfl)
  obtain ⟨x1, h1⟩ := wt_str (t := 9) rfl (hf 1 _ rfl)
  obtain ⟨x2, h2, b2⟩ := wt_int (t := 79) rfl (hf 2 _ rfl)
  obtain ⟨r, _, h3⟩ := wt_rng (hf 3 _ rfl)
  cases h0; cases h1; cases h2; cases h3
  exact ⟨⟨x0, x1, x2, r⟩, u32_bounds b2, rfl⟩
theorem wt_intent {n : Nat} {cells : List PV} (h : WT tys (n + 7) 34 cells) (hr : WR tys reachBytes (n + 7) 34 cells) : ∃ x : TInt, ITy x ∧ PV.agg cells = eIntent x := by
 obtain ⟨hl, hf⟩ := wt_strct (t := 34) rfl h
 have hg := wr_strct (t := 34) rfl hr
 have hR : reachBytes = 140737488351232 := rfl
 rw [hR] at hg
 match cells, hl with
 | [c0, c1, c2, c3, c4, c5], _ =>
  obtain ⟨l0, h0, m0, q0⟩ := wt_slR (t := 28) (e := eDef) (Q := fun d => d.items.length * 56 ≤ 140737488351232 ∧ ∀ x ∈ d.items, ItIn x) rfl (hf 0 _ rfl) (hg 0 _ rfl) fun cells hc hw => wt_def hc hw
  obtain ⟨l1, h1, m1, q1⟩ := wt_slR (t := 28) (e := eDef) (Q := fun d => d.items.length * 56 ≤ 140737488351232 ∧ ∀ x ∈ d.items, ItIn x) rfl (hf 1 _ rfl) (hg 1 _ rfl) fun cells hc hw => wt_def hc hw
  obtain ⟨l2, h2, m2, q2⟩ := wt_slR (t := 29) (e := eWin) (Q := fun d => d.active.length * 8 ≤ 140737488351232 ∧ ∀ x ∈ d.active, RIn x) rfl (hf 2 _ rfl) (hg 2 _ rfl) fun cells hc hw => wt_win hc hw
  obtain ⟨l3, h3, m3, _⟩ := wt_slR (t := 30) (e := eStm) (Q := fun _ => True) rfl (hf 3 _ rfl) (hg 3 _ rfl) fun cells hc _ => wt_stm hc
  obtain ⟨l4, h4, m4, q4⟩ := wt_slR (t := 31) (e := ePub) (Q := fun p => (0 ≤ p.addr ∧ p.addr < 4294967296) ∧ 0 ≤ p.real ∧ p.real < 4294967296) rfl (hf 4 _ rfl) (hg 4 _ rfl) fun cells hc _ => wt_pub hc
  obtain ⟨l5, h5, m5, q5⟩ := wt_slR (t := 32) (e := eHid) (Q := fun h => 0 ≤ h.addr ∧ h.addr < 4294967296) rfl (hf 5 _ rfl) (hg 5 _ rfl) fun cells hc _ => wt_hid hc
  cases h0; cases h1; cases h2; cases h3; cases h4; cases h5
  exact ⟨⟨l0, l1, l2, l3, l4, l5⟩, ⟨⟨⟨by dsimp only; omega, by dsimp only; omega, by dsimp only; omega⟩, by dsimp only; omega, by dsimp only; omega, by dsimp only; omega⟩, fun d hd => ⟨by have := (q0 d hd).1; omega, (q0 d hd).2⟩, fun d hd => ⟨by have := (q1 d hd).1; omega, (q1 d hd).2⟩, fun d hd => ⟨by have := (q2 d hd).1; omega, (q2 d hd).2⟩, q4, q5⟩, rfl⟩
variable {Gl : Glob}
attribute [local irreducible] PW PWL OpP PCalls PWO PWT bothT
theorem spoil_0 (l : List Int) (hl : Tp l) : SpoilAt Gl l 0 := by
 intro j hj i n hn hi c B j0 hD hk
 have hg1 := hi.groups
 have hg2 := hi.services
 have hg3 := hi.windows
 have hg4 := hi.stms
 have hg5 := hi.pubs
 have hg6 := hi.hids
 unfold sst senv
 refine pw_code rfl ?_
 refine zNq ?_
 (repeat' (first | refine zS ?_ | refine zq5 ?_ | refine zq6 ?_))
 (refine pl_op rfl (zCl [0] e17 (c13d l hl j hj 14 (by decide)) (fun r s hq => ?_)); obtain ⟨rfl, rfl⟩ := hq; refine ⟨rfl, rfl, ?_⟩; (refine zNp ?_))
 have hj1 := nxI_le hj 14
 rw [hk]
 generalize nxI l j 14 = j1 at hj1 ⊢
 clear hk
 (repeat' (first | refine zS ?_ | refine zq5 ?_ | refine zq6 ?_))
 refine zDr [[0,1,2,3,7,8],[4],[5,6],[9],[10,11,12,13,14,15],[16],[17],[18]] ?_
 refine zDn ?_
 refine zD ?_
 (refine po_step rfl rfl (zCl [0] e17 (c13n l hl j1 hj1 3 (by decide) (by decide)) (fun r s hq => ?_)); obtain ⟨j2, ⟨m1, hm1, rfl⟩, hj2, rfl⟩ := hq; refine ⟨rfl, rfl, zLok, ?_⟩; refine zDn ?_)
 (refine po_val rfl rfl (v_index (p := .str (spL1.getD m1 [])) hT rfl rfl rfl rfl (by omega) (lit_at (.str) spL1 m1 [] hm1) rfl) ?_; refine zDn ?_)
 refine zD ?_
 (refine po_step rfl rfl (zCl [0] e17 (c13n l hl j2 hj2 3 (by decide) (by decide)) (fun r s hq => ?_)); obtain ⟨j3, ⟨m2, hm2, rfl⟩, hj3, rfl⟩ := hq; refine ⟨rfl, rfl, zLok, ?_⟩; refine zDn ?_)
 (refine po_val rfl rfl (v_index (p := .str (spL2.getD m2 [])) hT rfl rfl rfl rfl (by omega) (lit_at (.str) spL2 m2 [] hm2) rfl) ?_; refine zDn ?_)
 refine zD ?_
 (refine po_step rfl rfl (op_append (b := 40) hT rfl rfl rfl rfl rfl rfl (.inl (Nat.zero_lt_succ _)) rfl rfl (by simp only [List.length_map, List.length_cons, List.length_nil]; omega) (fun c1 _ hcap => ⟨zLok, ?_⟩)); refine zDn ?_)
 refine zD ?_
 (refine pw_mv 10 21 hD rfl rfl rfl rfl rfl ?_; refine pw_norm rfl ?_)
 (repeat' (first | refine zS ?_ | refine zq5 ?_ | refine zq6 ?_))
 exact ⟨_, eIntent { i with groups := i.groups ++ [⟨spL1.getD m1 [], [⟨3, spL2.getD m2 [], pfx0, 0, rng0⟩]⟩] }, _, rfl, ⟨j3, ⟨{ i with groups := i.groups ++ [⟨spL1.getD m1 [], [⟨3, spL2.getD m2 [], pfx0, 0, rng0⟩]⟩] }, hi.addG ⟨Nat.le_refl _, fun x hx => by rw [List.mem_singleton.1 hx]; exact ⟨⟨Int.le_refl 0, (by decide : (0 : Int) < 4294967296)⟩, Int.le_refl 0⟩⟩, rfl⟩, hj3, rfl⟩, by (simp only [eIntent, List.map_append, List.map_cons, List.map_nil]; (refine .inr (.inr (.inr (.inr (.inl ⟨_, _, rfl, rfl, ?_⟩)))); (repeat (first | exact True.intro | refine ⟨.inr (.inl rfl), ?_⟩ | refine ⟨.inr (.inr (.inl ⟨rfl, rfl⟩)), ?_⟩ | refine ⟨.inr (.inr (.inr (.inl ⟨_, _, _, _, _, _, rfl, rfl, rfl, rfl, rfl⟩))), ?_⟩ | refine ⟨.inr (.inr (.inr (.inl ⟨_, _, _, _, _, _, rfl, rfl, rfl, (by simp only [List.length_map, List.length_append, List.length_cons, List.length_nil]), rfl⟩))), ?_⟩)))), ⟨.inr (.inl rfl), trivial⟩, rfl, rfl⟩
theorem spoil_2 (l : List Int) (hl : Tp l) : SpoilAt Gl l 2 := by
 intro j hj i n hn hi c B j0 hD hk
 have hg1 := hi.groups
 have hg2 := hi.services
 have hg3 := hi.windows
 have hg4 := hi.stms
 have hg5 := hi.pubs
 have hg6 := hi.hids
 unfold sst senv
 refine pw_code rfl ?_
 refine zNq ?_
 (repeat' (first | refine zS ?_ | refine zq5 ?_ | refine zq6 ?_))
 (refine pl_op rfl (zCl [0] e17 (c13d l hl j hj 14 (by decide)) (fun r s hq => ?_)); obtain ⟨rfl, rfl⟩ := hq; refine ⟨rfl, rfl, ?_⟩; (refine zNp ?_))
 have hj1 := nxI_le hj 14
 rw [hk]
 generalize nxI l j 14 = j1 at hj1 ⊢
 clear hk
 (repeat' (first | refine zS ?_ | refine zq5 ?_ | refine zq6 ?_))
 refine zDr [[0,1,2,3,7,8,12,15],[4],[5,6],[9],[10,11],[13],[14],[16],[17,18,19,20,21,22],[23],[24],[25]] ?_
 refine zDn ?_
 refine zD ?_
 (refine po_step rfl rfl (zCl [0] e17 (c13n l hl j1 hj1 2 (by decide) (by decide)) (fun r s hq => ?_)); obtain ⟨j2, ⟨m1, hm1, rfl⟩, hj2, rfl⟩ := hq; refine ⟨rfl, rfl, zLok, ?_⟩; refine zDn ?_)
 (refine po_val rfl rfl (v_index (p := .str (spL3.getD m1 [])) hT rfl rfl rfl rfl (by omega) (lit_at (.str) spL3 m1 [] hm1) rfl) ?_; refine zDn ?_)
 refine zD ?_
 (refine po_step rfl rfl (zCl [0] e17 (c13n l hl j2 hj2 5 (by decide) (by decide)) (fun r s hq => ?_)); obtain ⟨j3, ⟨m2, hm2, rfl⟩, hj3, rfl⟩ := hq; refine ⟨rfl, rfl, zLok, ?_⟩; refine zDn ?_)
 (refine po_val rfl rfl (v_index (p := .int .i64 (spP1.getD m2 0)) hT rfl rfl rfl rfl (by omega) (lit_at (.int .i64) spP1 m2 0 hm2) rfl) ?_; refine zDn ?_)
 refine zD ?_
 (refine po_step rfl rfl (zCl [0] e17 (c13n l hl j3 hj3 10 (by decide) (by decide)) (fun r s hq => ?_)); obtain ⟨j4, ⟨m3, hm3, rfl⟩, hj4, rfl⟩ := hq; refine ⟨rfl, rfl, zLok, ?_⟩; refine zDn ?_)
 refine zD ?_
 (refine po_step rfl rfl (zCl [0] e17 (c13n l hl j4 hj4 10 (by decide) (by decide)) (fun r s hq => ?_)); obtain ⟨j5, ⟨m4, hm4, rfl⟩, hj5, rfl⟩ := hq; refine ⟨rfl, rfl, zLok, ?_⟩; refine zDn ?_)
 refine zD ?_
 (refine po_step rfl rfl (op_append (b := 40) hT rfl rfl rfl rfl rfl rfl (.inl (Nat.zero_lt_succ _)) rfl rfl (by simp only [List.length_map, List.length_cons, List.length_nil]; omega) (fun c1 _ hcap => ⟨zLok, ?_⟩)); refine zDn ?_)
 refine zD ?_
 (refine pw_mv 12 21 hD rfl rfl rfl rfl rfl ?_; refine pw_norm rfl ?_)
 (repeat' (first | refine zS ?_ | refine zq5 ?_ | refine zq6 ?_))
 exact ⟨_, eIntent { i with services := i.services ++ [⟨spL3.getD m1 [], [⟨4, [], pfx0, spP1.getD m2 0, ⟨m3, m4⟩⟩]⟩] }, _, rfl, ⟨j5, ⟨{ i with services := i.services ++ [⟨spL3.getD m1 [], [⟨4, [], pfx0, spP1.getD m2 0, ⟨m3, m4⟩⟩]⟩] }, hi.addS ⟨Nat.le_refl _, fun x hx => by rw [List.mem_singleton.1 hx]; exact ⟨⟨Int.le_refl 0, (by decide : (0 : Int) < 4294967296)⟩, Int.natCast_nonneg _⟩⟩, rfl⟩, hj5, rfl⟩, by (simp only [eIntent, List.map_append, List.map_cons, List.map_nil]; (refine .inr (.inr (.inr (.inr (.inl ⟨_, _, rfl, rfl, ?_⟩)))); (repeat (first | exact True.intro | refine ⟨.inr (.inl rfl), ?_⟩ | refine ⟨.inr (.inr (.inl ⟨rfl, rfl⟩)), ?_⟩ | refine ⟨.inr (.inr (.inr (.inl ⟨_, _, _, _, _, _, rfl, rfl, rfl, rfl, rfl⟩))), ?_⟩ | refine ⟨.inr (.inr (.inr (.inl ⟨_, _, _, _, _, _, rfl, rfl, rfl, (by simp only [List.length_map, List.length_append, List.length_cons, List.length_nil]), rfl⟩))), ?_⟩)))), ⟨.inr (.inl rfl), trivial⟩, rfl, rfl⟩
theorem spoil_3 (l : List Int) (hl : Tp l) : SpoilAt Gl l 3 := by
 intro j hj i n hn hi c B j0 hD hk
 have hg1 := hi.groups
 have hg2 := hi.services
 have hg3 := hi.windows
 have hg4 := hi.stms
 have hg5 := hi.pubs
 have hg6 := hi.hids
 unfold sst senv
 refine pw_code rfl ?_
 refine zNq ?_
 (repeat' (first | refine zS ?_ | refine zq5 ?_ | refine zq6 ?_))
 (refine pl_op rfl (zCl [0] e17 (c13d l hl j hj 14 (by decide)) (fun r s hq => ?_)); obtain ⟨rfl, rfl⟩ := hq; refine ⟨rfl, rfl, ?_⟩; (refine zNp ?_))
 have hj1 := nxI_le hj 14
 rw [hk]
 generalize nxI l j 14 = j1 at hj1 ⊢
 clear hk
 (repeat' (first | refine zS ?_ | refine zq5 ?_ | refine zq6 ?_))
 refine zDr [[0,1,2,3],[4],[5,6,7,8,9,10],[11],[12],[13]] ?_
 refine zDn ?_
 refine zD ?_
 (refine po_step rfl rfl (zCl [0] e17 (c13n l hl j1 hj1 3 (by decide) (by decide)) (fun r s hq => ?_)); obtain ⟨j2, ⟨m1, hm1, rfl⟩, hj2, rfl⟩ := hq; refine ⟨rfl, rfl, zLok, ?_⟩; refine zDn ?_)
 (refine po_val rfl rfl (v_index (p := .str (spL4.getD m1 [])) hT rfl rfl rfl rfl (by omega) (lit_at (.str) spL4 m1 [] hm1) rfl) ?_; refine zDn ?_)
 refine zD ?_
 (refine po_step rfl rfl (op_append (b := 40) hT rfl rfl rfl rfl rfl rfl (.inl (Nat.zero_lt_succ _)) rfl rfl (by simp only [List.length_map, List.length_cons, List.length_nil]; omega) (fun c1 _ hcap => ⟨zLok, ?_⟩)); refine zDn ?_)
 refine zD ?_
 (refine pw_mv 12 21 hD rfl rfl rfl rfl rfl ?_; refine pw_norm rfl ?_)
 (repeat' (first | refine zS ?_ | refine zq5 ?_ | refine zq6 ?_))
 exact ⟨_, eIntent { i with services := i.services ++ [⟨[115], [⟨3, spL4.getD m1 [], pfx0, 0, rng0⟩]⟩] }, _, rfl, ⟨j2, ⟨{ i with services := i.services ++ [⟨[115], [⟨3, spL4.getD m1 [], pfx0, 0, rng0⟩]⟩] }, hi.addS ⟨Nat.le_refl _, fun x hx => by rw [List.mem_singleton.1 hx]; exact ⟨⟨Int.le_refl 0, (by decide : (0 : Int) < 4294967296)⟩, Int.le_refl 0⟩⟩, rfl⟩, hj2, rfl⟩, by (simp only [eIntent, List.map_append, List.map_cons, List.map_nil]; (refine .inr (.inr (.inr (.inr (.inl ⟨_, _, rfl, rfl, ?_⟩)))); (repeat (first | exact True.intro | refine ⟨.inr (.inl rfl), ?_⟩ | refine ⟨.inr (.inr (.inl ⟨rfl, rfl⟩)), ?_⟩ | refine ⟨.inr (.inr (.inr (.inl ⟨_, _, _, _, _, _, rfl, rfl, rfl, rfl, rfl⟩))), ?_⟩ | refine ⟨.inr (.inr (.inr (.inl ⟨_, _, _, _, _, _, rfl, rfl, rfl, (by simp only [List.length_map, List.length_append, List.length_cons, List.length_nil]), rfl⟩))), ?_⟩)))), ⟨.inr (.inl rfl), trivial⟩, rfl, rfl⟩

end
end Go.Proofs.YtkaobkjcjodffaaGreatDoor