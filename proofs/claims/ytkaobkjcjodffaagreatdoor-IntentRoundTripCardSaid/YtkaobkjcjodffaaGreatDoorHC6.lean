/-
 Contracts of functions, walked over pure values.
-/
import Derived.Test.YtkaobkjcjodffaaGreatDoorHP3
import Derived.Test.YtkaobkjcjodffaaGreatDoorHK9
import Derived.Test.YtkaobkjcjodffaaGreatDoorHB6
set_option maxHeartbeats 20000000
set_option maxRecDepth 100000
namespace Go.Proofs.YtkaobkjcjodffaaGreatDoor
open Go Go.Pw
section
variable {Gl : Glob}
attribute [local irreducible] PW PWL OpP PCalls PWO PWT bothT
def names6 : List Str := [[114, 49], [114, 50], [114, 51], [114, 52], [114, 53], [114, 54]]
def caps6 : List Int := [4096, 400, 60, 20, 5, 0]
def cls3 : List Str := [[], [105, 112, 115], [100, 108, 112]]
def costs4 : List Int := [1, 2, 3, 1000]
def names5 : List Str := [[101, 49], [101, 50], [101, 51], [101, 52], [101, 53]]
def zones3 : List Str := [[108, 97, 110], [100, 109, 122], [110, 101, 116]]
def count6 : List Int := [2, 3, 4, 1, 5, 0]
def tol5 : List Int := [0, 1, 0, 1, 2]
structure DevG (i : Nat) (d : TDev) : Prop where
 name : d.name = names6.getD i []
 cap : d.cap ∈ caps6
 cls : d.cls ∈ cls3
structure LinkG (n : Nat) (x : TLink) : Prop where
 a0 : 0 ≤ x.a
 ab : x.a < x.b
 bn : x.b < n
 cost : x.cost ∈ costs4
structure EdgeG (n i : Nat) (e : TEdge) : Prop where
 name : e.name = names5.getD i []
 d0 : 0 ≤ e.dev
 dn : e.dev < n
 zone : e.zone ∈ zones3
 pfx : e.pfx = subnets.getD i ⟨0, 0⟩
 planned : e.planned = false
structure GTop (n : Nat) (t : Topo) : Prop where
 devs : ∀ (i : Nat) d, t.devs[i]? = some d → DevG i d
 links : ∀ x ∈ t.links, LinkG n x
 edges : ∀ (i : Nat) e, t.edges[i]? = some e → EdgeG n i e
theorem snoc_get {α : Type} {p : Nat → α → Prop} {l : List α} {x : α} (h : ∀ (i : Nat) d, l[i]? = some d → p i d) (hx : p l.length x) : ∀ (i : Nat) d, (l ++ [x])[i]? = some d → p i d := by
 intro i d hd
 rcases Nat.lt_trichotomy i l.length with h1 | h1 | h1
 ·rw [List.getElem?_append_left h1] at hd; exact h i d hd
 ·subst h1; simp at hd; subst hd; exact hx
 ·rw [List.getElem?_append_right (by omega), List.getElem?_eq_none (by simp; omega)] at hd; cases hd
def pool1 : TPfx := ⟨168296448, 22⟩
def pool2 : TPfx := ⟨167772672, 24⟩
structure TGen (n : Nat) (t : Topo) : Prop extends GTop n t where
 n1 : 1 ≤ n
 n6 : n ≤ 6
 dl : t.devs.length = n
 ll : t.links.length ≤ n + 3
 el : t.edges.length ≤ 5
 pools : t.pools = [] ∨ t.pools = [pool1] ∨ t.pools = [pool2] ∨ t.pools = [pool1, pool2]
 tol : t.tol ∈ tol5
def gbox : PObj := .box [.nilsl, .nilsl, .nilsl, .nilsl, .int .i64 0]
def gS (l : List Int) (t : Topo) (c : Caps) (j : Nat) : List PObj := tape l j :: gbox :: .box (mTopo 3 t c) :: aTopo t c
def GenPost (l : List Int) (φ : Topo → Prop) (r : PV) (s : List PObj) : Prop := ∃ (j : Nat) (t : Topo) (c : Caps), φ t ∧ j ≤ l.length ∧ r = .agg (mTopo 3 t c) ∧ s = tape l j :: .dead :: .dead :: aTopo t c
theorem c12 (l : List Int) (hl : Tp l) (j : Nat) (hj : j ≤ l.length) (n : Nat) (h1 : 1 ≤ n) (h2 : n ≤ 1000) : PCalls Tryz.prog Gl 13 [.ptr 0 0, .int .i64 n] [tape l j] (GenPost l fun t => ∃ m, m ≤ n ∧ TGen m t) := by
 refine PCalls.of hT Tryz.func13 rfl 7 (Nat.le_of_ble_eq_true rfl) fun B hD => ?_
 refine pw_norm rfl ?_
 (refine zGo ?_)
 (refine pl_op rfl (op_of (v_min rfl rfl rfl) ?_); (refine zNp ?_))
 have hmin : min (n : Int) 6 = ((min n 6 : Nat) : Int) := by omega
 rw [hmin]
 (refine pl_op rfl (zCl [0] e17 (c13n l hl j hj (min n 6) (by omega) (by omega)) (fun r s hq => ?_)); obtain ⟨j1, ⟨m1, hm1, rfl⟩, hj1, rfl⟩ := hq; refine ⟨rfl, rfl, ?_⟩; (refine zNp ?_))
 (refine zGo ?_)
 rw [show (1 : Int) + (m1 : Int) = ((1 + m1 : Nat) : Int) by omega]
 generalize hmm : 1 + m1 = m
 have hm : 1 ≤ m ∧ m ≤ 6 ∧ m ≤ n := by omega
 clear hmin hm1 hmm
 refine pw_ghost 5 ?_
 refine pw_ghost 3 ?_
 refine pw_ghost 6 ?_
 refine pw_ghost 2 ?_
 refine pw_norm rfl ?_
 refine pw_for hD (fun a : Nat × Topo × Caps × Nat => [(6, .int .i64 a.1)]) (fun a => gS l a.2.1 a.2.2.1 a.2.2.2)
  (fun a => a.1 ≤ m ∧ a.2.2.2 ≤ l.length ∧ GTop m a.2.1 ∧ a.2.1.devs.length = a.1 ∧ a.2.1.links.length ≤ a.1 ∧ a.2.1.edges = [] ∧ a.2.1.pools = []) (fun a => m - a.1) (0, ⟨[], [], [], [], 0⟩, (0, 0, 0, 0), j1) ⟨by omega, hj1, ⟨by simp, by simp, by simp⟩, rfl, Nat.le_refl _, rfl, rfl⟩ 7 rfl (fun _ => rfl)
  ⟨.inl rfl, .inl rfl, .inr (.inr ⟨_, _, rfl, rfl, zLe⟩), .inl rfl, .inl rfl, .inl rfl, .inl rfl, trivial⟩ (fun _ => rfl) (fun _ => rfl) zLe ?_
 rintro ⟨i, t, c, j⟩ ⟨hi, hj, ht, hdl, hll, hee, hpe⟩
 dsimp only at hi hj ht hdl hll hee hpe ⊢
 (refine zGo ?_)
 refine pw_cond rfl (fun h => ?_) (fun h => ?_)
 ·simp only [decide_eq_true_eq] at h
  have him : i < m := by omega
  (refine zGo ?_)
  refine pw_joinX hD (fun x : Nat × Nat => x.1 < 6 ∧ x.2 ≤ l.length) (fun _ => [(7, .ptr 7 0)]) (fun x => gS l t c x.2 ++ [.box [.str (names6.getD i []), .int .i64 (caps6.getD x.1 0), .bool false, .bool false, .str []]]) 8 rfl (fun _ => rfl) (fun _ => rfl) (fun _ => rfl) ?_ ?_
  ·refine pw_drawF [(0, true), (1, true), (2, true), (3, true), (4, true), (5, true)] 6 [(7, true), (8, true), (9, true), (10, false), (11, false)] 10 [(6, false), (7, true), (8, true), (9, true), (11, false)] hmix (by decide +kernel) ?_
   (refine zDgo ?_)
   (refine po_make rfl rfl (fun st' K hK => op_litF hT rfl rfl rfl rfl rfl (by decide) rfl rfl rfl rfl hK) ?_; refine zDn ?_)
   (refine zDgo ?_)
   (refine po_val rfl rfl (v_index (p := .str (names6.getD i [])) hT rfl rfl rfl rfl (by omega) (lit_at .str names6 i [] (by show i < 6; omega)) rfl) ?_; refine zDn ?_)
   (refine zDgo ?_)
   (refine po_make rfl rfl (fun st' K hK => op_litF hT rfl rfl rfl rfl rfl (by decide) rfl rfl rfl rfl hK) ?_; refine zDn ?_)
   (refine zDgo ?_)
   refine ⟨?_, ?_⟩
   ·(refine po_step rfl rfl (zCl [0] e17 (c13n l hl j hj 6 (by decide) (by decide)) (fun r s hq => ?_)); obtain ⟨j2, ⟨k, hk, rfl⟩, hj2, rfl⟩ := hq; refine ⟨rfl, rfl, zLok, ?_⟩; refine zDn ?_)
    (refine zDgo ?_)
    (refine po_val rfl rfl (v_index (p := .int .i64 (caps6.getD k 0)) hT rfl rfl rfl rfl (by omega) (lit_at (.int .i64) caps6 k 0 hk) rfl) ?_; refine zDn ?_)
    (refine zDgo ?_)
    exact ⟨(k, j2), ⟨hk, hj2⟩, zLe, zLes⟩
   ·(refine zDgo ?_)
    (refine po_step rfl rfl (zCl [0] e17 (c13n l hl j hj 6 (by decide) (by decide)) (fun r s hq => ?_)); obtain ⟨j2, ⟨k, hk, rfl⟩, hj2, rfl⟩ := hq; refine ⟨rfl, rfl, zLok, ?_⟩; refine zDn ?_)
    (refine zDgo ?_)
    (refine po_val rfl rfl (v_index (p := .int .i64 (caps6.getD k 0)) hT rfl rfl rfl rfl (by omega) (lit_at (.int .i64) caps6 k 0 hk) rfl) ?_; refine zDn ?_)
    (refine zDgo ?_)
    exact ⟨(k, j2), ⟨hk, hj2⟩, zLe, zLes⟩
  rintro ⟨k, j2⟩ ⟨hk, hj2⟩
  dsimp only at hk hj2 ⊢
  have hcapM : caps6.getD k 0 ∈ caps6 := getD_mem hk
  generalize caps6.getD k 0 = cap at hcapM ⊢
  (refine zGo ?_)
  (refine pl_op rfl (zCl [0] e17 (c13n l hl j2 hj2 3 (by decide) (by decide)) (fun r s hq => ?_)); obtain ⟨j3, ⟨k3, hk3, rfl⟩, hj3, rfl⟩ := hq; refine ⟨rfl, rfl, ?_⟩; (refine zNp ?_))
  (refine zGo ?_)
  (refine pl_op rfl (zCl [0] e17 (c13n l hl j3 hj3 3 (by decide) (by decide)) (fun r s hq => ?_)); obtain ⟨j4, ⟨k4, hk4, rfl⟩, hj4, rfl⟩ := hq; refine ⟨rfl, rfl, ?_⟩; (refine zNp ?_))
  (refine zGo ?_)
  (refine pl_op rfl (zCl [0] e17 (c13n l hl j4 hj4 3 (by decide) (by decide)) (fun r s hq => ?_)); obtain ⟨j5, ⟨k5, hk5, rfl⟩, hj5, rfl⟩ := hq; refine ⟨rfl, rfl, ?_⟩; (refine zNp ?_))
  (refine pl_op rfl (op_of (v_index (p := .str (cls3.getD k5 [])) hT rfl rfl rfl rfl (by omega) (lit_at .str cls3 k5 [] hk5) rfl) ?_); (refine zNp ?_))
  (refine zGo ?_)
  have hcls : cls3.getD k5 [] ∈ cls3 := getD_mem hk5
  generalize cls3.getD k5 [] = cls at hcls ⊢
  (refine pl_append (b := 48) hT hD rfl rfl rfl rfl rfl rfl rfl rfl (.inl (Nat.zero_lt_succ _)) rfl rfl (by simp; omega) (fun cap' _ hcap => ?_); (refine zNp ?_))
  (refine zGo ?_)
  have hd2 := snoc_get (p := DevG) (x := ⟨names6.getD i [], cap, (k3 : Int) == 1, (k4 : Int) == 1, cls⟩) ht.devs ⟨by rw [hdl], hcapM, hcls⟩
  refine pw_cond rfl (fun h3 => ?_) (fun h3 => ?_)
  ·have hi0 : 0 < i := by simpa using h3
   (refine zGo ?_)
   refine zDr [[0,1,2,3,5,6,7],[4,8],[9,10,11,12],[13],[14],[15]] ?_
   (refine zDgo ?_)
   (refine po_make rfl rfl (fun st' K hK => op_litF hT rfl rfl rfl rfl rfl (by decide) rfl rfl rfl rfl hK) ?_; refine zDn ?_)
   (refine zDgo ?_)
   (refine po_step rfl rfl (zCl [0] e17 (c13n l hl j5 hj5 i hi0 (by omega)) (fun r s hq => ?_)); obtain ⟨j6, ⟨k6, hk6, rfl⟩, hj6, rfl⟩ := hq; refine ⟨rfl, rfl, zLok, ?_⟩; refine zDn ?_)
   (refine zDgo ?_)
   (refine po_step rfl rfl (zCl [0] e17 (c13n l hl j6 hj6 4 (by decide) (by decide)) (fun r s hq => ?_)); obtain ⟨j7, ⟨k7, hk7, rfl⟩, hj7, rfl⟩ := hq; refine ⟨rfl, rfl, zLok, ?_⟩; refine zDn ?_)
   (refine zDgo ?_)
   (refine po_val rfl rfl (v_index (p := .int .i64 (costs4.getD k7 0)) hT rfl rfl rfl rfl (by omega) (lit_at (.int .i64) costs4 k7 0 hk7) rfl) ?_; refine zDn ?_)
   (refine zDgo ?_)
   have hcost : costs4.getD k7 0 ∈ costs4 := getD_mem hk7
   (refine po_make rfl rfl (fun st' K hK => op_litF hT rfl rfl rfl rfl rfl (by decide) rfl rfl rfl rfl hK) ?_; refine zDn ?_)
   (refine zDgo ?_)
   (refine po_step rfl rfl (op_append (b := 24) hT rfl rfl rfl rfl rfl rfl (.inl (Nat.zero_lt_succ _)) rfl rfl (by simp; omega) (fun cap2 _ hcap => ⟨zLok, ?_⟩)); refine zDn ?_)
   (refine zDgo ?_)
   (refine pw_mv 4 8 hD rfl rfl rfl rfl rfl ?_; refine pw_norm rfl ?_)
   (refine zGo ?_)
   refine ⟨(i + 1, { t with devs := t.devs ++ [⟨names6.getD i [], cap, (k3 : Int) == 1, (k4 : Int) == 1, cls⟩], links := t.links ++ [⟨k6, i, costs4.getD k7 0⟩] }, (cap', cap2, c.2.2), j7), ⟨him, hj7, ⟨hd2, ?_, ht.edges⟩, by simp [hdl], by simp; omega, hee, hpe⟩, by show m - (i + 1) < m - i; omega, zLe, ?_⟩
   ·intro x hx
    rcases List.mem_append.1 hx with hx | hx
    ·exact ht.links x hx
    ·rw [List.mem_singleton] at hx; subst hx
     exact ⟨by simp, by show (k6 : Int) < i; omega, by show (i : Int) < m; omega, hcost⟩
   ·simp only [gS, mTopo, aTopo, List.map_append, List.length_append]
    (exact zLes)
  ·(refine zGo ?_)
   refine ⟨(i + 1, { t with devs := t.devs ++ [⟨names6.getD i [], cap, (k3 : Int) == 1, (k4 : Int) == 1, cls⟩] }, (cap', c.2), j5), ⟨him, hj5, ⟨hd2, ht.links, ht.edges⟩, by simp [hdl], by show t.links.length ≤ i + 1; omega, hee, hpe⟩, by show m - (i + 1) < m - i; omega, zLe, ?_⟩
   simp only [gS, mTopo, aTopo, List.map_append, List.length_append]
   (exact zLes)
 ·simp only [decide_eq_false_iff_not] at h
  have hie : i = m := by omega
  subst hie
  clear h hi
  (refine zGo ?_)
  (refine pl_op rfl (zCl [0] e17 (c13n l hl j hj 4 (by decide) (by decide)) (fun r s hq => ?_)); obtain ⟨j2, ⟨k, hk, rfl⟩, hj2, rfl⟩ := hq; refine ⟨rfl, rfl, ?_⟩; (refine zNp ?_))
  (refine zGo ?_)
  refine pw_for hD (fun a : Nat × Topo × Caps × Nat => [(8, .int .i64 a.1)]) (fun a => gS l a.2.1 a.2.2.1 a.2.2.2)
   (fun a => a.1 ≤ 3 ∧ a.2.2.2 ≤ l.length ∧ GTop i a.2.1 ∧ a.2.1.devs.length = i ∧ a.2.1.links.length + a.1 ≤ i + 3 ∧ a.2.1.edges = [] ∧ a.2.1.pools = []) (fun a => a.1) (k, t, c, j2) ⟨by show k ≤ 3; omega, hj2, ht, hdl, by show t.links.length + k ≤ i + 3; omega, hee, hpe⟩ 7 rfl (fun _ => rfl)
   zLes (fun _ => rfl) (fun _ => rfl) zLe ?_
  clear ht hdl hll hee hpe
  rintro ⟨k, t, c, j⟩ ⟨hk, hj, ht, hdl, hll, hee, hpe⟩
  dsimp only at hk hj ht hdl hll hee hpe ⊢
  (refine zGo ?_)
  (refine pl_and 3 73 76 (decide ((i : Int) > 1)) rfl rfl rfl (fun hb => ?_) (fun hb => ?_) ?_; (focus ((refine zNp ?_); (refine zGo ?_); exact ⟨zLe, StLe.refl _⟩)); (focus ((refine zNp ?_); (refine zGo ?_); exact ⟨zLe, StLe.refl _⟩)); (refine zNp ?_); (refine zGo ?_))
  refine pw_cond rfl (fun h => ?_) (fun h => ?_)
  ·simp only [Bool.and_eq_true, decide_eq_true_eq] at h
   have hk0 : 0 < k := by omega
   have hi1 : 1 < i := by omega
   (refine zGo ?_)
   rw [show (i : Int) - 1 = ((i - 1 : Nat) : Int) by omega]
   (refine pl_op rfl (zCl [0] e17 (c13n l hl j hj (i - 1) (by omega) (by omega)) (fun r s hq => ?_)); obtain ⟨j3, ⟨k3, hk3, rfl⟩, hj3, rfl⟩ := hq; refine ⟨rfl, rfl, ?_⟩; (refine zNp ?_))
   (refine zGo ?_)
   rw [show (1 : Int) + (k3 : Int) = ((1 + k3 : Nat) : Int) by omega]
   generalize hbb : 1 + k3 = b
   have hb : 0 < b ∧ b < i := by omega
   refine zDr [[0,1,2,3,5,6,7],[4,8],[9,10,11,12],[13],[14],[15]] ?_
   (refine zDgo ?_)
   (refine po_make rfl rfl (fun st' K hK => op_litF hT rfl rfl rfl rfl rfl (by decide) rfl rfl rfl rfl hK) ?_; refine zDn ?_)
   (refine zDgo ?_)
   (refine po_step rfl rfl (zCl [0] e17 (c13n l hl j3 hj3 b hb.1 (by omega)) (fun r s hq => ?_)); obtain ⟨j4, ⟨k4, hk4, rfl⟩, hj4, rfl⟩ := hq; refine ⟨rfl, rfl, zLok, ?_⟩; refine zDn ?_)
   (refine zDgo ?_)
   (refine po_step rfl rfl (zCl [0] e17 (c13n l hl j4 hj4 4 (by decide) (by decide)) (fun r s hq => ?_)); obtain ⟨j5, ⟨k5, hk5, rfl⟩, hj5, rfl⟩ := hq; refine ⟨rfl, rfl, zLok, ?_⟩; refine zDn ?_)
   (refine zDgo ?_)
   (refine po_val rfl rfl (v_index (p := .int .i64 (costs4.getD k5 0)) hT rfl rfl rfl rfl (by omega) (lit_at (.int .i64) costs4 k5 0 hk5) rfl) ?_; refine zDn ?_)
   (refine zDgo ?_)
   have hcost : costs4.getD k5 0 ∈ costs4 := getD_mem hk5
   (refine po_make rfl rfl (fun st' K hK => op_litF hT rfl rfl rfl rfl rfl (by decide) rfl rfl rfl rfl hK) ?_; refine zDn ?_)
   (refine zDgo ?_)
   (refine po_step rfl rfl (op_append (b := 24) hT rfl rfl rfl rfl rfl rfl (.inl (Nat.zero_lt_succ _)) rfl rfl (by simp; omega) (fun cap2 _ hcap => ⟨zLok, ?_⟩)); refine zDn ?_)
   (refine zDgo ?_)
   (refine pw_mv 4 7 hD rfl rfl rfl rfl rfl ?_; refine pw_norm rfl ?_)
   (refine zGo ?_)
   rw [show (k : Int) - 1 = ((k - 1 : Nat) : Int) by omega]
   refine ⟨(k - 1, { t with links := t.links ++ [⟨k4, b, costs4.getD k5 0⟩] }, (c.1, cap2, c.2.2), j5), ⟨by show k - 1 ≤ 3; omega, hj5, ⟨ht.devs, ?_, ht.edges⟩, hdl, by simp; omega, hee, hpe⟩, by show k - 1 < k; omega, zLe, ?_⟩
   ·intro x hx
    rcases List.mem_append.1 hx with hx | hx
    ·exact ht.links x hx
    ·rw [List.mem_singleton] at hx; subst hx
     exact ⟨by simp, by show (k4 : Int) < b; omega, by show (b : Int) < i; omega, hcost⟩
   ·simp only [gS, mTopo, aTopo, List.map_append, List.length_append]
    (exact zLes)
  clear h hk
  have hll2 : t.links.length ≤ i + 3 := by omega
  clear hll
  (refine zGo ?_)
  (refine pl_op rfl (zCl [0] e17 (c13n l hl j hj 6 (by decide) (by decide)) (fun r s hq => ?_)); obtain ⟨j2, ⟨k2, hk2, rfl⟩, hj2, rfl⟩ := hq; refine ⟨rfl, rfl, ?_⟩; (refine zNp ?_))
  (refine pl_op rfl (op_of (v_index (p := .int .i64 (count6.getD k2 0)) hT rfl rfl rfl rfl (by omega) (lit_at (.int .i64) count6 k2 0 hk2) rfl) ?_); (refine zNp ?_))
  obtain ⟨e, he5, hee2⟩ : ∃ e : Nat, e ≤ 5 ∧ count6.getD k2 0 = e := by
   have : ∀ x ∈ count6, 0 ≤ x ∧ x ≤ 5 := by decide
   have := this _ (getD_mem (d := 0) hk2)
   exact ⟨(count6.getD k2 0).toNat, by omega, by omega⟩
  rw [hee2]
  clear hee2 hk2
  (refine zGo ?_)
  refine pw_for hD (fun a : Nat × Topo × Caps × Nat => [(11, .int .i64 a.1)]) (fun a => gS l a.2.1 a.2.2.1 a.2.2.2)
   (fun a => a.1 ≤ e ∧ a.2.2.2 ≤ l.length ∧ GTop i a.2.1 ∧ a.2.1.devs.length = i ∧ a.2.1.links.length ≤ i + 3 ∧ a.2.1.edges.length = a.1 ∧ a.2.1.pools = []) (fun a => e - a.1) (0, t, c, j2) ⟨Nat.zero_le _, hj2, ht, hdl, hll2, by rw [hee]; rfl, hpe⟩ 7 rfl (fun _ => rfl)
   zLes (fun _ => rfl) (fun _ => rfl) zLe ?_
  clear ht hdl hll2 hee hpe
  rintro ⟨k, t, c, j⟩ ⟨hk, hj, ht, hdl, hll, hee, hpe⟩
  dsimp only at hk hj ht hdl hll hee hpe ⊢
  (refine zGo ?_)
  refine pw_cond rfl (fun h => ?_) (fun h => ?_)
  ·simp only [decide_eq_true_eq] at h
   have hke : k < e := by omega
   (refine zGo ?_)
   refine zDr [[0,1,2,3,4,5,6,7,9,10,14],[8,11],[12,13],[15],[16,17],[18],[19],[20]] ?_
   (refine zDgo ?_)
   (refine po_make rfl rfl (fun st' K hK => op_litF hT rfl rfl rfl rfl rfl (by decide) rfl rfl rfl rfl hK) ?_; refine zDn ?_)
   (refine zDgo ?_)
   (refine po_val rfl rfl (v_index (p := .str (names5.getD k [])) hT rfl rfl rfl rfl (by omega) (lit_at .str names5 k [] (by show k < 5; omega)) rfl) ?_; refine zDn ?_)
   (refine zDgo ?_)
   (refine po_make rfl rfl (fun st' K hK => op_litF hT rfl rfl rfl rfl rfl (by decide) rfl rfl rfl rfl hK) ?_; refine zDn ?_)
   (refine zDgo ?_)
   (refine po_step rfl rfl (zCl [0] e17 (c13n l hl j hj i (by omega) (by omega)) (fun r s hq => ?_)); obtain ⟨j3, ⟨k3, hk3, rfl⟩, hj3, rfl⟩ := hq; refine ⟨rfl, rfl, zLok, ?_⟩; refine zDn ?_)
   (refine zDgo ?_)
   (refine po_step rfl rfl (zCl [0] e17 (c13n l hl j3 hj3 3 (by decide) (by decide)) (fun r s hq => ?_)); obtain ⟨j4, ⟨k4, hk4, rfl⟩, hj4, rfl⟩ := hq; refine ⟨rfl, rfl, zLok, ?_⟩; refine zDn ?_)
   (refine zDgo ?_)
   (refine po_val rfl rfl (v_index (p := .str (zones3.getD k4 [])) hT rfl rfl rfl rfl (by omega) (lit_at .str zones3 k4 [] hk4) rfl) ?_; refine zDn ?_)
   (refine zDgo ?_)
   (refine po_step rfl rfl (op_fun (c37s k) rfl rfl e43 zLe rfl (fun r hr => ?_)); subst hr; refine ⟨rfl, zLok, ?_⟩; refine zDn ?_)
   (refine zDgo ?_)
   (refine po_make rfl rfl (fun st' K hK => op_litF hT rfl rfl rfl rfl rfl (by decide) rfl rfl rfl rfl hK) ?_; refine zDn ?_)
   (refine zDgo ?_)
   (refine po_step rfl rfl (op_append (b := 64) hT rfl rfl rfl rfl rfl rfl (.inl (Nat.zero_lt_succ _)) rfl rfl (by simp; omega) (fun cap2 _ hcap => ⟨zLok, ?_⟩)); refine zDn ?_)
   (refine zDgo ?_)
   (refine pw_mv 5 7 hD rfl rfl rfl rfl rfl ?_; refine pw_norm rfl ?_)
   (refine zGo ?_)
   have hz : zones3.getD k4 [] ∈ zones3 := getD_mem hk4
   have he2 := snoc_get (p := EdgeG i) (x := ⟨names5.getD k [], k3, zones3.getD k4 [], subnetN k, false⟩) ht.edges ⟨by rw [hee], by simp, by show (k3 : Int) < i; omega, hz, by rw [hee]; exact subnetN_small k (by omega), rfl⟩
   refine ⟨(k + 1, { t with edges := t.edges ++ [⟨names5.getD k [], k3, zones3.getD k4 [], subnetN k, false⟩] }, (c.1, c.2.1, cap2, c.2.2.2), j4), ⟨hke, hj4, ⟨ht.devs, ht.links, he2⟩, hdl, hll, by simp [hee], hpe⟩, by show e - (k + 1) < e - k; omega, zLe, ?_⟩
   simp only [gS, mTopo, aTopo, List.map_append, List.length_append]
   (exact zLes)
  simp only [decide_eq_false_iff_not] at h
  have hel : t.edges.length ≤ 5 := by omega
  clear h hk hee
  obtain ⟨devs, links, edges, pools, tol⟩ := t
  dsimp only at hdl hll hpe hel ⊢
  subst hpe
  (refine zGo ?_)
  (refine pl_op rfl (zCl [0] e17 (c13n l hl j hj 2 (by decide) (by decide)) (fun r s hq => ?_)); obtain ⟨j2, ⟨k2, hk2, rfl⟩, hj2, rfl⟩ := hq; refine ⟨rfl, rfl, ?_⟩; (refine zNp ?_))
  (refine zGo ?_)
  refine pw_joinX hD (fun x : List TPfx × Nat => x.1 = [] ∨ x.1 = [pool1]) (fun _ => []) (fun x => gS l ⟨devs, links, edges, x.1, tol⟩ (c.1, c.2.1, c.2.2.1, x.2) j2) 7 rfl (fun _ => rfl) (fun _ => rfl) (fun _ => rfl) ?_ ?_
  ·refine pw_cond rfl (fun h => ?_) (fun h => ?_)
   ·(refine zGo ?_)
    (refine pl_append (b := 16) hT hD rfl rfl rfl rfl rfl rfl rfl rfl (.inl (Nat.zero_lt_succ _)) rfl rfl (by simp <;> omega) (fun cap2 _ hcap => ?_); (refine zNp ?_))
    (refine zGo ?_)
    exact ⟨([pool1], cap2), .inr rfl, zLe, zLes⟩
   ·(refine zGo ?_)
    exact ⟨([], c.2.2.2), .inl rfl, zLe, zLes⟩
  rintro ⟨pools, pc⟩ hp
  dsimp only at hp ⊢
  have hpl : pools.length ≤ 1 := by rcases hp with rfl | rfl <;> decide
  (refine zGo ?_)
  (refine pl_op rfl (zCl [0] e17 (c13n l hl j2 hj2 3 (by decide) (by decide)) (fun r s hq => ?_)); obtain ⟨j3, ⟨k3, hk3, rfl⟩, hj3, rfl⟩ := hq; refine ⟨rfl, rfl, ?_⟩; (refine zNp ?_))
  (refine zGo ?_)
  refine pw_joinX hD (fun x : List TPfx × Nat => x.1 = [] ∨ x.1 = [pool1] ∨ x.1 = [pool2] ∨ x.1 = [pool1, pool2]) (fun _ => []) (fun x => gS l ⟨devs, links, edges, x.1, tol⟩ (c.1, c.2.1, c.2.2.1, x.2) j3) 7 rfl (fun _ => rfl) (fun _ => rfl) (fun _ => rfl) ?_ ?_
  ·refine pw_cond rfl (fun h => ?_) (fun h => ?_)
   ·(refine zGo ?_)
    (refine pl_append (b := 16) hT hD rfl rfl rfl rfl rfl rfl rfl rfl (.inl (Nat.zero_lt_succ _)) rfl rfl (by simp; omega) (fun cap2 _ hcap => ?_); (refine zNp ?_))
    (refine zGo ?_)
    refine ⟨(pools ++ [pool2], cap2), by rcases hp with rfl | rfl <;> simp, zLe, ?_⟩
    simp only [gS, mTopo, aTopo, List.map_append, List.length_append]
    (exact zLes)
   ·(refine zGo ?_)
    exact ⟨(pools, pc), by rcases hp with rfl | rfl <;> simp, zLe, zLes⟩
  clear hp
  rintro ⟨pools, pc⟩ hp
  dsimp only at hp ⊢
  (refine zGo ?_)
  (refine pl_op rfl (zCl [0] e17 (c13n l hl j3 hj3 5 (by decide) (by decide)) (fun r s hq => ?_)); obtain ⟨j4, ⟨k4, hk4, rfl⟩, hj4, rfl⟩ := hq; refine ⟨rfl, rfl, ?_⟩; (refine zNp ?_))
  (refine pl_op rfl (op_of (v_index (p := .int .i64 (tol5.getD k4 0)) hT rfl rfl rfl rfl (by omega) (lit_at (.int .i64) tol5 k4 0 hk4) rfl) ?_); (refine zNp ?_))
  (refine zGo ?_)
  have htol : tol5.getD k4 0 ∈ tol5 := getD_mem hk4
  exact ⟨_, _, _, rfl, ⟨j4, ⟨devs, links, edges, pools, tol5.getD k4 0⟩, (c.1, c.2.1, c.2.2.1, pc), ⟨i, hm.2.2, ⟨⟨ht.devs, ht.links, ht.edges⟩, hm.1, hm.2.1, hdl, hll, hel, hp, htol⟩⟩, hj4, rfl, rfl⟩, .inr (.inl rfl), ⟨.inr (.inl rfl), .inl rfl, .inl rfl, .inr (.inl rfl), .inr (.inl rfl), .inr (.inl rfl), .inr (.inl rfl), trivial⟩, rfl, rfl⟩
def nums17 (top : Int) : List Int := [0, 1, 2, 5, 7, 8, 9, 15, 16, 80, 255, 256, 1024, 65535, top / 2, top - 1, top]
theorem nums17_ok {top : Int} (h : 1 ≤ top) : ∀ v ∈ nums17 top, 0 ≤ v := by
 intro v hv
 simp only [nums17, List.mem_cons, List.mem_nil_iff, or_false] at hv
 omega
theorem c_gNumber (l : List Int) (hl : Tp l) (i : Nat) (hi : i ≤ l.length) (top : Int) (h1 : 1 ≤ top) (h2 : top < 4294967296) : Gen Gl 42 [.int .u32 top] l i fun r => ∃ v : Int, (0 ≤ v ∧ v ≤ top) ∧ r = .int .u32 v := by
 refine PCalls.of hT Tryz.func42 rfl 1 (Nat.le_refl _) fun B hD => ?_
 refine pw_norm rfl ?_
 (repeat' (first | refine zS ?_ | (refine zT ?_ ?_ <;> intro h <;> first | exact zX | refine zNq ?_)))
 (refine pl_op rfl (zCl [0] e17 (c13n l hl i hi 17 (by decide) (by decide)) (fun r s hq => ?_)); obtain ⟨i1, ⟨m, hm, rfl⟩, hi1, rfl⟩ := hq; refine ⟨rfl, rfl, ?_⟩; (refine zNp ?_))
 (refine pl_op rfl (op_of (v_index (p := .int .u32 ((nums17 top).getD m 0)) hT rfl rfl rfl rfl (by omega) (lit_at (.int .u32) (nums17 top) m 0 hm) rfl) ?_); (refine zNp ?_))
 have hv := nums17_ok h1 ((nums17 top).getD m 0) (getD_mem hm)
 generalize (nums17 top).getD m 0 = v at hv
 (repeat' (first | refine zS ?_ | (refine zT ?_ ?_ <;> intro h <;> first | exact zX | refine zNq ?_)))
 (refine pl_op rfl (op_of (v_min rfl rfl rfl) ?_); (refine zNp ?_))
 (repeat' (first | refine zS ?_ | (refine zT ?_ ?_ <;> intro h <;> first | exact zX | refine zNq ?_)))
 exact ⟨_, _, _, rfl, ⟨i1, ⟨min v top, by omega, rfl⟩, hi1, rfl⟩, .inr (.inl rfl), ⟨.inr (.inl rfl), trivial⟩, rfl, rfl⟩
theorem c_gRange (l : List Int) (hl : Tp l) (i : Nat) (hi : i ≤ l.length) (top : Int) (h1 : 1 ≤ top) (h2 : top < 4294967296) : Gen Gl 38 [.int .u32 top] l i fun r => ∃ x : TRng, (0 ≤ x.lo ∧ x.lo ≤ x.hi ∧ x.hi ≤ top) ∧ r = eRng x := by
 refine PCalls.of hT Tryz.func38 rfl 1 (Nat.le_refl _) fun B hD => ?_
 refine pw_norm rfl ?_
 (repeat' (first | refine zS ?_ | (refine zT ?_ ?_ <;> intro h <;> first | exact zX | refine zNq ?_)))
 (refine pl_op rfl (zCl [0] e42 (c_gNumber l hl i hi top h1 h2) (fun r s hq => ?_)); obtain ⟨i1, ⟨a, ha, rfl⟩, hi1, rfl⟩ := hq; refine ⟨rfl, rfl, ?_⟩; (refine zNp ?_))
 (repeat' (first | refine zS ?_ | (refine zT ?_ ?_ <;> intro h <;> first | exact zX | refine zNq ?_)))
 (refine pl_op rfl (zCl [0] e42 (c_gNumber l hl i1 hi1 top h1 h2) (fun r s hq => ?_)); obtain ⟨i2, ⟨b, hb, rfl⟩, hi2, rfl⟩ := hq; refine ⟨rfl, rfl, ?_⟩; (refine zNp ?_))
 (repeat' (first | refine zS ?_ | (refine zT ?_ ?_ <;> intro h <;> first | exact zX | refine zNq ?_)))
 (refine pl_op rfl (op_of (v_min rfl rfl rfl) ?_); (refine zNp ?_))
 (repeat' (first | refine zS ?_ | (refine zT ?_ ?_ <;> intro h <;> first | exact zX | refine zNq ?_)))
 (refine pl_op rfl (op_of (v_max rfl rfl rfl) ?_); (refine zNp ?_))
 (repeat' (first | refine zS ?_ | (refine zT ?_ ?_ <;> intro h <;> first | exact zX | refine zNq ?_)))
 exact ⟨_, _, _, rfl, ⟨i2, ⟨⟨min a b, max a b⟩, by dsimp only; omega, rfl⟩, hi2, rfl⟩, .inr (.inl rfl), ⟨.inr (.inl rfl), trivial⟩, rfl, rfl⟩
theorem c_gPick (l : List Int) (hl : Tp l) (i : Nat) (hi : i ≤ l.length) (ds : List TDef) (hd : ds.length < 900) : Gen Gl 88 [.sl (ds.map eDef)] l i fun r => ∃ s : Str, (s = [] ∨ ∃ d ∈ ds, s = d.name) ∧ r = .str s := by
 refine PCalls.of hT Tryz.func88 rfl 1 (Nat.le_refl _) fun B hD => ?_
 refine pw_norm rfl ?_
 (repeat' (first | refine zS ?_ | (refine zT ?_ ?_ <;> intro h <;> first | exact zX | refine zNq ?_)))
 (refine pl_op rfl (zCl [0] e17 (c13n l hl i hi (ds.length + 2) (by omega) (by omega)) (fun r s hq => ?_)); obtain ⟨i1, ⟨m, hm, rfl⟩, hi1, rfl⟩ := hq; refine ⟨rfl, rfl, ?_⟩; (refine zNp ?_))
 (repeat' (first | refine zS ?_ | (refine zT ?_ ?_ <;> intro h <;> first | exact zX | refine zNq ?_)))
 ·exact ⟨_, _, _, rfl, ⟨i1, ⟨[], .inl rfl, rfl⟩, hi1, rfl⟩, .inr (.inl rfl), ⟨.inr (.inl rfl), trivial⟩, rfl, rfl⟩
 ·have hm2 : m < ds.length := by omega
  refine ⟨_, _, _, rfl, ⟨i1, ⟨(ds.getD m default).name, .inr ⟨_, ?_, rfl⟩, rfl⟩, hi1, rfl⟩, .inr (.inl rfl), ⟨.inr (.inl rfl), trivial⟩, rfl, rfl⟩
  rw [List.getD, List.getElem?_eq_getElem hm2]
  exact List.getElem_mem hm2
attribute [local irreducible] vname pvalid rvalid
def eqI (x y : TItem) : Bool := (x.kind == y.kind) && ((x.name == y.name) && (((x.pfx.addr == y.pfx.addr) && ((x.pfx.bits == y.pfx.bits) && true)) && ((x.proto == y.proto) && (((x.ports.lo == y.ports.lo) && ((x.ports.hi == y.ports.hi) && true)) && true))))
def eqR (x y : TRng) : Bool := (x.lo == y.lo) && ((x.hi == y.hi) && true)
def vPorts (proto : Int) (p : TRng) : Bool := if proto = 6 ∨ proto = 17 then decide (p.lo ≤ p.hi) && decide (p.hi ≤ 65535) else if proto = 1 then eqR p ⟨8, 8⟩ else (decide (proto ≥ 0) && decide (proto ≤ 255)) && eqR p rng0
theorem c_validPorts (proto : Int) (p : TRng) : PFun Tryz.prog Gl 156 [.int .i64 proto, eRng p] fun r => r = .bool (vPorts proto p) := by
 (refine PFun.of hT Tryz.func156 rfl fun B hD => ?_; refine pw_norm rfl ?_)
 unfold vPorts
 (repeat' (first | refine zS ?_ | refine zq5 ?_ | refine zq6 ?_ | (refine zT ?_ ?_ <;> intro h <;> first | exact zX | refine zNq ?_)))
 ·rw [if_pos (.inl h)]; exact ret2 _ rfl rfl rfl
 ·rw [if_pos (.inr h)]; exact ret2 _ rfl rfl rfl
 ·rename_i g1 g2; rw [if_neg (by rintro (q | q); exact g1 q; exact g2 q), if_pos h]; exact ret2 _ rfl rfl rfl
 ·rename_i g1 g2; rw [if_neg (by rintro (q | q); exact g1 q; exact g2 q), if_neg h]; exact ret2 _ rfl rfl rfl
instance iValidPorts (proto : Int) (p : TRng) : ConF Tryz.prog Gl 156 [.int .i64 proto, .agg [.int .u32 p.lo, .int .u32 p.hi]] True (.bool (vPorts proto p)) := ⟨e156, fun _ => c_validPorts proto p⟩
instance iPValid (p : TPfx) : ConF Tryz.prog Gl 148 [.agg [.int .u32 p.addr, .int .i64 p.bits]] True (.bool (pvalid p)) := ⟨e148, fun _ => c45 p⟩
instance iRPValid (p : TPfx) : ConF Tryz.prog Gl 89 [.agg [.int .u32 p.addr, .int .i64 p.bits]] True (.bool (rvalid p)) := ⟨e89, fun _ => c53 p⟩
def vItem (x : TItem) (sv : Bool) : Bool :=
 if x.kind = 1 then (!sv && vname x.name) && eqI x ⟨x.kind, x.name, pfx0, 0, rng0⟩ else
 if x.kind = 2 then (!sv && pvalid x.pfx) && eqI x ⟨x.kind, [], x.pfx, 0, rng0⟩ else
 if x.kind = 3 then vname x.name && eqI x ⟨x.kind, x.name, pfx0, 0, rng0⟩ else
 if x.kind = 4 then (sv && vPorts x.proto x.ports) && eqI x ⟨x.kind, [], pfx0, x.proto, x.ports⟩ else false
theorem c_validItem (x : TItem) (sv : Bool) : PFun Tryz.prog Gl 117 [eItem x, .bool sv] fun r => r = .bool (vItem x sv) := by
 (refine PFun.of hT Tryz.func117 rfl fun B hD => ?_; refine pw_norm rfl ?_)
 unfold vItem
 (repeat' (first | refine zS ?_ | refine zq5 ?_ | refine zq6 ?_ | (refine zT ?_ ?_ <;> intro h <;> first | exact zX | refine zNq ?_)))
 ·rw [if_pos h]; exact ret2 _ rfl rfl rfl
 ·rename_i g1; rw [if_neg g1, if_pos h]; exact ret2 _ rfl rfl rfl
 ·rename_i g1 g2; rw [if_neg g1, if_neg g2, if_pos h]; exact ret2 _ rfl rfl rfl
 ·rename_i g1 g2 g3; rw [if_neg g1, if_neg g2, if_neg g3, if_pos h]; exact ret2 _ rfl rfl rfl
 ·rename_i g1 g2 g3; rw [if_neg g1, if_neg g2, if_neg g3, if_neg h]; exact ret2 _ rfl rfl rfl
instance iValidItem (x : TItem) (sv : Bool) : ConF Tryz.prog Gl 117 [eItem x, .bool sv] True (.bool (vItem x sv)) := ⟨e117, fun _ => c_validItem x sv⟩
structure ItIn (x : TItem) : Prop where
 addr : 0 ≤ x.pfx.addr ∧ x.pfx.addr < 4294967296
 lo : 0 ≤ x.ports.lo
end
section
variable {Gl : Glob}
attribute [local irreducible] PW PWL OpP PCalls PWO vname PWT bothT
def okName (s : Str) : Bool := (s == []) || vname s
theorem c_emptyOrName (s : Str) : PFun Tryz.prog Gl 121 [.str s] fun r => r = .bool (okName s) := by
 (refine PFun.of hT Tryz.func121 rfl fun B hD => ?_; refine pw_norm rfl ?_)
 (repeat' (first | refine zS ?_ | refine zq5 ?_ | refine zq6 ?_ | (refine zT ?_ ?_ <;> intro h <;> first | exact zX | refine zNq ?_)))
 exact ret2 _ rfl rfl rfl
instance iEmptyOrName (s : Str) : ConF Tryz.prog Gl 121 [.str s] True (.bool (okName s)) := ⟨e121, fun _ => c_emptyOrName s⟩
def nameS (s : Str) : Str := if s = [] then [97, 110, 121] else s
theorem c_anyOr (s : Str) : PFun Tryz.prog Gl 110 [.str s] fun r => r = .str (nameS s) := by
 (refine PFun.of hT Tryz.func110 rfl fun B hD => ?_; refine pw_norm rfl ?_)
 unfold nameS
 (repeat' (first | refine zS ?_ | (refine zT ?_ ?_ <;> intro h <;> first | exact zX | refine zNq ?_)))
 ·rw [if_pos h]; exact ret2 _ rfl rfl rfl
 ·rw [if_neg h]; exact ret2 _ rfl rfl rfl
instance iAnyOr (s : Str) : ConF Tryz.prog Gl 110 [.str s] True (.str (nameS s)) := ⟨e110, fun _ => c_anyOr s⟩
attribute [local irreducible] okName
def stmNames (s : TStm) : List Str := [s.src, s.dst, s.service, s.cls, s.during, s.exSrc, s.exDst]
def stmRest (s : TStm) : Bool := (((s.permit || s.cls == []) && (s.excepted || (s.exSrc == [] && s.exDst == []))) && decide (s.prio ≥ 0)) && decide (s.prio ≤ 1000)
def vStm (s : TStm) : Bool := (stmNames s).all okName && stmRest s
theorem stmRest_alt (s : TStm) : ((((s.excepted || (s.exSrc == [] && s.exDst == [])) && (s.permit || s.cls == [])) && decide (s.prio ≥ 0)) && decide (s.prio ≤ 1000)) = stmRest s := by
 unfold stmRest
 rw [Bool.and_comm (s.excepted || (s.exSrc == [] && s.exDst == []))]
theorem c_validStm (s : TStm) : PFun Tryz.prog Gl 73 [eStm s] fun r => r = .bool (vStm s) := by
 (refine PFun.of hT Tryz.func73 rfl fun B hD => ?_; refine pw_norm rfl ?_)
 unfold vStm
 (repeat' (first | refine zS ?_ | refine zq5 ?_ | refine zq6 ?_ | (refine zT ?_ ?_ <;> intro h <;> first | exact zX | refine zNq ?_)))
 rw [show [PV.str s.src, .str s.dst, .str s.service, .str s.cls, .str s.during, .str s.exSrc, .str s.exDst] = (stmNames s).map PV.str from rfl]
 have hl : (stmNames s).length = 7 := rfl
 refine pw_for hD (fun i : Nat => [(22, .int .i64 i)]) (fun _ => [.box [.bool s.permit, .str s.src, .str s.dst, .str s.service, .bool s.excepted, .str s.exSrc, .str s.exDst, .str s.cls, .str s.during, .int .i64 s.prio]]) (fun i => i ≤ 7 ∧ ∀ j, j < i → okName ((stmNames s).getD j []) = true) (fun i => 7 - i) 0 ⟨by omega, fun j h => by omega⟩ 1 rfl (fun _ => rfl) zLes (fun _ => rfl) (fun _ => rfl) zLe ?_
 rintro i ⟨hi, hc⟩
 generalize hL : stmNames s = L at hl hc ⊢
 have hl2 : (L.map PV.str).length = 7 := by rw [List.length_map]; exact hl
 (repeat' (first | refine zS ?_ | refine zq5 ?_ | refine zq6 ?_ | (refine zT ?_ ?_ <;> intro h <;> first | exact zX | refine zNq ?_)))
 ·have e : L.all okName = false := by
   rw [List.all_eq_false]
   refine ⟨L.getD i [], ?_, h⟩
   rw [List.getD, List.getElem?_eq_getElem (by omega)]
   exact List.getElem_mem _
  rw [e]
  exact ret2 _ rfl rfl rfl
 ·refine ⟨i + 1, ⟨by omega, fun j hj => ?_⟩, by omega, zLe, zLes⟩
  rcases Nat.lt_succ_iff_lt_or_eq.1 hj with hj | rfl
  ·exact hc j hj
  ·exact Decidable.not_not.1 h
 ·have e : L.all okName = true := List.all_eq_true.2 fun x hx => by
   obtain ⟨j, hj⟩ := List.mem_iff_getElem?.1 hx
   have := hc j (by have := (List.getElem?_eq_some_iff.1 hj).1; omega)
   rwa [List.getD, hj] at this
  rw [e, Bool.true_and, ← stmRest_alt]
  exact ret2 _ rfl rfl rfl
instance iValidStm (s : TStm) : ConF Tryz.prog Gl 73 [eStm s] True (.bool (vStm s)) := ⟨e73, fun _ => c_validStm s⟩

end
end Go.Proofs.YtkaobkjcjodffaaGreatDoor