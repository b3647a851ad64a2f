/-
  Contracts of functions, walked over pure values.
-/
import Derived.Test.YtdehdgbdcfkpbaaGreatDoorKC5
namespace Go.Proofs.YtdehdgbdcfkpbaaGreatDoor
open Go Go.Pw
variable {Gl : Glob}
attribute [local irreducible] PW PWL OpP PCalls PWO
set_option maxHeartbeats 20000000
set_option maxRecDepth 100000

/-! ### Tape.Topology -/
def names6 : List Str := [[114, 49], [114, 50], [114, 51], [114, 52], [114, 53], [114, 54]]
def caps6 : List Int := [4096, 400, 60, 20, 5, 0]
def cls3 : List Str := [[], [105, 112, 115], [100, 108, 112]]
def costs4 : List Int := [1, 2, 3, 1000]
def names5 : List Str := [[101, 49], [101, 50], [101, 51], [101, 52], [101, 53]]
def zones3 : List Str := [[108, 97, 110], [100, 109, 122], [110, 101, 116]]
def count6 : List Int := [2, 3, 4, 1, 5, 0]
def tol5 : List Int := [0, 1, 0, 1, 2]
structure DevG (i : Nat) (d : TDev) : Prop where
  name : d.name = names6.getD i []
  cap : d.cap ∈ caps6
  cls : d.cls ∈ cls3
structure LinkG (n : Nat) (x : TLink) : Prop where
  a0 : 0 ≤ x.a
  ab : x.a < x.b
  bn : x.b < n
  cost : x.cost ∈ costs4
structure EdgeG (n i : Nat) (e : TEdge) : Prop where
  name : e.name = names5.getD i []
  d0 : 0 ≤ e.dev
  dn : e.dev < n
  zone : e.zone ∈ zones3
  pfx : e.pfx = subnets.getD i ⟨0, 0⟩
  planned : e.planned = false
structure GTop (n : Nat) (t : Topo) : Prop where
  devs : ∀ (i : Nat) d, t.devs[i]? = some d → DevG i d
  links : ∀ x ∈ t.links, LinkG n x
  edges : ∀ (i : Nat) e, t.edges[i]? = some e → EdgeG n i e
theorem snoc_get {α : Type} {p : Nat → α → Prop} {l : List α} {x : α} (h : ∀ (i : Nat) d, l[i]? = some d → p i d) (hx : p l.length x) : ∀ (i : Nat) d, (l ++ [x])[i]? = some d → p i d := by
  intro i d hd
  rcases Nat.lt_trichotomy i l.length with h1 | h1 | h1
  · rw [List.getElem?_append_left h1] at hd; exact h i d hd
  · subst h1; simp at hd; subst hd; exact hx
  · rw [List.getElem?_append_right (by omega), List.getElem?_eq_none (by simp; omega)] at hd; cases hd
def pool1 : TPfx := ⟨168296448, 22⟩
def pool2 : TPfx := ⟨167772672, 24⟩
structure TGen (n : Nat) (t : Topo) : Prop extends GTop n t where
  n1 : 1 ≤ n
  n6 : n ≤ 6
  dl : t.devs.length = n
  ll : t.links.length ≤ n + 3
  el : t.edges.length ≤ 5
  pools : t.pools = [] ∨ t.pools = [pool1] ∨ t.pools = [pool2] ∨ t.pools = [pool1, pool2]
  tol : t.tol ∈ tol5
def gbox : PObj := .box [.nilsl, .nilsl, .nilsl, .nilsl, .int .i64 0]
def gS (l : List Int) (t : Topo) (c : Caps) (j : Nat) : List PObj := tape l j :: gbox :: .box (mTopo 3 t c) :: aTopo t c
/-- What the generator leaves: its tape, and a topology in four arrays. -/
def GenPost (l : List Int) (φ : Topo → Prop) (r : PV) (s : List PObj) : Prop := ∃ (j : Nat) (t : Topo) (c : Caps), φ t ∧ j ≤ l.length ∧ r = .agg (mTopo 3 t c) ∧ s = tape l j :: .dead :: .dead :: aTopo t c
theorem c12 (l : List Int) (hl : Tp l) (j : Nat) (hj : j ≤ l.length) (n : Nat) (h1 : 1 ≤ n) (h2 : n ≤ 1000) : PCalls Tryz.prog Gl 12 [.ptr 0 0, .int .i64 n] [tape l j] (GenPost l fun t => ∃ m, m ≤ n ∧ TGen m t) := by
  refine PCalls.of hT Tryz.func12 rfl 7 (Nat.le_of_ble_eq_true rfl) fun B hD => ?_
  refine pw_norm rfl ?_
  (refine zGo ?_)
  (refine pl_op rfl (op_of (v_min rfl rfl rfl) ?_); (refine zNp ?_))
  have hmin : min (n : Int) 6 = ((min n 6 : Nat) : Int) := by omega
  rw [hmin]
  (refine pl_op rfl (op_call [0] rfl rfl e13 (by decide) rfl rfl rfl zLe zLes (c13n l hl j hj (min n 6) (by omega) (by omega)) (fun r s hq => ?_)); obtain ⟨j1, ⟨m1, hm1, rfl⟩, hj1, rfl⟩ := hq; refine ⟨rfl, rfl, ?_⟩; (refine zNp ?_))
  (refine zGo ?_)
  rw [show (1 : Int) + (m1 : Int) = ((1 + m1 : Nat) : Int) by omega]
  generalize hmm : 1 + m1 = m
  have hm : 1 ≤ m ∧ m ≤ 6 ∧ m ≤ n := by omega
  clear hmin hm1 hmm
  refine pw_ghost 5 ?_
  refine pw_ghost 3 ?_
  refine pw_ghost 6 ?_
  refine pw_ghost 2 ?_
  refine pw_norm rfl ?_
  refine pw_for hD (fun a : Nat × Topo × Caps × Nat => [(6, .int .i64 a.1)]) (fun a => gS l a.2.1 a.2.2.1 a.2.2.2)
    (fun a => a.1 ≤ m ∧ a.2.2.2 ≤ l.length ∧ GTop m a.2.1 ∧ a.2.1.devs.length = a.1 ∧ a.2.1.links.length ≤ a.1 ∧ a.2.1.edges = [] ∧ a.2.1.pools = []) (fun a => m - a.1) (0, ⟨[], [], [], [], 0⟩, (0, 0, 0, 0), j1) ⟨by omega, hj1, ⟨by simp, by simp, by simp⟩, rfl, Nat.le_refl _, rfl, rfl⟩ 7 rfl (fun _ => rfl)
    ⟨.inl rfl, .inl rfl, .inr (.inr ⟨_, _, rfl, rfl, by (exact zLe)⟩), .inl rfl, .inl rfl, .inl rfl, .inl rfl, trivial⟩ (fun _ => rfl) (fun _ => rfl) (by (exact zLe)) ?_
  rintro ⟨i, t, c, j⟩ ⟨hi, hj, ht, hdl, hll, hee, hpe⟩
  dsimp only at hi hj ht hdl hll hee hpe ⊢
  (refine zGo ?_)
  refine pw_cond rfl (fun h => ?_) (fun h => ?_)
  · simp only [decide_eq_true_eq] at h
    have him : i < m := by omega
    (refine zGo ?_)
    refine pw_joinX hD (fun x : Nat × Nat => x.1 < 6 ∧ x.2 ≤ l.length) (fun _ => [(7, .ptr 7 0)]) (fun x => gS l t c x.2 ++ [.box [.str (names6.getD i []), .int .i64 (caps6.getD x.1 0), .bool false, .bool false, .str []]]) 8 rfl (fun _ => rfl) (fun _ => rfl) (fun _ => rfl) ?_ ?_
    · refine pw_drawF [(0, true), (1, true), (2, true), (3, true), (4, true), (5, true)] 6 [(7, true), (8, true), (9, true), (10, false), (11, false)] 10 [(6, false), (7, true), (8, true), (9, true), (11, false)] hmix (by decide +kernel) ?_
      (refine zDgo ?_)
      (refine po_make rfl rfl (fun st' K hK => op_litF hT rfl rfl rfl rfl rfl (by decide) rfl rfl rfl rfl hK) ?_; refine zDn ?_)
      (refine zDgo ?_)
      (refine po_val rfl rfl (v_index (p := .str (names6.getD i [])) hT rfl rfl rfl rfl (by omega) (lit_at .str names6 i [] (by show i < 6; omega)) rfl) ?_; refine zDn ?_)
      (refine zDgo ?_)
      (refine po_make rfl rfl (fun st' K hK => op_litF hT rfl rfl rfl rfl rfl (by decide) rfl rfl rfl rfl hK) ?_; refine zDn ?_)
      (refine zDgo ?_)
      refine ⟨?_, ?_⟩
      · (refine po_step rfl rfl (op_call [0] rfl rfl e13 (by decide) rfl rfl rfl zLe zLes (c13n l hl j hj 6 (by decide) (by decide)) (fun r s hq => ?_)); obtain ⟨j2, ⟨k, hk, rfl⟩, hj2, rfl⟩ := hq; refine ⟨rfl, rfl, zLok, ?_⟩; refine zDn ?_)
        (refine zDgo ?_)
        (refine po_val rfl rfl (v_index (p := .int .i64 (caps6.getD k 0)) hT rfl rfl rfl rfl (by omega) (lit_at (.int .i64) caps6 k 0 hk) rfl) ?_; refine zDn ?_)
        (refine zDgo ?_)
        exact ⟨(k, j2), ⟨hk, hj2⟩, by (exact zLe), by (exact zLes)⟩
      · (refine zDgo ?_)
        (refine po_step rfl rfl (op_call [0] rfl rfl e13 (by decide) rfl rfl rfl zLe zLes (c13n l hl j hj 6 (by decide) (by decide)) (fun r s hq => ?_)); obtain ⟨j2, ⟨k, hk, rfl⟩, hj2, rfl⟩ := hq; refine ⟨rfl, rfl, zLok, ?_⟩; refine zDn ?_)
        (refine zDgo ?_)
        (refine po_val rfl rfl (v_index (p := .int .i64 (caps6.getD k 0)) hT rfl rfl rfl rfl (by omega) (lit_at (.int .i64) caps6 k 0 hk) rfl) ?_; refine zDn ?_)
        (refine zDgo ?_)
        exact ⟨(k, j2), ⟨hk, hj2⟩, by (exact zLe), by (exact zLes)⟩
    rintro ⟨k, j2⟩ ⟨hk, hj2⟩
    dsimp only at hk hj2 ⊢
    have hcapM : caps6.getD k 0 ∈ caps6 := getD_mem hk
    generalize caps6.getD k 0 = cap at hcapM ⊢
    (refine zGo ?_)
    (refine pl_op rfl (op_call [0] rfl rfl e13 (by decide) rfl rfl rfl zLe zLes (c13n l hl j2 hj2 3 (by decide) (by decide)) (fun r s hq => ?_)); obtain ⟨j3, ⟨k3, hk3, rfl⟩, hj3, rfl⟩ := hq; refine ⟨rfl, rfl, ?_⟩; (refine zNp ?_))
    (refine zGo ?_)
    (refine pl_op rfl (op_call [0] rfl rfl e13 (by decide) rfl rfl rfl zLe zLes (c13n l hl j3 hj3 3 (by decide) (by decide)) (fun r s hq => ?_)); obtain ⟨j4, ⟨k4, hk4, rfl⟩, hj4, rfl⟩ := hq; refine ⟨rfl, rfl, ?_⟩; (refine zNp ?_))
    (refine zGo ?_)
    (refine pl_op rfl (op_call [0] rfl rfl e13 (by decide) rfl rfl rfl zLe zLes (c13n l hl j4 hj4 3 (by decide) (by decide)) (fun r s hq => ?_)); obtain ⟨j5, ⟨k5, hk5, rfl⟩, hj5, rfl⟩ := hq; refine ⟨rfl, rfl, ?_⟩; (refine zNp ?_))
    (refine pl_op rfl (op_of (v_index (p := .str (cls3.getD k5 [])) hT rfl rfl rfl rfl (by omega) (lit_at .str cls3 k5 [] hk5) rfl) ?_); (refine zNp ?_))
    (refine zGo ?_)
    have hcls : cls3.getD k5 [] ∈ cls3 := getD_mem hk5
    generalize cls3.getD k5 [] = cls at hcls ⊢
    (refine pl_append (b := 48) hT hD rfl rfl rfl rfl rfl rfl rfl rfl (.inl (Nat.zero_lt_succ _)) rfl rfl (by simp; omega) (fun cap' _ hcap => ?_); (refine zNp ?_))
    (refine zGo ?_)
    have hd2 := snoc_get (p := DevG) (x := ⟨names6.getD i [], cap, (k3 : Int) == 1, (k4 : Int) == 1, cls⟩) ht.devs ⟨by rw [hdl], hcapM, hcls⟩
    refine pw_cond rfl (fun h3 => ?_) (fun h3 => ?_)
    · have hi0 : 0 < i := by simpa using h3
      (refine zGo ?_)
      refine pw_draw [(0, true), (1, true), (2, true), (3, true), (5, true), (6, true), (7, true), (4, false), (8, false), (9, true), (10, true), (11, true), (12, true), (13, false), (14, true), (15, false)] hmix (by decide +kernel) ?_
      (refine zDgo ?_)
      (refine po_make rfl rfl (fun st' K hK => op_litF hT rfl rfl rfl rfl rfl (by decide) rfl rfl rfl rfl hK) ?_; refine zDn ?_)
      (refine zDgo ?_)
      (refine po_step rfl rfl (op_call [0] rfl rfl e13 (by decide) rfl rfl rfl zLe zLes (c13n l hl j5 hj5 i hi0 (by omega)) (fun r s hq => ?_)); obtain ⟨j6, ⟨k6, hk6, rfl⟩, hj6, rfl⟩ := hq; refine ⟨rfl, rfl, zLok, ?_⟩; refine zDn ?_)
      (refine zDgo ?_)
      (refine po_step rfl rfl (op_call [0] rfl rfl e13 (by decide) rfl rfl rfl zLe zLes (c13n l hl j6 hj6 4 (by decide) (by decide)) (fun r s hq => ?_)); obtain ⟨j7, ⟨k7, hk7, rfl⟩, hj7, rfl⟩ := hq; refine ⟨rfl, rfl, zLok, ?_⟩; refine zDn ?_)
      (refine zDgo ?_)
      (refine po_val rfl rfl (v_index (p := .int .i64 (costs4.getD k7 0)) hT rfl rfl rfl rfl (by omega) (lit_at (.int .i64) costs4 k7 0 hk7) rfl) ?_; refine zDn ?_)
      (refine zDgo ?_)
      have hcost : costs4.getD k7 0 ∈ costs4 := getD_mem hk7
      (refine po_make rfl rfl (fun st' K hK => op_litF hT rfl rfl rfl rfl rfl (by decide) rfl rfl rfl rfl hK) ?_; refine zDn ?_)
      (refine zDgo ?_)
      (refine po_step rfl rfl (op_append (b := 24) hT rfl rfl rfl rfl rfl rfl (.inl (Nat.zero_lt_succ _)) rfl rfl (by simp; omega) (fun cap2 _ hcap => ⟨zLok, ?_⟩)); refine zDn ?_)
      (refine zDgo ?_)
      (refine pw_mv 4 8 hD rfl rfl rfl rfl rfl ?_; refine pw_norm rfl ?_)
      (refine zGo ?_)
      refine ⟨(i + 1, { t with devs := t.devs ++ [⟨names6.getD i [], cap, (k3 : Int) == 1, (k4 : Int) == 1, cls⟩], links := t.links ++ [⟨k6, i, costs4.getD k7 0⟩] }, (cap', cap2, c.2.2), j7), ⟨him, hj7, ⟨hd2, ?_, ht.edges⟩, by simp [hdl], by simp; omega, hee, hpe⟩, by show m - (i + 1) < m - i; omega, by (exact zLe), ?_⟩
      · intro x hx
        rcases List.mem_append.1 hx with hx | hx
        · exact ht.links x hx
        · rw [List.mem_singleton] at hx; subst hx
          exact ⟨by simp, by show (k6 : Int) < i; omega, by show (i : Int) < m; omega, hcost⟩
      · simp only [gS, mTopo, aTopo, List.map_append, List.length_append]
        (exact zLes)
    · (refine zGo ?_)
      refine ⟨(i + 1, { t with devs := t.devs ++ [⟨names6.getD i [], cap, (k3 : Int) == 1, (k4 : Int) == 1, cls⟩] }, (cap', c.2), j5), ⟨him, hj5, ⟨hd2, ht.links, ht.edges⟩, by simp [hdl], by show t.links.length ≤ i + 1; omega, hee, hpe⟩, by show m - (i + 1) < m - i; omega, by (exact zLe), ?_⟩
      simp only [gS, mTopo, aTopo, List.map_append, List.length_append]
      (exact zLes)
  · simp only [decide_eq_false_iff_not] at h
    have hie : i = m := by omega
    subst hie
    clear h hi
    (refine zGo ?_)
    (refine pl_op rfl (op_call [0] rfl rfl e13 (by decide) rfl rfl rfl zLe zLes (c13n l hl j hj 4 (by decide) (by decide)) (fun r s hq => ?_)); obtain ⟨j2, ⟨k, hk, rfl⟩, hj2, rfl⟩ := hq; refine ⟨rfl, rfl, ?_⟩; (refine zNp ?_))
    (refine zGo ?_)
    refine pw_for hD (fun a : Nat × Topo × Caps × Nat => [(8, .int .i64 a.1)]) (fun a => gS l a.2.1 a.2.2.1 a.2.2.2)
      (fun a => a.1 ≤ 3 ∧ a.2.2.2 ≤ l.length ∧ GTop i a.2.1 ∧ a.2.1.devs.length = i ∧ a.2.1.links.length + a.1 ≤ i + 3 ∧ a.2.1.edges = [] ∧ a.2.1.pools = []) (fun a => a.1) (k, t, c, j2) ⟨by show k ≤ 3; omega, hj2, ht, hdl, by show t.links.length + k ≤ i + 3; omega, hee, hpe⟩ 7 rfl (fun _ => rfl)
      (by (exact zLes)) (fun _ => rfl) (fun _ => rfl) (by (exact zLe)) ?_
    clear ht hdl hll hee hpe
    rintro ⟨k, t, c, j⟩ ⟨hk, hj, ht, hdl, hll, hee, hpe⟩
    dsimp only at hk hj ht hdl hll hee hpe ⊢
    (refine zGo ?_)
    (refine pl_and 3 73 76 (decide ((i : Int) > 1)) rfl rfl rfl (fun hb => ?_) (fun hb => ?_) ?_; (focus ((refine zNp ?_); (refine zGo ?_); exact ⟨by (exact zLe), StLe.refl _⟩)); (focus ((refine zNp ?_); (refine zGo ?_); exact ⟨by (exact zLe), StLe.refl _⟩)); (refine zNp ?_); (refine zGo ?_))
    refine pw_cond rfl (fun h => ?_) (fun h => ?_)
    · simp only [Bool.and_eq_true, decide_eq_true_eq] at h
      have hk0 : 0 < k := by omega
      have hi1 : 1 < i := by omega
      (refine zGo ?_)
      rw [show (i : Int) - 1 = ((i - 1 : Nat) : Int) by omega]
      (refine pl_op rfl (op_call [0] rfl rfl e13 (by decide) rfl rfl rfl zLe zLes (c13n l hl j hj (i - 1) (by omega) (by omega)) (fun r s hq => ?_)); obtain ⟨j3, ⟨k3, hk3, rfl⟩, hj3, rfl⟩ := hq; refine ⟨rfl, rfl, ?_⟩; (refine zNp ?_))
      (refine zGo ?_)
      rw [show (1 : Int) + (k3 : Int) = ((1 + k3 : Nat) : Int) by omega]
      generalize hbb : 1 + k3 = b
      have hb : 0 < b ∧ b < i := by omega
      refine pw_draw [(0, true), (1, true), (2, true), (3, true), (5, true), (6, true), (7, true), (4, false), (8, false), (9, true), (10, true), (11, true), (12, true), (13, false), (14, true), (15, false)] hmix (by decide +kernel) ?_
      (refine zDgo ?_)
      (refine po_make rfl rfl (fun st' K hK => op_litF hT rfl rfl rfl rfl rfl (by decide) rfl rfl rfl rfl hK) ?_; refine zDn ?_)
      (refine zDgo ?_)
      (refine po_step rfl rfl (op_call [0] rfl rfl e13 (by decide) rfl rfl rfl zLe zLes (c13n l hl j3 hj3 b hb.1 (by omega)) (fun r s hq => ?_)); obtain ⟨j4, ⟨k4, hk4, rfl⟩, hj4, rfl⟩ := hq; refine ⟨rfl, rfl, zLok, ?_⟩; refine zDn ?_)
      (refine zDgo ?_)
      (refine po_step rfl rfl (op_call [0] rfl rfl e13 (by decide) rfl rfl rfl zLe zLes (c13n l hl j4 hj4 4 (by decide) (by decide)) (fun r s hq => ?_)); obtain ⟨j5, ⟨k5, hk5, rfl⟩, hj5, rfl⟩ := hq; refine ⟨rfl, rfl, zLok, ?_⟩; refine zDn ?_)
      (refine zDgo ?_)
      (refine po_val rfl rfl (v_index (p := .int .i64 (costs4.getD k5 0)) hT rfl rfl rfl rfl (by omega) (lit_at (.int .i64) costs4 k5 0 hk5) rfl) ?_; refine zDn ?_)
      (refine zDgo ?_)
      have hcost : costs4.getD k5 0 ∈ costs4 := getD_mem hk5
      (refine po_make rfl rfl (fun st' K hK => op_litF hT rfl rfl rfl rfl rfl (by decide) rfl rfl rfl rfl hK) ?_; refine zDn ?_)
      (refine zDgo ?_)
      (refine po_step rfl rfl (op_append (b := 24) hT rfl rfl rfl rfl rfl rfl (.inl (Nat.zero_lt_succ _)) rfl rfl (by simp; omega) (fun cap2 _ hcap => ⟨zLok, ?_⟩)); refine zDn ?_)
      (refine zDgo ?_)
      (refine pw_mv 4 7 hD rfl rfl rfl rfl rfl ?_; refine pw_norm rfl ?_)
      (refine zGo ?_)
      rw [show (k : Int) - 1 = ((k - 1 : Nat) : Int) by omega]
      refine ⟨(k - 1, { t with links := t.links ++ [⟨k4, b, costs4.getD k5 0⟩] }, (c.1, cap2, c.2.2), j5), ⟨by show k - 1 ≤ 3; omega, hj5, ⟨ht.devs, ?_, ht.edges⟩, hdl, by simp; omega, hee, hpe⟩, by show k - 1 < k; omega, by (exact zLe), ?_⟩
      · intro x hx
        rcases List.mem_append.1 hx with hx | hx
        · exact ht.links x hx
        · rw [List.mem_singleton] at hx; subst hx
          exact ⟨by simp, by show (k4 : Int) < b; omega, by show (b : Int) < i; omega, hcost⟩
      · simp only [gS, mTopo, aTopo, List.map_append, List.length_append]
        (exact zLes)
    clear h hk
    have hll2 : t.links.length ≤ i + 3 := by omega
    clear hll
    (refine zGo ?_)
    (refine pl_op rfl (op_call [0] rfl rfl e13 (by decide) rfl rfl rfl zLe zLes (c13n l hl j hj 6 (by decide) (by decide)) (fun r s hq => ?_)); obtain ⟨j2, ⟨k2, hk2, rfl⟩, hj2, rfl⟩ := hq; refine ⟨rfl, rfl, ?_⟩; (refine zNp ?_))
    (refine pl_op rfl (op_of (v_index (p := .int .i64 (count6.getD k2 0)) hT rfl rfl rfl rfl (by omega) (lit_at (.int .i64) count6 k2 0 hk2) rfl) ?_); (refine zNp ?_))
    obtain ⟨e, he5, hee2⟩ : ∃ e : Nat, e ≤ 5 ∧ count6.getD k2 0 = e := by
      have : ∀ x ∈ count6, 0 ≤ x ∧ x ≤ 5 := by decide
      have := this _ (getD_mem (d := 0) hk2)
      exact ⟨(count6.getD k2 0).toNat, by omega, by omega⟩
    rw [hee2]
    clear hee2 hk2
    (refine zGo ?_)
    refine pw_for hD (fun a : Nat × Topo × Caps × Nat => [(11, .int .i64 a.1)]) (fun a => gS l a.2.1 a.2.2.1 a.2.2.2)
      (fun a => a.1 ≤ e ∧ a.2.2.2 ≤ l.length ∧ GTop i a.2.1 ∧ a.2.1.devs.length = i ∧ a.2.1.links.length ≤ i + 3 ∧ a.2.1.edges.length = a.1 ∧ a.2.1.pools = []) (fun a => e - a.1) (0, t, c, j2) ⟨Nat.zero_le _, hj2, ht, hdl, hll2, by rw [hee]; rfl, hpe⟩ 7 rfl (fun _ => rfl)
      (by (exact zLes)) (fun _ => rfl) (fun _ => rfl) (by (exact zLe)) ?_
    clear ht hdl hll2 hee hpe
    rintro ⟨k, t, c, j⟩ ⟨hk, hj, ht, hdl, hll, hee, hpe⟩
    dsimp only at hk hj ht hdl hll hee hpe ⊢
    (refine zGo ?_)
    refine pw_cond rfl (fun h => ?_) (fun h => ?_)
    · simp only [decide_eq_true_eq] at h
      have hke : k < e := by omega
      (refine zGo ?_)
      refine pw_draw [(0, true), (1, true), (2, true), (3, true), (4, true), (5, true), (6, true), (7, true), (9, true), (10, true), (14, true), (8, false), (11, false), (12, true), (13, true), (15, false), (16, true), (17, true), (18, false), (19, true), (20, false)] hmix (by decide +kernel) ?_
      (refine zDgo ?_)
      (refine po_make rfl rfl (fun st' K hK => op_litF hT rfl rfl rfl rfl rfl (by decide) rfl rfl rfl rfl hK) ?_; refine zDn ?_)
      (refine zDgo ?_)
      (refine po_val rfl rfl (v_index (p := .str (names5.getD k [])) hT rfl rfl rfl rfl (by omega) (lit_at .str names5 k [] (by show k < 5; omega)) rfl) ?_; refine zDn ?_)
      (refine zDgo ?_)
      (refine po_make rfl rfl (fun st' K hK => op_litF hT rfl rfl rfl rfl rfl (by decide) rfl rfl rfl rfl hK) ?_; refine zDn ?_)
      (refine zDgo ?_)
      (refine po_step rfl rfl (op_call [0] rfl rfl e13 (by decide) rfl rfl rfl zLe zLes (c13n l hl j hj i (by omega) (by omega)) (fun r s hq => ?_)); obtain ⟨j3, ⟨k3, hk3, rfl⟩, hj3, rfl⟩ := hq; refine ⟨rfl, rfl, zLok, ?_⟩; refine zDn ?_)
      (refine zDgo ?_)
      (refine po_step rfl rfl (op_call [0] rfl rfl e13 (by decide) rfl rfl rfl zLe zLes (c13n l hl j3 hj3 3 (by decide) (by decide)) (fun r s hq => ?_)); obtain ⟨j4, ⟨k4, hk4, rfl⟩, hj4, rfl⟩ := hq; refine ⟨rfl, rfl, zLok, ?_⟩; refine zDn ?_)
      (refine zDgo ?_)
      (refine po_val rfl rfl (v_index (p := .str (zones3.getD k4 [])) hT rfl rfl rfl rfl (by omega) (lit_at .str zones3 k4 [] hk4) rfl) ?_; refine zDn ?_)
      (refine zDgo ?_)
      (refine po_step rfl rfl (op_fun (c37s k) rfl rfl e37 zLe rfl (fun r hr => ?_)); subst hr; refine ⟨rfl, zLok, ?_⟩; refine zDn ?_)
      (refine zDgo ?_)
      (refine po_make rfl rfl (fun st' K hK => op_litF hT rfl rfl rfl rfl rfl (by decide) rfl rfl rfl rfl hK) ?_; refine zDn ?_)
      (refine zDgo ?_)
      (refine po_step rfl rfl (op_append (b := 64) hT rfl rfl rfl rfl rfl rfl (.inl (Nat.zero_lt_succ _)) rfl rfl (by simp; omega) (fun cap2 _ hcap => ⟨zLok, ?_⟩)); refine zDn ?_)
      (refine zDgo ?_)
      (refine pw_mv 5 7 hD rfl rfl rfl rfl rfl ?_; refine pw_norm rfl ?_)
      (refine zGo ?_)
      have hz : zones3.getD k4 [] ∈ zones3 := getD_mem hk4
      have he2 := snoc_get (p := EdgeG i) (x := ⟨names5.getD k [], k3, zones3.getD k4 [], subnetN k, false⟩) ht.edges ⟨by rw [hee], by simp, by show (k3 : Int) < i; omega, hz, by rw [hee]; exact subnetN_small k (by omega), rfl⟩
      refine ⟨(k + 1, { t with edges := t.edges ++ [⟨names5.getD k [], k3, zones3.getD k4 [], subnetN k, false⟩] }, (c.1, c.2.1, cap2, c.2.2.2), j4), ⟨hke, hj4, ⟨ht.devs, ht.links, he2⟩, hdl, hll, by simp [hee], hpe⟩, by show e - (k + 1) < e - k; omega, by (exact zLe), ?_⟩
      simp only [gS, mTopo, aTopo, List.map_append, List.length_append]
      (exact zLes)
    simp only [decide_eq_false_iff_not] at h
    have hel : t.edges.length ≤ 5 := by omega
    clear h hk hee
    obtain ⟨devs, links, edges, pools, tol⟩ := t
    dsimp only at hdl hll hpe hel ⊢
    subst hpe
    (refine zGo ?_)
    (refine pl_op rfl (op_call [0] rfl rfl e13 (by decide) rfl rfl rfl zLe zLes (c13n l hl j hj 2 (by decide) (by decide)) (fun r s hq => ?_)); obtain ⟨j2, ⟨k2, hk2, rfl⟩, hj2, rfl⟩ := hq; refine ⟨rfl, rfl, ?_⟩; (refine zNp ?_))
    (refine zGo ?_)
    refine pw_joinX hD (fun x : List TPfx × Nat => x.1 = [] ∨ x.1 = [pool1]) (fun _ => []) (fun x => gS l ⟨devs, links, edges, x.1, tol⟩ (c.1, c.2.1, c.2.2.1, x.2) j2) 7 rfl (fun _ => rfl) (fun _ => rfl) (fun _ => rfl) ?_ ?_
    · refine pw_cond rfl (fun h => ?_) (fun h => ?_)
      · (refine zGo ?_)
        (refine pl_append (b := 16) hT hD rfl rfl rfl rfl rfl rfl rfl rfl (.inl (Nat.zero_lt_succ _)) rfl rfl (by simp <;> omega) (fun cap2 _ hcap => ?_); (refine zNp ?_))
        (refine zGo ?_)
        exact ⟨([pool1], cap2), .inr rfl, by (exact zLe), by (exact zLes)⟩
      · (refine zGo ?_)
        exact ⟨([], c.2.2.2), .inl rfl, by (exact zLe), by (exact zLes)⟩
    rintro ⟨pools, pc⟩ hp
    dsimp only at hp ⊢
    have hpl : pools.length ≤ 1 := by rcases hp with rfl | rfl <;> decide
    (refine zGo ?_)
    (refine pl_op rfl (op_call [0] rfl rfl e13 (by decide) rfl rfl rfl zLe zLes (c13n l hl j2 hj2 3 (by decide) (by decide)) (fun r s hq => ?_)); obtain ⟨j3, ⟨k3, hk3, rfl⟩, hj3, rfl⟩ := hq; refine ⟨rfl, rfl, ?_⟩; (refine zNp ?_))
    (refine zGo ?_)
    refine pw_joinX hD (fun x : List TPfx × Nat => x.1 = [] ∨ x.1 = [pool1] ∨ x.1 = [pool2] ∨ x.1 = [pool1, pool2]) (fun _ => []) (fun x => gS l ⟨devs, links, edges, x.1, tol⟩ (c.1, c.2.1, c.2.2.1, x.2) j3) 7 rfl (fun _ => rfl) (fun _ => rfl) (fun _ => rfl) ?_ ?_
    · refine pw_cond rfl (fun h => ?_) (fun h => ?_)
      · (refine zGo ?_)
        (refine pl_append (b := 16) hT hD rfl rfl rfl rfl rfl rfl rfl rfl (.inl (Nat.zero_lt_succ _)) rfl rfl (by simp; omega) (fun cap2 _ hcap => ?_); (refine zNp ?_))
        (refine zGo ?_)
        refine ⟨(pools ++ [pool2], cap2), by rcases hp with rfl | rfl <;> simp, by (exact zLe), ?_⟩
        simp only [gS, mTopo, aTopo, List.map_append, List.length_append]
        (exact zLes)
      · (refine zGo ?_)
        exact ⟨(pools, pc), by rcases hp with rfl | rfl <;> simp, by (exact zLe), by (exact zLes)⟩
    clear hp
    rintro ⟨pools, pc⟩ hp
    dsimp only at hp ⊢
    (refine zGo ?_)
    (refine pl_op rfl (op_call [0] rfl rfl e13 (by decide) rfl rfl rfl zLe zLes (c13n l hl j3 hj3 5 (by decide) (by decide)) (fun r s hq => ?_)); obtain ⟨j4, ⟨k4, hk4, rfl⟩, hj4, rfl⟩ := hq; refine ⟨rfl, rfl, ?_⟩; (refine zNp ?_))
    (refine pl_op rfl (op_of (v_index (p := .int .i64 (tol5.getD k4 0)) hT rfl rfl rfl rfl (by omega) (lit_at (.int .i64) tol5 k4 0 hk4) rfl) ?_); (refine zNp ?_))
    (refine zGo ?_)
    have htol : tol5.getD k4 0 ∈ tol5 := getD_mem hk4
    exact ⟨_, _, _, rfl, ⟨j4, ⟨devs, links, edges, pools, tol5.getD k4 0⟩, (c.1, c.2.1, c.2.2.1, pc), ⟨i, hm.2.2, ⟨⟨ht.devs, ht.links, ht.edges⟩, hm.1, hm.2.1, hdl, hll, hel, hp, htol⟩⟩, hj4, rfl, rfl⟩, .inr (.inl rfl), ⟨.inr (.inl rfl), .inl rfl, .inl rfl, .inr (.inl rfl), .inr (.inl rfl), .inr (.inl rfl), .inr (.inl rfl), trivial⟩, rfl, rfl⟩
end Go.Proofs.YtdehdgbdcfkpbaaGreatDoor
