/-
  Contracts of functions, walked over pure values.
-/
import Derived.Test.YtdehdgbdcfkpbaaGreatDoorKC7
namespace Go.Proofs.YtdehdgbdcfkpbaaGreatDoor
open Go Go.Pw
variable {Gl : Glob}
attribute [local irreducible] PW PWL OpP PCalls PWO
set_option maxHeartbeats 20000000
set_option maxRecDepth 100000

/-! ### Tape.SpoilTopology -/
structure Fit (k : Nat) (t : Topo) : Prop where
  devs : t.devs.length ≤ k
  links : t.links.length ≤ k
  edges : t.edges.length ≤ k
  pools : t.pools.length ≤ k
  ein : ∀ e ∈ t.edges, PfxIn e.pfx
  pin : ∀ p ∈ t.pools, PfxIn p
theorem Fit.ok {k : Nat} {t : Topo} (h : Fit k t) (hk : k ≤ 1000) : TOk t := ⟨by have := h.devs; unfold Small; omega, by have := h.links; unfold Small; omega, by have := h.edges; unfold Small; omega, by have := h.pools; unfold Small; omega⟩
theorem Fit.up {k : Nat} {t : Topo} (h : Fit k t) : Fit (k + 1) t := ⟨Nat.le_succ_of_le h.devs, Nat.le_succ_of_le h.links, Nat.le_succ_of_le h.edges, Nat.le_succ_of_le h.pools, h.ein, h.pin⟩
theorem Fit.dv {k : Nat} {t : Topo} (h : Fit k t) {l : List TDev} (hl : l.length ≤ k + 1) : Fit (k + 1) { t with devs := l } := ⟨hl, Nat.le_succ_of_le h.links, Nat.le_succ_of_le h.edges, Nat.le_succ_of_le h.pools, h.ein, h.pin⟩
theorem Fit.lk {k : Nat} {t : Topo} (h : Fit k t) {l : List TLink} (hl : l.length ≤ k + 1) : Fit (k + 1) { t with links := l } := ⟨Nat.le_succ_of_le h.devs, hl, Nat.le_succ_of_le h.edges, Nat.le_succ_of_le h.pools, h.ein, h.pin⟩
theorem Fit.ed {k : Nat} {t : Topo} (h : Fit k t) {l : List TEdge} (hl : l.length ≤ k + 1) (he : ∀ e ∈ l, PfxIn e.pfx) : Fit (k + 1) { t with edges := l } := ⟨Nat.le_succ_of_le h.devs, Nat.le_succ_of_le h.links, hl, Nat.le_succ_of_le h.pools, he, h.pin⟩
theorem Fit.pl {k : Nat} {t : Topo} (h : Fit k t) {l : List TPfx} (hl : l.length ≤ k + 1) (he : ∀ e ∈ l, PfxIn e) : Fit (k + 1) { t with pools := l } := ⟨Nat.le_succ_of_le h.devs, Nat.le_succ_of_le h.links, Nat.le_succ_of_le h.edges, hl, h.ein, he⟩
theorem Fit.tl {k : Nat} {t : Topo} (h : Fit k t) (n : Int) : Fit (k + 1) { t with tol := n } := ⟨Nat.le_succ_of_le h.devs, Nat.le_succ_of_le h.links, Nat.le_succ_of_le h.edges, Nat.le_succ_of_le h.pools, h.ein, h.pin⟩
theorem all_set {α : Type} {P : α → Prop} {l : List α} {i : Nat} {a : α} (h : ∀ x ∈ l, P x) (ha : P a) : ∀ x ∈ l.set i a, P x := fun x hx => by
  rcases List.mem_or_eq_of_mem_set hx with h1 | h1
  · exact h x h1
  · rw [h1]; exact ha
theorem all_snoc {α : Type} {P : α → Prop} {l : List α} {a : α} (h : ∀ x ∈ l, P x) (ha : P a) : ∀ x ∈ l ++ [a], P x := fun x hx => by
  rcases List.mem_append.1 hx with h1 | h1
  · exact h x h1
  · rw [List.mem_singleton.1 h1]; exact ha
def spNames : List Str := [[114, 49], [97, 110, 121], [82], [122, 122]]
def spCls : List Str := [[97, 110, 121], [105, 112, 115], [90], [97, 32, 98]]
def spCost : List Int := [0, 1001, -1, 7]
def spZone : List Str := [[], [97, 110, 121], [100, 109, 122]]
def spTol : List Int := [3, -1, 2]
def spCap : List Int := [4097, -1, 7]
def SpPost (l : List Int) (k : Nat) (r : PV) (s : List PObj) : Prop := ∃ (j : Nat) (t : Topo), Fit k t ∧ r = eTopo t ∧ j ≤ l.length ∧ s = [tape l j]
theorem c33 (l : List Int) (hl : Tp l) (j : Nat) (hj : j ≤ l.length) (t : Topo) (k : Nat) (hk : k ≤ 1000) (ht : Fit k t) : PCalls Tryz.prog Gl 33 [.ptr 0 0, eTopo t] [tape l j] (SpPost l (k + 1)) := by
  refine PCalls.of hT Tryz.func33 rfl 1 (Nat.le_of_ble_eq_true rfl) fun B hD => ?_
  refine pw_norm rfl ?_
  have hd := ht.devs
  have hli := ht.links
  have he := ht.edges
  have hp := ht.pools
  (refine zGo ?_)
  (refine pl_op rfl (op_call [] rfl rfl e74 (by decide) rfl rfl rfl zLe zLes (c74 t (ht.ok hk)) (fun r s hq => ?_)); obtain ⟨c, rfl, rfl⟩ := hq; refine ⟨rfl, rfl, ?_⟩; (refine zNp ?_))
  (refine zGo ?_)
  refine pl_room 5 (k := 5) (cap := c.1) (xs := t.devs.map eDev) rfl fun r1 => ?_
  refine pl_room 6 (k := 3) (cap := c.2.1) (xs := t.links.map eLink) rfl fun r2 => ?_
  refine pl_room 7 (k := 6) (cap := c.2.2.1) (xs := t.edges.map eEdge) rfl fun r3 => ?_
  rw [List.length_map] at r1 r2 r3
  (refine zGo ?_)
  (refine pl_op rfl (op_call [0] rfl rfl e13 (by decide) rfl rfl rfl zLe zLes (c13n l hl j hj 14 (by decide) (by decide)) (fun r s hq => ?_)); obtain ⟨j1, ⟨m, hm, rfl⟩, hj1, rfl⟩ := hq; refine ⟨rfl, rfl, ?_⟩; (refine zNp ?_))
  (refine zGo ?_)
  refine pw_cond rfl (fun h => ?_) (fun h => ?_)
  · (refine zGo ?_)
    refine pw_draw [(0, true), (1, true), (2, true), (3, true), (7, true), (4, false), (5, true), (6, true), (8, false), (9, true), (10, true), (11, true), (12, false), (13, true), (14, false)] hmix (by decide +kernel) ?_
    (refine zDgo ?_)
    (refine po_make rfl rfl (fun st' K hK => op_litF hT rfl rfl rfl rfl rfl (by decide) rfl rfl rfl rfl hK) ?_; refine zDn ?_)
    (refine zDgo ?_)
    (refine po_step rfl rfl (op_call [0] rfl rfl e13 (by decide) rfl rfl rfl zLe zLes (c13n l hl j1 hj1 4 (by decide) (by decide)) (fun r s hq => ?_)); obtain ⟨j2, ⟨k2, hk2, rfl⟩, hj2, rfl⟩ := hq; refine ⟨rfl, rfl, zLok, ?_⟩; refine zDn ?_)
    (refine zDgo ?_)
    (refine po_val rfl rfl (v_index (p := .str (spNames.getD k2 [])) hT rfl rfl rfl rfl (by omega) (lit_at (.str) spNames k2 [] hk2) rfl) ?_; refine zDn ?_)
    (refine zDgo ?_)
    (refine po_step rfl rfl (op_call [0] rfl rfl e13 (by decide) rfl rfl rfl zLe zLes (c13n l hl j2 hj2 3 (by decide) (by decide)) (fun r s hq => ?_)); obtain ⟨j3, ⟨k3, hk3, rfl⟩, hj3, rfl⟩ := hq; refine ⟨rfl, rfl, zLok, ?_⟩; refine zDn ?_)
    (refine zDgo ?_)
    (refine po_make rfl rfl (fun st' K hK => op_litF hT rfl rfl rfl rfl rfl (by decide) rfl rfl rfl rfl hK) ?_; refine zDn ?_)
    (refine zDgo ?_)
    (refine po_step rfl rfl (op_append (b := 48) hT rfl rfl rfl rfl rfl rfl (.inl (Nat.zero_lt_succ _)) rfl rfl (by simp; omega) (fun cap2 _ hcap => ⟨zLok, ?_⟩)); refine zDn ?_)
    (refine zDgo ?_)
    (refine zGo ?_)
    exact ⟨_, eTopo ({ t with devs := t.devs ++ [⟨spNames.getD k2 [], (k3 : Int) - 1, false, false, []⟩] }), [tape l j3], rfl, ⟨j3, { t with devs := t.devs ++ [⟨spNames.getD k2 [], (k3 : Int) - 1, false, false, []⟩] }, ht.dv (by simp; omega), rfl, hj3, rfl⟩, by (simp only [eTopo, List.map_append, List.map_cons, List.map_nil]; (refine .inr (.inr (.inr (.inr (.inl ⟨_, _, rfl, rfl, ?_⟩)))); (repeat (first | trivial | refine ⟨.inr (.inl rfl), ?_⟩ | refine ⟨.inr (.inr (.inl ⟨rfl, rfl⟩)), ?_⟩ | refine ⟨.inr (.inr (.inr (.inl ⟨_, _, _, _, _, _, rfl, rfl, rfl, rfl, rfl⟩))), ?_⟩ | refine ⟨.inr (.inr (.inr (.inl ⟨_, _, _, _, _, _, rfl, rfl, rfl, (by simp only [List.length_map, List.length_append, List.length_cons, List.length_nil]), rfl⟩))), ?_⟩)))), ⟨.inr (.inl rfl), trivial⟩, rfl, rfl⟩
  (refine zGo ?_)
  refine pw_cond rfl (fun h => ?_) (fun h => ?_)
  · (refine zGo ?_)
    refine pw_cond rfl (fun h2 => ?_) (fun h2 => ?_)
    · have h0 : 0 < t.devs.length := by simpa using h2
      have hc0 : c.1 ≠ 0 := by omega
      (refine zGo ?_)
      refine pw_draw [(0, true), (1, true), (2, true), (3, true), (4, false), (5, true), (6, true), (7, true), (8, true), (9, false)] hmix (by decide +kernel) ?_
      (refine zDgo ?_)
      (refine po_make rfl rfl (fun st' K hK => op_litF hT rfl rfl rfl rfl rfl (by decide) rfl rfl rfl rfl hK) ?_; refine zDn ?_)
      (refine zDgo ?_)
      (refine po_step rfl rfl (op_call [0] rfl rfl e13 (by decide) rfl rfl rfl zLe zLes (c13n l hl j1 hj1 4 (by decide) (by decide)) (fun r s hq => ?_)); obtain ⟨j2, ⟨k2, hk2, rfl⟩, hj2, rfl⟩ := hq; refine ⟨rfl, rfl, zLok, ?_⟩; refine zDn ?_)
      (refine zDgo ?_)
      (refine po_val rfl rfl (v_index (p := .str (spCls.getD k2 [])) hT rfl rfl rfl rfl (by omega) (lit_at (.str) spCls k2 [] hk2) rfl) ?_; refine zDn ?_)
      (refine zDgo ?_)
      (refine po_val rfl rfl (v_indexm hT rfl rfl rfl rfl rfl (by decide) (by simp; omega) (hc0)) ?_; refine zDn ?_)
      (refine zDgo ?_)
      (refine po_step rfl rfl (op_storeE' (x0 := eDev t.devs[0]) (x1 := eDev { t.devs[0] with cls := spCls.getD k2 [] }) (xs' := (t.devs.set 0 { t.devs[0] with cls := spCls.getD k2 [] }).map eDev) hT rfl rfl rfl rfl rfl (hc0) (by simp [h0]) rfl rfl rfl rfl (Nat.le_of_ble_eq_true rfl) rfl (by simp [List.map_set]) ⟨zLok, ?_⟩); refine zDn ?_)
      (refine zDgo ?_)
      (refine zGo ?_)
      exact ⟨_, eTopo ({ t with devs := t.devs.set 0 { t.devs[0] with cls := spCls.getD k2 [] } }), [tape l j2], rfl, ⟨j2, { t with devs := t.devs.set 0 { t.devs[0] with cls := spCls.getD k2 [] } }, ht.dv (by simp; omega), rfl, hj2, rfl⟩, by (refine .inr (.inr (.inr (.inr (.inl ⟨_, _, rfl, rfl, ?_⟩)))); (repeat (first | trivial | refine ⟨.inr (.inl rfl), ?_⟩ | refine ⟨.inr (.inr (.inl ⟨rfl, rfl⟩)), ?_⟩ | refine ⟨.inr (.inr (.inr (.inl ⟨_, _, _, _, _, _, rfl, rfl, rfl, rfl, rfl⟩))), ?_⟩ | refine ⟨.inr (.inr (.inr (.inl ⟨_, _, _, _, _, _, rfl, rfl, rfl, (by simp only [List.length_map, List.length_set]), rfl⟩))), ?_⟩))), ⟨.inr (.inl rfl), trivial⟩, rfl, rfl⟩
    · (refine zGo ?_)
      exact ⟨_, eTopo (t), [tape l j1], rfl, ⟨j1, t, ht.up, rfl, hj1, rfl⟩, by (refine .inr (.inr (.inr (.inr (.inl ⟨_, _, rfl, rfl, ?_⟩)))); (repeat (first | trivial | refine ⟨.inr (.inl rfl), ?_⟩ | refine ⟨.inr (.inr (.inl ⟨rfl, rfl⟩)), ?_⟩ | refine ⟨.inr (.inr (.inr (.inl ⟨_, _, _, _, _, _, rfl, rfl, rfl, rfl, rfl⟩))), ?_⟩ | refine ⟨.inr (.inr (.inr (.inl ⟨_, _, _, _, _, _, rfl, rfl, rfl, (by simp only [List.length_map, List.length_set, List.length_append, List.length_cons, List.length_nil]), rfl⟩))), ?_⟩))), ⟨.inr (.inl rfl), trivial⟩, rfl, rfl⟩
  (refine zGo ?_)
  refine pw_cond rfl (fun h => ?_) (fun h => ?_)
  · (refine zGo ?_)
    refine pw_draw [(0, true), (1, true), (2, true), (5, true), (7, true), (3, false), (4, true), (6, false), (8, false), (9, true), (10, true), (11, false), (12, true), (13, false)] hmix (by decide +kernel) ?_
    (refine zDgo ?_)
    (refine po_step rfl rfl (op_call [0] rfl rfl e13 (by decide) rfl rfl rfl zLe zLes (c13n l hl j1 hj1 3 (by decide) (by decide)) (fun r s hq => ?_)); obtain ⟨j2, ⟨k2, hk2, rfl⟩, hj2, rfl⟩ := hq; refine ⟨rfl, rfl, zLok, ?_⟩; refine zDn ?_)
    (refine zDgo ?_)
    (refine po_step rfl rfl (op_call [0] rfl rfl e13 (by decide) rfl rfl rfl zLe zLes (c13n l hl j2 hj2 4 (by decide) (by decide)) (fun r s hq => ?_)); obtain ⟨j3, ⟨k3, hk3, rfl⟩, hj3, rfl⟩ := hq; refine ⟨rfl, rfl, zLok, ?_⟩; refine zDn ?_)
    (refine zDgo ?_)
    (refine po_step rfl rfl (op_call [0] rfl rfl e13 (by decide) rfl rfl rfl zLe zLes (c13n l hl j3 hj3 3 (by decide) (by decide)) (fun r s hq => ?_)); obtain ⟨j4, ⟨k4, hk4, rfl⟩, hj4, rfl⟩ := hq; refine ⟨rfl, rfl, zLok, ?_⟩; refine zDn ?_)
    (refine zDgo ?_)
    (refine po_make rfl rfl (fun st' K hK => op_litF hT rfl rfl rfl rfl rfl (by decide) rfl rfl rfl rfl hK) ?_; refine zDn ?_)
    (refine zDgo ?_)
    (refine po_step rfl rfl (op_append (b := 24) hT rfl rfl rfl rfl rfl rfl (.inl (Nat.zero_lt_succ _)) rfl rfl (by simp; omega) (fun cap2 _ hcap => ⟨zLok, ?_⟩)); refine zDn ?_)
    (refine zDgo ?_)
    (refine zGo ?_)
    exact ⟨_, eTopo ({ t with links := t.links ++ [⟨(k2 : Int) - 1, k3, k4⟩] }), [tape l j4], rfl, ⟨j4, { t with links := t.links ++ [⟨(k2 : Int) - 1, k3, k4⟩] }, ht.lk (by simp; omega), rfl, hj4, rfl⟩, by (simp only [eTopo, List.map_append, List.map_cons, List.map_nil]; (refine .inr (.inr (.inr (.inr (.inl ⟨_, _, rfl, rfl, ?_⟩)))); (repeat (first | trivial | refine ⟨.inr (.inl rfl), ?_⟩ | refine ⟨.inr (.inr (.inl ⟨rfl, rfl⟩)), ?_⟩ | refine ⟨.inr (.inr (.inr (.inl ⟨_, _, _, _, _, _, rfl, rfl, rfl, rfl, rfl⟩))), ?_⟩ | refine ⟨.inr (.inr (.inr (.inl ⟨_, _, _, _, _, _, rfl, rfl, rfl, (by simp only [List.length_map, List.length_append, List.length_cons, List.length_nil]), rfl⟩))), ?_⟩)))), ⟨.inr (.inl rfl), trivial⟩, rfl, rfl⟩
  (refine zGo ?_)
  refine pw_cond rfl (fun h => ?_) (fun h => ?_)
  · (refine zGo ?_)
    refine pw_cond rfl (fun h2 => ?_) (fun h2 => ?_)
    · have h0 : 0 < t.links.length := by simpa using h2
      have hc0 : c.2.1 ≠ 0 := by omega
      (refine zGo ?_)
      refine pw_draw [(0, true), (1, true), (2, true), (3, true), (4, false), (5, true), (6, true), (7, true), (8, true), (9, false)] hmix (by decide +kernel) ?_
      (refine zDgo ?_)
      (refine po_make rfl rfl (fun st' K hK => op_litF hT rfl rfl rfl rfl rfl (by decide) rfl rfl rfl rfl hK) ?_; refine zDn ?_)
      (refine zDgo ?_)
      (refine po_step rfl rfl (op_call [0] rfl rfl e13 (by decide) rfl rfl rfl zLe zLes (c13n l hl j1 hj1 4 (by decide) (by decide)) (fun r s hq => ?_)); obtain ⟨j2, ⟨k2, hk2, rfl⟩, hj2, rfl⟩ := hq; refine ⟨rfl, rfl, zLok, ?_⟩; refine zDn ?_)
      (refine zDgo ?_)
      (refine po_val rfl rfl (v_index (p := .int .i64 (spCost.getD k2 0)) hT rfl rfl rfl rfl (by omega) (lit_at (.int .i64) spCost k2 0 hk2) rfl) ?_; refine zDn ?_)
      (refine zDgo ?_)
      (refine po_val rfl rfl (v_indexm hT rfl rfl rfl rfl rfl (by decide) (by simp; omega) (hc0)) ?_; refine zDn ?_)
      (refine zDgo ?_)
      (refine po_step rfl rfl (op_storeE' (x0 := eLink t.links[0]) (x1 := eLink { t.links[0] with cost := spCost.getD k2 0 }) (xs' := (t.links.set 0 { t.links[0] with cost := spCost.getD k2 0 }).map eLink) hT rfl rfl rfl rfl rfl (hc0) (by simp [h0]) rfl rfl rfl rfl (Nat.le_of_ble_eq_true rfl) rfl (by simp [List.map_set]) ⟨zLok, ?_⟩); refine zDn ?_)
      (refine zDgo ?_)
      (refine zGo ?_)
      exact ⟨_, eTopo ({ t with links := t.links.set 0 { t.links[0] with cost := spCost.getD k2 0 } }), [tape l j2], rfl, ⟨j2, { t with links := t.links.set 0 { t.links[0] with cost := spCost.getD k2 0 } }, ht.lk (by simp; omega), rfl, hj2, rfl⟩, by (refine .inr (.inr (.inr (.inr (.inl ⟨_, _, rfl, rfl, ?_⟩)))); (repeat (first | trivial | refine ⟨.inr (.inl rfl), ?_⟩ | refine ⟨.inr (.inr (.inl ⟨rfl, rfl⟩)), ?_⟩ | refine ⟨.inr (.inr (.inr (.inl ⟨_, _, _, _, _, _, rfl, rfl, rfl, rfl, rfl⟩))), ?_⟩ | refine ⟨.inr (.inr (.inr (.inl ⟨_, _, _, _, _, _, rfl, rfl, rfl, (by simp only [List.length_map, List.length_set]), rfl⟩))), ?_⟩))), ⟨.inr (.inl rfl), trivial⟩, rfl, rfl⟩
    · (refine zGo ?_)
      exact ⟨_, eTopo (t), [tape l j1], rfl, ⟨j1, t, ht.up, rfl, hj1, rfl⟩, by (refine .inr (.inr (.inr (.inr (.inl ⟨_, _, rfl, rfl, ?_⟩)))); (repeat (first | trivial | refine ⟨.inr (.inl rfl), ?_⟩ | refine ⟨.inr (.inr (.inl ⟨rfl, rfl⟩)), ?_⟩ | refine ⟨.inr (.inr (.inr (.inl ⟨_, _, _, _, _, _, rfl, rfl, rfl, rfl, rfl⟩))), ?_⟩ | refine ⟨.inr (.inr (.inr (.inl ⟨_, _, _, _, _, _, rfl, rfl, rfl, (by simp only [List.length_map, List.length_set, List.length_append, List.length_cons, List.length_nil]), rfl⟩))), ?_⟩))), ⟨.inr (.inl rfl), trivial⟩, rfl, rfl⟩
  (refine zGo ?_)
  refine pw_cond rfl (fun h => ?_) (fun h => ?_)
  · (refine zGo ?_)
    refine pw_cond rfl (fun h2 => ?_) (fun h2 => ?_)
    · have h0 : 0 < t.edges.length := by simpa using h2
      have hc0 : c.2.2.1 ≠ 0 := by omega
      (refine zGo ?_)
      refine pw_draw [(0, true), (1, true), (2, true), (3, false), (4, true), (5, true), (6, true), (7, false)] hmix (by decide +kernel) ?_
      (refine zDgo ?_)
      (refine po_step rfl rfl (op_call [0] rfl rfl e13 (by decide) rfl rfl rfl zLe zLes (c13n l hl j1 hj1 9 (by decide) (by decide)) (fun r s hq => ?_)); obtain ⟨j2, ⟨k2, hk2, rfl⟩, hj2, rfl⟩ := hq; refine ⟨rfl, rfl, zLok, ?_⟩; refine zDn ?_)
      (refine zDgo ?_)
      (refine po_val rfl rfl (v_indexm hT rfl rfl rfl rfl rfl (by decide) (by simp; omega) (hc0)) ?_; refine zDn ?_)
      (refine zDgo ?_)
      (refine po_step rfl rfl (op_storeE' (x0 := eEdge t.edges[0]) (x1 := eEdge { t.edges[0] with dev := (k2 : Int) - 1 }) (xs' := (t.edges.set 0 { t.edges[0] with dev := (k2 : Int) - 1 }).map eEdge) hT rfl rfl rfl rfl rfl (hc0) (by simp [h0]) rfl rfl rfl rfl (Nat.le_of_ble_eq_true rfl) rfl (by simp [List.map_set]) ⟨zLok, ?_⟩); refine zDn ?_)
      (refine zDgo ?_)
      (refine zGo ?_)
      exact ⟨_, eTopo ({ t with edges := t.edges.set 0 { t.edges[0] with dev := (k2 : Int) - 1 } }), [tape l j2], rfl, ⟨j2, { t with edges := t.edges.set 0 { t.edges[0] with dev := (k2 : Int) - 1 } }, ht.ed (by simp; omega) (all_set ht.ein (show PfxIn t.edges[0].pfx from ht.ein _ (List.getElem_mem h0))), rfl, hj2, rfl⟩, by (refine .inr (.inr (.inr (.inr (.inl ⟨_, _, rfl, rfl, ?_⟩)))); (repeat (first | trivial | refine ⟨.inr (.inl rfl), ?_⟩ | refine ⟨.inr (.inr (.inl ⟨rfl, rfl⟩)), ?_⟩ | refine ⟨.inr (.inr (.inr (.inl ⟨_, _, _, _, _, _, rfl, rfl, rfl, rfl, rfl⟩))), ?_⟩ | refine ⟨.inr (.inr (.inr (.inl ⟨_, _, _, _, _, _, rfl, rfl, rfl, (by simp only [List.length_map, List.length_set]), rfl⟩))), ?_⟩))), ⟨.inr (.inl rfl), trivial⟩, rfl, rfl⟩
    · (refine zGo ?_)
      exact ⟨_, eTopo (t), [tape l j1], rfl, ⟨j1, t, ht.up, rfl, hj1, rfl⟩, by (refine .inr (.inr (.inr (.inr (.inl ⟨_, _, rfl, rfl, ?_⟩)))); (repeat (first | trivial | refine ⟨.inr (.inl rfl), ?_⟩ | refine ⟨.inr (.inr (.inl ⟨rfl, rfl⟩)), ?_⟩ | refine ⟨.inr (.inr (.inr (.inl ⟨_, _, _, _, _, _, rfl, rfl, rfl, rfl, rfl⟩))), ?_⟩ | refine ⟨.inr (.inr (.inr (.inl ⟨_, _, _, _, _, _, rfl, rfl, rfl, (by simp only [List.length_map, List.length_set, List.length_append, List.length_cons, List.length_nil]), rfl⟩))), ?_⟩))), ⟨.inr (.inl rfl), trivial⟩, rfl, rfl⟩
  (refine zGo ?_)
  refine pw_cond rfl (fun h => ?_) (fun h => ?_)
  · (refine zGo ?_)
    refine pw_cond rfl (fun h2 => ?_) (fun h2 => ?_)
    · have h0 : 0 < t.edges.length := by simpa using h2
      have hc0 : c.2.2.1 ≠ 0 := by omega
      have hel : (t.edges.map eEdge).length = t.edges.length := List.length_map ..
      have hl1 : t.edges.length - 1 < t.edges.length := by omega
      have hix : 0 + (((t.edges.map eEdge).length : Int) - 1).toNat = t.edges.length - 1 := by rw [hel]; omega
      (refine zGo ?_)
      refine pw_draw [(0, true), (1, true), (2, true), (3, true), (4, true), (5, true), (6, true), (7, true), (8, true), (9, true), (10, true), (11, true), (12, true), (13, true), (14, true), (15, true), (16, false), (17, true), (18, true), (19, false)] hmix (by decide +kernel) ?_
      (refine zDgo ?_)
      (refine po_val rfl rfl (v_indexm hT rfl rfl rfl rfl rfl (by omega) (by omega) (hc0)) ?_; refine zDn ?_)
      (refine zDgo ?_)
      (refine po_loadE (x0 := eEdge t.edges[t.edges.length - 1]) rfl rfl hT rfl rfl rfl rfl rfl (hc0) (by rw [hix]; simp [hl1]) rfl ?_; refine zDn ?_)
      (refine zDgo ?_)
      (refine po_step rfl rfl (op_call [0] rfl rfl e75 (by decide) rfl rfl rfl zLe zLes (c75 l hl j1 hj1 t.edges[t.edges.length - 1].pfx (ht.ein _ (List.getElem_mem hl1))) (fun r s hq => ?_)); obtain ⟨j2, ⟨p2, hp2, rfl⟩, hj2, rfl⟩ := hq; refine ⟨rfl, rfl, zLok, ?_⟩; refine zDn ?_)
      (refine zDgo ?_)
      (refine po_val rfl rfl (v_indexm hT rfl rfl rfl rfl rfl (by omega) (by omega) (hc0)) ?_; refine zDn ?_)
      (refine zDgo ?_)
      (refine po_step rfl rfl (op_storeE' (x0 := eEdge t.edges[t.edges.length - 1]) (x1 := eEdge { t.edges[t.edges.length - 1] with pfx := p2 }) (xs' := (t.edges.set (t.edges.length - 1) { t.edges[t.edges.length - 1] with pfx := p2 }).map eEdge) hT rfl rfl rfl rfl rfl (hc0) (by rw [hix]; simp [hl1]) rfl rfl rfl rfl (Nat.le_of_ble_eq_true rfl) rfl (by rw [hix]; simp [List.map_set]) ⟨zLok, ?_⟩); refine zDn ?_)
      (refine zDgo ?_)
      (refine zGo ?_)
      exact ⟨_, eTopo ({ t with edges := t.edges.set (t.edges.length - 1) { t.edges[t.edges.length - 1] with pfx := p2 } }), [tape l j2], rfl, ⟨j2, { t with edges := t.edges.set (t.edges.length - 1) { t.edges[t.edges.length - 1] with pfx := p2 } }, ht.ed (by simp; omega) (all_set ht.ein hp2), rfl, hj2, rfl⟩, by (refine .inr (.inr (.inr (.inr (.inl ⟨_, _, rfl, rfl, ?_⟩)))); (repeat (first | trivial | refine ⟨.inr (.inl rfl), ?_⟩ | refine ⟨.inr (.inr (.inl ⟨rfl, rfl⟩)), ?_⟩ | refine ⟨.inr (.inr (.inr (.inl ⟨_, _, _, _, _, _, rfl, rfl, rfl, rfl, rfl⟩))), ?_⟩ | refine ⟨.inr (.inr (.inr (.inl ⟨_, _, _, _, _, _, rfl, rfl, rfl, (by simp only [List.length_map, List.length_set]), rfl⟩))), ?_⟩))), ⟨.inr (.inl rfl), trivial⟩, rfl, rfl⟩
    · (refine zGo ?_)
      exact ⟨_, eTopo (t), [tape l j1], rfl, ⟨j1, t, ht.up, rfl, hj1, rfl⟩, by (refine .inr (.inr (.inr (.inr (.inl ⟨_, _, rfl, rfl, ?_⟩)))); (repeat (first | trivial | refine ⟨.inr (.inl rfl), ?_⟩ | refine ⟨.inr (.inr (.inl ⟨rfl, rfl⟩)), ?_⟩ | refine ⟨.inr (.inr (.inr (.inl ⟨_, _, _, _, _, _, rfl, rfl, rfl, rfl, rfl⟩))), ?_⟩ | refine ⟨.inr (.inr (.inr (.inl ⟨_, _, _, _, _, _, rfl, rfl, rfl, (by simp only [List.length_map, List.length_set, List.length_append, List.length_cons, List.length_nil]), rfl⟩))), ?_⟩))), ⟨.inr (.inl rfl), trivial⟩, rfl, rfl⟩
  (refine zGo ?_)
  refine pw_cond rfl (fun h => ?_) (fun h => ?_)
  · (refine zGo ?_)
    refine pw_cond rfl (fun h2 => ?_) (fun h2 => ?_)
    · have h0 : 0 < t.edges.length := by simpa using h2
      have hc0 : c.2.2.1 ≠ 0 := by omega
      (refine zGo ?_)
      refine pw_draw [(0, true), (1, true), (2, true), (3, true), (4, true), (5, true), (6, true), (7, true), (8, true), (9, true), (10, false)] hmix (by decide +kernel) ?_
      (refine zDgo ?_)
      (refine po_val rfl rfl (v_indexm hT rfl rfl rfl rfl rfl (by decide) (by simp; omega) (hc0)) ?_; refine zDn ?_)
      (refine zDgo ?_)
      (refine po_loadE (x0 := eEdge t.edges[0]) rfl rfl hT rfl rfl rfl rfl rfl (hc0) (by simp [h0]) rfl ?_; refine zDn ?_)
      (refine zDgo ?_)
      (refine po_val rfl rfl (v_indexm hT rfl rfl rfl rfl rfl (by decide) (by simp; omega) (hc0)) ?_; refine zDn ?_)
      (refine zDgo ?_)
      (refine po_step rfl rfl (op_storeE' (x0 := eEdge t.edges[0]) (x1 := eEdge { t.edges[0] with planned := !t.edges[0].planned }) (xs' := (t.edges.set 0 { t.edges[0] with planned := !t.edges[0].planned }).map eEdge) hT rfl rfl rfl rfl rfl (hc0) (by simp [h0]) rfl rfl rfl rfl (Nat.le_of_ble_eq_true rfl) rfl (by simp [List.map_set]) ⟨zLok, ?_⟩); refine zDn ?_)
      (refine zDgo ?_)
      (refine zGo ?_)
      exact ⟨_, eTopo ({ t with edges := t.edges.set 0 { t.edges[0] with planned := !t.edges[0].planned } }), [tape l j1], rfl, ⟨j1, { t with edges := t.edges.set 0 { t.edges[0] with planned := !t.edges[0].planned } }, ht.ed (by simp; omega) (all_set ht.ein (show PfxIn t.edges[0].pfx from ht.ein _ (List.getElem_mem h0))), rfl, hj1, rfl⟩, by (refine .inr (.inr (.inr (.inr (.inl ⟨_, _, rfl, rfl, ?_⟩)))); (repeat (first | trivial | refine ⟨.inr (.inl rfl), ?_⟩ | refine ⟨.inr (.inr (.inl ⟨rfl, rfl⟩)), ?_⟩ | refine ⟨.inr (.inr (.inr (.inl ⟨_, _, _, _, _, _, rfl, rfl, rfl, rfl, rfl⟩))), ?_⟩ | refine ⟨.inr (.inr (.inr (.inl ⟨_, _, _, _, _, _, rfl, rfl, rfl, (by simp only [List.length_map, List.length_set]), rfl⟩))), ?_⟩))), ⟨.inr (.inl rfl), trivial⟩, rfl, rfl⟩
    · (refine zGo ?_)
      exact ⟨_, eTopo (t), [tape l j1], rfl, ⟨j1, t, ht.up, rfl, hj1, rfl⟩, by (refine .inr (.inr (.inr (.inr (.inl ⟨_, _, rfl, rfl, ?_⟩)))); (repeat (first | trivial | refine ⟨.inr (.inl rfl), ?_⟩ | refine ⟨.inr (.inr (.inl ⟨rfl, rfl⟩)), ?_⟩ | refine ⟨.inr (.inr (.inr (.inl ⟨_, _, _, _, _, _, rfl, rfl, rfl, rfl, rfl⟩))), ?_⟩ | refine ⟨.inr (.inr (.inr (.inl ⟨_, _, _, _, _, _, rfl, rfl, rfl, (by simp only [List.length_map, List.length_set, List.length_append, List.length_cons, List.length_nil]), rfl⟩))), ?_⟩))), ⟨.inr (.inl rfl), trivial⟩, rfl, rfl⟩
  (refine zGo ?_)
  refine pw_cond rfl (fun h => ?_) (fun h => ?_)
  · (refine zGo ?_)
    refine pw_cond rfl (fun h2 => ?_) (fun h2 => ?_)
    · have h0 : 0 < t.edges.length := by simpa using h2
      have hc0 : c.2.2.1 ≠ 0 := by omega
      (refine zGo ?_)
      refine pw_draw [(0, true), (1, true), (2, true), (3, true), (4, true), (5, false), (6, true), (7, false), (8, true), (9, false)] hmix (by decide +kernel) ?_
      (refine zDgo ?_)
      (refine po_val rfl rfl (v_indexm hT rfl rfl rfl rfl rfl (by decide) (by simp; omega) (hc0)) ?_; refine zDn ?_)
      (refine zDgo ?_)
      (refine po_step rfl rfl (op_loadE (x0 := eEdge t.edges[0]) hT rfl rfl rfl rfl rfl (hc0) (by simp [h0]) rfl ⟨zLok, ?_⟩); refine zDn ?_)
      (refine zDgo ?_)
      (refine po_make rfl rfl (fun st' K hK => op_litF hT rfl rfl rfl rfl rfl (by decide) rfl rfl rfl rfl hK) ?_; refine zDn ?_)
      (refine zDgo ?_)
      (refine po_step rfl rfl (op_append (b := 64) hT rfl rfl rfl rfl rfl rfl (.inl (Nat.zero_lt_succ _)) rfl rfl (by simp; omega) (fun cap2 _ hcap => ⟨zLok, ?_⟩)); refine zDn ?_)
      (refine zDgo ?_)
      (refine zGo ?_)
      exact ⟨_, eTopo ({ t with edges := t.edges ++ [t.edges[0]] }), [tape l j1], rfl, ⟨j1, { t with edges := t.edges ++ [t.edges[0]] }, ht.ed (by simp; omega) (all_snoc ht.ein (ht.ein _ (List.getElem_mem h0))), rfl, hj1, rfl⟩, by (simp only [eTopo, List.map_append, List.map_cons, List.map_nil]; (refine .inr (.inr (.inr (.inr (.inl ⟨_, _, rfl, rfl, ?_⟩)))); (repeat (first | trivial | refine ⟨.inr (.inl rfl), ?_⟩ | refine ⟨.inr (.inr (.inl ⟨rfl, rfl⟩)), ?_⟩ | refine ⟨.inr (.inr (.inr (.inl ⟨_, _, _, _, _, _, rfl, rfl, rfl, rfl, rfl⟩))), ?_⟩ | refine ⟨.inr (.inr (.inr (.inl ⟨_, _, _, _, _, _, rfl, rfl, rfl, (by simp only [List.length_map, List.length_append, List.length_cons, List.length_nil]), rfl⟩))), ?_⟩)))), ⟨.inr (.inl rfl), trivial⟩, rfl, rfl⟩
    · (refine zGo ?_)
      exact ⟨_, eTopo (t), [tape l j1], rfl, ⟨j1, t, ht.up, rfl, hj1, rfl⟩, by (refine .inr (.inr (.inr (.inr (.inl ⟨_, _, rfl, rfl, ?_⟩)))); (repeat (first | trivial | refine ⟨.inr (.inl rfl), ?_⟩ | refine ⟨.inr (.inr (.inl ⟨rfl, rfl⟩)), ?_⟩ | refine ⟨.inr (.inr (.inr (.inl ⟨_, _, _, _, _, _, rfl, rfl, rfl, rfl, rfl⟩))), ?_⟩ | refine ⟨.inr (.inr (.inr (.inl ⟨_, _, _, _, _, _, rfl, rfl, rfl, (by simp only [List.length_map, List.length_set, List.length_append, List.length_cons, List.length_nil]), rfl⟩))), ?_⟩))), ⟨.inr (.inl rfl), trivial⟩, rfl, rfl⟩
  (refine zGo ?_)
  refine pw_cond rfl (fun h => ?_) (fun h => ?_)
  · (refine zGo ?_)
    refine pw_cond rfl (fun h2 => ?_) (fun h2 => ?_)
    · have h0 : 0 < t.edges.length := by simpa using h2
      have hc0 : c.2.2.1 ≠ 0 := by omega
      (refine zGo ?_)
      refine pw_draw [(0, true), (1, true), (2, true), (3, true), (4, false), (5, true), (6, true), (7, true), (8, true), (9, false)] hmix (by decide +kernel) ?_
      (refine zDgo ?_)
      (refine po_make rfl rfl (fun st' K hK => op_litF hT rfl rfl rfl rfl rfl (by decide) rfl rfl rfl rfl hK) ?_; refine zDn ?_)
      (refine zDgo ?_)
      (refine po_step rfl rfl (op_call [0] rfl rfl e13 (by decide) rfl rfl rfl zLe zLes (c13n l hl j1 hj1 3 (by decide) (by decide)) (fun r s hq => ?_)); obtain ⟨j2, ⟨k2, hk2, rfl⟩, hj2, rfl⟩ := hq; refine ⟨rfl, rfl, zLok, ?_⟩; refine zDn ?_)
      (refine zDgo ?_)
      (refine po_val rfl rfl (v_index (p := .str (spZone.getD k2 [])) hT rfl rfl rfl rfl (by omega) (lit_at (.str) spZone k2 [] hk2) rfl) ?_; refine zDn ?_)
      (refine zDgo ?_)
      (refine po_val rfl rfl (v_indexm hT rfl rfl rfl rfl rfl (by decide) (by simp; omega) (hc0)) ?_; refine zDn ?_)
      (refine zDgo ?_)
      (refine po_step rfl rfl (op_storeE' (x0 := eEdge t.edges[0]) (x1 := eEdge { t.edges[0] with zone := spZone.getD k2 [] }) (xs' := (t.edges.set 0 { t.edges[0] with zone := spZone.getD k2 [] }).map eEdge) hT rfl rfl rfl rfl rfl (hc0) (by simp [h0]) rfl rfl rfl rfl (Nat.le_of_ble_eq_true rfl) rfl (by simp [List.map_set]) ⟨zLok, ?_⟩); refine zDn ?_)
      (refine zDgo ?_)
      (refine zGo ?_)
      exact ⟨_, eTopo ({ t with edges := t.edges.set 0 { t.edges[0] with zone := spZone.getD k2 [] } }), [tape l j2], rfl, ⟨j2, { t with edges := t.edges.set 0 { t.edges[0] with zone := spZone.getD k2 [] } }, ht.ed (by simp; omega) (all_set ht.ein (show PfxIn t.edges[0].pfx from ht.ein _ (List.getElem_mem h0))), rfl, hj2, rfl⟩, by (refine .inr (.inr (.inr (.inr (.inl ⟨_, _, rfl, rfl, ?_⟩)))); (repeat (first | trivial | refine ⟨.inr (.inl rfl), ?_⟩ | refine ⟨.inr (.inr (.inl ⟨rfl, rfl⟩)), ?_⟩ | refine ⟨.inr (.inr (.inr (.inl ⟨_, _, _, _, _, _, rfl, rfl, rfl, rfl, rfl⟩))), ?_⟩ | refine ⟨.inr (.inr (.inr (.inl ⟨_, _, _, _, _, _, rfl, rfl, rfl, (by simp only [List.length_map, List.length_set]), rfl⟩))), ?_⟩))), ⟨.inr (.inl rfl), trivial⟩, rfl, rfl⟩
    · (refine zGo ?_)
      exact ⟨_, eTopo (t), [tape l j1], rfl, ⟨j1, t, ht.up, rfl, hj1, rfl⟩, by (refine .inr (.inr (.inr (.inr (.inl ⟨_, _, rfl, rfl, ?_⟩)))); (repeat (first | trivial | refine ⟨.inr (.inl rfl), ?_⟩ | refine ⟨.inr (.inr (.inl ⟨rfl, rfl⟩)), ?_⟩ | refine ⟨.inr (.inr (.inr (.inl ⟨_, _, _, _, _, _, rfl, rfl, rfl, rfl, rfl⟩))), ?_⟩ | refine ⟨.inr (.inr (.inr (.inl ⟨_, _, _, _, _, _, rfl, rfl, rfl, (by simp only [List.length_map, List.length_set, List.length_append, List.length_cons, List.length_nil]), rfl⟩))), ?_⟩))), ⟨.inr (.inl rfl), trivial⟩, rfl, rfl⟩
  (refine zGo ?_)
  refine pw_cond rfl (fun h => ?_) (fun h => ?_)
  · (refine zGo ?_)
    refine pw_draw [(0, true), (1, true), (2, true), (3, false), (4, true), (5, false), (6, true), (7, false)] hmix (by decide +kernel) ?_
    (refine zDgo ?_)
    (refine po_step rfl rfl (op_call [0] rfl rfl e76 (by decide) rfl rfl rfl zLe zLes (c76 l hl j1 hj1) (fun r s hq => ?_)); obtain ⟨j2, ⟨p2, hp2, rfl⟩, hj2, rfl⟩ := hq; refine ⟨rfl, rfl, zLok, ?_⟩; refine zDn ?_)
    (refine zDgo ?_)
    (refine po_make rfl rfl (fun st' K hK => op_litF hT rfl rfl rfl rfl rfl (by decide) rfl rfl rfl rfl hK) ?_; refine zDn ?_)
    (refine zDgo ?_)
    (refine po_step rfl rfl (op_append (b := 16) hT rfl rfl rfl rfl rfl rfl (.inl (Nat.zero_lt_succ _)) rfl rfl (by simp; omega) (fun cap2 _ hcap => ⟨zLok, ?_⟩)); refine zDn ?_)
    (refine zDgo ?_)
    (refine zGo ?_)
    exact ⟨_, eTopo ({ t with pools := t.pools ++ [p2] }), [tape l j2], rfl, ⟨j2, { t with pools := t.pools ++ [p2] }, ht.pl (by simp; omega) (all_snoc ht.pin hp2), rfl, hj2, rfl⟩, by (simp only [eTopo, List.map_append, List.map_cons, List.map_nil]; (refine .inr (.inr (.inr (.inr (.inl ⟨_, _, rfl, rfl, ?_⟩)))); (repeat (first | trivial | refine ⟨.inr (.inl rfl), ?_⟩ | refine ⟨.inr (.inr (.inl ⟨rfl, rfl⟩)), ?_⟩ | refine ⟨.inr (.inr (.inr (.inl ⟨_, _, _, _, _, _, rfl, rfl, rfl, rfl, rfl⟩))), ?_⟩ | refine ⟨.inr (.inr (.inr (.inl ⟨_, _, _, _, _, _, rfl, rfl, rfl, (by simp only [List.length_map, List.length_append, List.length_cons, List.length_nil]), rfl⟩))), ?_⟩)))), ⟨.inr (.inl rfl), trivial⟩, rfl, rfl⟩
  (refine zGo ?_)
  refine pw_cond rfl (fun h => ?_) (fun h => ?_)
  · (refine zGo ?_)
    (refine pl_op rfl (op_call [0] rfl rfl e13 (by decide) rfl rfl rfl zLe zLes (c13n l hl j1 hj1 3 (by decide) (by decide)) (fun r s hq => ?_)); obtain ⟨j2, ⟨k2, hk2, rfl⟩, hj2, rfl⟩ := hq; refine ⟨rfl, rfl, ?_⟩; (refine zNp ?_))
    (refine pl_op rfl (op_of (v_index (p := .int .i64 (spTol.getD k2 0)) hT rfl rfl rfl rfl (by omega) (lit_at (.int .i64) spTol k2 0 hk2) rfl) ?_); (refine zNp ?_))
    (refine zGo ?_)
    exact ⟨_, eTopo ({ t with tol := spTol.getD k2 0 }), [tape l j2], rfl, ⟨j2, { t with tol := spTol.getD k2 0 }, ht.tl _, rfl, hj2, rfl⟩, by (refine .inr (.inr (.inr (.inr (.inl ⟨_, _, rfl, rfl, ?_⟩)))); (repeat (first | trivial | refine ⟨.inr (.inl rfl), ?_⟩ | refine ⟨.inr (.inr (.inl ⟨rfl, rfl⟩)), ?_⟩ | refine ⟨.inr (.inr (.inr (.inl ⟨_, _, _, _, _, _, rfl, rfl, rfl, rfl, rfl⟩))), ?_⟩ | refine ⟨.inr (.inr (.inr (.inl ⟨_, _, _, _, _, _, rfl, rfl, rfl, (by simp only [List.length_map, List.length_set, List.length_append, List.length_cons, List.length_nil]), rfl⟩))), ?_⟩))), ⟨.inr (.inl rfl), trivial⟩, rfl, rfl⟩
  (refine zGo ?_)
  refine pw_cond rfl (fun h => ?_) (fun h => ?_)
  · (refine zGo ?_)
    refine pw_cond rfl (fun h2 => ?_) (fun h2 => ?_)
    · have h0 : 0 < t.devs.length := by simpa using h2
      have hc0 : c.1 ≠ 0 := by omega
      (refine zGo ?_)
      (refine pl_op rfl (op_sliceF (m := 1) hT rfl rfl rfl rfl rfl rfl (by simp; omega) ?_ ?_); (focus (simp only [List.all_map]; exact List.all_eq_true.2 fun _ _ => rfl)); (refine zNp ?_))
      (refine zGo ?_)
      exact ⟨_, eTopo ({ t with devs := t.devs.drop 1 }), [tape l j1], rfl, ⟨j1, { t with devs := t.devs.drop 1 }, ht.dv (by simp; omega), rfl, hj1, rfl⟩, by (simp only [eTopo, List.map_drop]; (refine .inr (.inr (.inr (.inr (.inl ⟨_, _, rfl, rfl, ?_⟩)))); (repeat (first | trivial | refine ⟨.inr (.inl rfl), ?_⟩ | refine ⟨.inr (.inr (.inl ⟨rfl, rfl⟩)), ?_⟩ | refine ⟨.inr (.inr (.inr (.inl ⟨_, _, _, _, _, _, rfl, rfl, rfl, rfl, rfl⟩))), ?_⟩ | refine ⟨.inr (.inr (.inr (.inl ⟨_, _, _, _, _, _, rfl, rfl, rfl, (by simp only [List.length_map, List.length_set, List.length_append, List.length_cons, List.length_nil]), rfl⟩))), ?_⟩)))), ⟨.inr (.inl rfl), trivial⟩, rfl, rfl⟩
    · (refine zGo ?_)
      exact ⟨_, eTopo (t), [tape l j1], rfl, ⟨j1, t, ht.up, rfl, hj1, rfl⟩, by (refine .inr (.inr (.inr (.inr (.inl ⟨_, _, rfl, rfl, ?_⟩)))); (repeat (first | trivial | refine ⟨.inr (.inl rfl), ?_⟩ | refine ⟨.inr (.inr (.inl ⟨rfl, rfl⟩)), ?_⟩ | refine ⟨.inr (.inr (.inr (.inl ⟨_, _, _, _, _, _, rfl, rfl, rfl, rfl, rfl⟩))), ?_⟩ | refine ⟨.inr (.inr (.inr (.inl ⟨_, _, _, _, _, _, rfl, rfl, rfl, (by simp only [List.length_map, List.length_set, List.length_append, List.length_cons, List.length_nil]), rfl⟩))), ?_⟩))), ⟨.inr (.inl rfl), trivial⟩, rfl, rfl⟩
  (refine zGo ?_)
  refine pw_cond rfl (fun h => ?_) (fun h => ?_)
  · (refine zGo ?_)
    refine pw_cond rfl (fun h2 => ?_) (fun h2 => ?_)
    · have h0 : 0 < t.devs.length := by simpa using h2
      have hc0 : c.1 ≠ 0 := by omega
      (refine zGo ?_)
      refine pw_draw [(0, true), (1, true), (2, true), (3, true), (4, false), (5, true), (6, true), (7, true), (8, true), (9, false)] hmix (by decide +kernel) ?_
      (refine zDgo ?_)
      (refine po_make rfl rfl (fun st' K hK => op_litF hT rfl rfl rfl rfl rfl (by decide) rfl rfl rfl rfl hK) ?_; refine zDn ?_)
      (refine zDgo ?_)
      (refine po_step rfl rfl (op_call [0] rfl rfl e13 (by decide) rfl rfl rfl zLe zLes (c13n l hl j1 hj1 3 (by decide) (by decide)) (fun r s hq => ?_)); obtain ⟨j2, ⟨k2, hk2, rfl⟩, hj2, rfl⟩ := hq; refine ⟨rfl, rfl, zLok, ?_⟩; refine zDn ?_)
      (refine zDgo ?_)
      (refine po_val rfl rfl (v_index (p := .int .i64 (spCap.getD k2 0)) hT rfl rfl rfl rfl (by omega) (lit_at (.int .i64) spCap k2 0 hk2) rfl) ?_; refine zDn ?_)
      (refine zDgo ?_)
      (refine po_val rfl rfl (v_indexm hT rfl rfl rfl rfl rfl (by decide) (by simp; omega) (hc0)) ?_; refine zDn ?_)
      (refine zDgo ?_)
      (refine po_step rfl rfl (op_storeE' (x0 := eDev t.devs[0]) (x1 := eDev { t.devs[0] with cap := spCap.getD k2 0 }) (xs' := (t.devs.set 0 { t.devs[0] with cap := spCap.getD k2 0 }).map eDev) hT rfl rfl rfl rfl rfl (hc0) (by simp [h0]) rfl rfl rfl rfl (Nat.le_of_ble_eq_true rfl) rfl (by simp [List.map_set]) ⟨zLok, ?_⟩); refine zDn ?_)
      (refine zDgo ?_)
      (refine zGo ?_)
      exact ⟨_, eTopo ({ t with devs := t.devs.set 0 { t.devs[0] with cap := spCap.getD k2 0 } }), [tape l j2], rfl, ⟨j2, { t with devs := t.devs.set 0 { t.devs[0] with cap := spCap.getD k2 0 } }, ht.dv (by simp; omega), rfl, hj2, rfl⟩, by (refine .inr (.inr (.inr (.inr (.inl ⟨_, _, rfl, rfl, ?_⟩)))); (repeat (first | trivial | refine ⟨.inr (.inl rfl), ?_⟩ | refine ⟨.inr (.inr (.inl ⟨rfl, rfl⟩)), ?_⟩ | refine ⟨.inr (.inr (.inr (.inl ⟨_, _, _, _, _, _, rfl, rfl, rfl, rfl, rfl⟩))), ?_⟩ | refine ⟨.inr (.inr (.inr (.inl ⟨_, _, _, _, _, _, rfl, rfl, rfl, (by simp only [List.length_map, List.length_set]), rfl⟩))), ?_⟩))), ⟨.inr (.inl rfl), trivial⟩, rfl, rfl⟩
    · (refine zGo ?_)
      exact ⟨_, eTopo (t), [tape l j1], rfl, ⟨j1, t, ht.up, rfl, hj1, rfl⟩, by (refine .inr (.inr (.inr (.inr (.inl ⟨_, _, rfl, rfl, ?_⟩)))); (repeat (first | trivial | refine ⟨.inr (.inl rfl), ?_⟩ | refine ⟨.inr (.inr (.inl ⟨rfl, rfl⟩)), ?_⟩ | refine ⟨.inr (.inr (.inr (.inl ⟨_, _, _, _, _, _, rfl, rfl, rfl, rfl, rfl⟩))), ?_⟩ | refine ⟨.inr (.inr (.inr (.inl ⟨_, _, _, _, _, _, rfl, rfl, rfl, (by simp only [List.length_map, List.length_set, List.length_append, List.length_cons, List.length_nil]), rfl⟩))), ?_⟩))), ⟨.inr (.inl rfl), trivial⟩, rfl, rfl⟩
  (refine zGo ?_)
  refine pw_cond rfl (fun h2 => ?_) (fun h2 => ?_)
  · have h0 : 0 < t.edges.length := by simpa using h2
    have hc0 : c.2.2.1 ≠ 0 := by omega
    (refine zGo ?_)
    (refine pl_op rfl (op_sliceF (m := 1) hT rfl rfl rfl rfl rfl rfl (by simp; omega) ?_ ?_); (focus (simp only [List.all_map]; exact List.all_eq_true.2 fun _ _ => rfl)); (refine zNp ?_))
    (refine zGo ?_)
    exact ⟨_, eTopo ({ t with edges := t.edges.drop 1 }), [tape l j1], rfl, ⟨j1, { t with edges := t.edges.drop 1 }, ht.ed (by simp; omega) (fun e he => ht.ein e (List.mem_of_mem_drop he)), rfl, hj1, rfl⟩, by (simp only [eTopo, List.map_drop]; (refine .inr (.inr (.inr (.inr (.inl ⟨_, _, rfl, rfl, ?_⟩)))); (repeat (first | trivial | refine ⟨.inr (.inl rfl), ?_⟩ | refine ⟨.inr (.inr (.inl ⟨rfl, rfl⟩)), ?_⟩ | refine ⟨.inr (.inr (.inr (.inl ⟨_, _, _, _, _, _, rfl, rfl, rfl, rfl, rfl⟩))), ?_⟩ | refine ⟨.inr (.inr (.inr (.inl ⟨_, _, _, _, _, _, rfl, rfl, rfl, (by simp only [List.length_map, List.length_set, List.length_append, List.length_cons, List.length_nil]), rfl⟩))), ?_⟩)))), ⟨.inr (.inl rfl), trivial⟩, rfl, rfl⟩
  · (refine zGo ?_)
    exact ⟨_, eTopo (t), [tape l j1], rfl, ⟨j1, t, ht.up, rfl, hj1, rfl⟩, by (refine .inr (.inr (.inr (.inr (.inl ⟨_, _, rfl, rfl, ?_⟩)))); (repeat (first | trivial | refine ⟨.inr (.inl rfl), ?_⟩ | refine ⟨.inr (.inr (.inl ⟨rfl, rfl⟩)), ?_⟩ | refine ⟨.inr (.inr (.inr (.inl ⟨_, _, _, _, _, _, rfl, rfl, rfl, rfl, rfl⟩))), ?_⟩ | refine ⟨.inr (.inr (.inr (.inl ⟨_, _, _, _, _, _, rfl, rfl, rfl, (by simp only [List.length_map, List.length_set, List.length_append, List.length_cons, List.length_nil]), rfl⟩))), ?_⟩))), ⟨.inr (.inl rfl), trivial⟩, rfl, rfl⟩
end Go.Proofs.YtdehdgbdcfkpbaaGreatDoor
