/-
  Contracts of functions, walked over pure values.
-/
import Derived.Test.YtdehdgbdcfkpbaaGreatDoorKC6
import Derived.Test.YtdehdgbdcfkpbaaGreatDoorJPwLoop
namespace Go.Proofs.YtdehdgbdcfkpbaaGreatDoor
open Go Go.Pw
variable {Gl : Glob}
attribute [local irreducible] PW PWL OpP PCalls PWO
set_option maxHeartbeats 20000000
set_option maxRecDepth 100000

/-! ### Tape.Planned -/
def plBits : List Int := [24, 23, 25, 22, 26, 32, 30]
structure EdgeP (n i : Nat) (e : TEdge) : Prop where
  name : e.name = names5.getD i []
  d0 : 0 ≤ e.dev
  dn : e.dev < n
  zone : e.zone ∈ zones3
  pfx : (e.planned = false ∧ e.pfx = subnets.getD i ⟨0, 0⟩) ∨ (e.planned = true ∧ ∃ b ∈ plBits, e.pfx = ⟨0, b⟩)
structure PGen (n : Nat) (t : Topo) : Prop where
  n1 : 1 ≤ n
  n6 : n ≤ 6
  dl : t.devs.length = n
  ll : t.links.length ≤ n + 3
  el : t.edges.length ≤ 5
  devs : ∀ (i : Nat) d, t.devs[i]? = some d → DevG i d
  links : ∀ x ∈ t.links, LinkG n x
  edges : ∀ (i : Nat) e, t.edges[i]? = some e → EdgeP n i e
  pools : t.pools = [pool1] ∨ t.pools = [pool2] ∨ t.pools = [pool1, pool2]
  tol : t.tol ∈ tol5
theorem EdgeG.p {n i : Nat} {e : TEdge} (h : EdgeG n i e) : EdgeP n i e := ⟨h.name, h.d0, h.dn, h.zone, .inl ⟨h.planned, h.pfx⟩⟩
theorem c14 (l : List Int) (hl : Tp l) (j : Nat) (hj : j ≤ l.length) (n : Nat) (h1 : 1 ≤ n) (h2 : n ≤ 1000) : PCalls Tryz.prog Gl 14 [.ptr 0 0, .int .i64 n] [tape l j] fun r s => ∃ (j : Nat) (t : Topo) (c : Caps), (∃ m, m ≤ n ∧ PGen m t) ∧ j ≤ l.length ∧ r = .agg (mTopo 4 t c) ∧ s = tape l j :: .dead :: .dead :: .dead :: aTopo t c := by
  refine PCalls.of hT Tryz.func14 rfl 8 (Nat.le_of_ble_eq_true rfl) fun B hD => ?_
  refine pw_norm rfl ?_
  (refine zGo ?_)
  (refine pl_op rfl (op_call [0] rfl rfl e12 (by decide) rfl rfl rfl zLe zLes (c12 l hl j hj n h1 h2) (fun r s hq => ?_)); obtain ⟨j1, t, c, ⟨m, hmn, hg⟩, hj1, rfl, rfl⟩ := hq; refine ⟨rfl, rfl, ?_⟩; (refine zNp ?_))
  (refine zGo ?_)
  obtain ⟨devs, links, edges, pools, tol⟩ := t
  refine pw_joinX hD (fun x : List TPfx × Nat => x.1 = [pool1] ∨ x.1 = [pool2] ∨ x.1 = [pool1, pool2]) (fun _ => [(9, .any), (11, .any)]) (fun x => tape l j1 :: gbox :: .dead :: .dead :: (aTopo ⟨devs, links, edges, x.1, tol⟩ (c.1, c.2.1, c.2.2.1, x.2) ++ [.box (mTopo 4 ⟨devs, links, edges, x.1, tol⟩ (c.1, c.2.1, c.2.2.1, x.2))])) 9 rfl (fun _ => rfl) (fun _ => rfl) (fun _ => rfl) ?_ ?_
  · refine pw_cond rfl (fun h => ?_) (fun h => ?_)
    · have hp : pools = [] := by
        have : (pools.map ePfx).length = 0 := by simpa using h
        simpa using this
      subst hp
      (refine zGo ?_)
      (refine pl_append (b := 16) hT hD rfl rfl rfl rfl rfl rfl rfl rfl (.inl (Nat.zero_lt_succ _)) rfl rfl (by simp <;> omega) (fun cap2 _ hcap => ?_); (refine zNp ?_))
      (refine zGo ?_)
      exact ⟨([pool1], cap2), .inl rfl, by (exact zLe), by (exact zLes)⟩
    · have hp := hg.pools
      have hne : ¬ pools = [] := by rintro rfl; simp at h
      (refine zGo ?_)
      exact ⟨(pools, c.2.2.2), by rcases hp with hp | hp | hp | hp; exact absurd hp hne; exact .inl hp; exact .inr (.inl hp); exact .inr (.inr hp), by (exact zLe), by (exact zLes)⟩
  rintro ⟨pools2, pc⟩ hp
  dsimp only at hp ⊢
  (refine zGo ?_)
  have hel : edges.length ≤ 5 := hg.el
  refine pw_room 6 (k := 6) (cap := c.2.2.1) (xs := edges.map eEdge) rfl fun hroom => ?_
  have hroom : edges.length ≤ c.2.2.1 := by simpa using hroom
  refine pw_for hD (fun a : Nat × List TEdge × Nat => [(6, .int .i64 a.1)]) (fun a => tape l a.2.2 :: gbox :: .dead :: .dead :: (aTopo ⟨devs, links, a.2.1, pools2, tol⟩ (c.1, c.2.1, c.2.2.1, pc) ++ [.box (mTopo 4 ⟨devs, links, a.2.1, pools2, tol⟩ (c.1, c.2.1, c.2.2.1, pc))]))
    (fun a => a.1 ≤ a.2.1.length ∧ a.2.1.length = edges.length ∧ a.2.2 ≤ l.length ∧ ∀ (k : Nat) e, a.2.1[k]? = some e → EdgeP m k e) (fun a => edges.length - a.1) (0, edges, j1) ⟨Nat.zero_le _, rfl, hj1, fun k e he => (hg.edges k e he).p⟩ 9 rfl (fun _ => rfl)
    (by (exact zLes)) (fun _ => rfl) (fun _ => rfl) (by (exact zLe)) ?_
  rintro ⟨i, es, j⟩ ⟨hi, hlen, hj, hes⟩
  dsimp only at hi hlen hj hes ⊢
  (refine zGo ?_)
  refine pw_cond rfl (fun h => ?_) (fun h => ?_)
  · simp only [decide_eq_true_eq, List.length_map] at h
    have hlt : i < es.length := by omega
    have hei := hes i es[i] (List.getElem?_eq_getElem hlt)
    have hcap0 : c.2.2.1 ≠ 0 := by omega
    (refine zGo ?_)
    (refine pl_op rfl (op_call [0] rfl rfl e13 (by decide) rfl rfl rfl zLe zLes (c13n l hl j hj 2 (by decide) (by decide)) (fun r s hq => ?_)); obtain ⟨j2, ⟨k2, hk2, rfl⟩, hj2, rfl⟩ := hq; refine ⟨rfl, rfl, ?_⟩; (refine zNp ?_))
    (refine zGo ?_)
    refine pw_cond rfl (fun h3 => ?_) (fun h3 => ?_)
    · (refine zGo ?_)
      refine pw_draw [(0, true), (1, true), (2, true), (3, true), (4, true), (5, true), (6, true), (7, true), (8, false), (9, true), (10, true), (11, true), (12, true), (13, true), (14, false), (15, true), (16, true), (17, false)] hmix (by decide +kernel) ?_
      (refine zDgo ?_)
      (refine po_make rfl rfl (fun st' K hK => op_litF hT rfl rfl rfl rfl rfl (by decide) rfl rfl rfl rfl hK) ?_; refine zDn ?_)
      (refine zDgo ?_)
      (refine po_step rfl rfl (op_call [0] rfl rfl e13 (by decide) rfl rfl rfl zLe zLes (c13n l hl j2 hj2 7 (by decide) (by decide)) (fun r s hq => ?_)); obtain ⟨j3, ⟨k3, hk3, rfl⟩, hj3, rfl⟩ := hq; refine ⟨rfl, rfl, zLok, ?_⟩; refine zDn ?_)
      (refine zDgo ?_)
      (refine po_val rfl rfl (v_index (p := .int .i64 (plBits.getD k3 0)) hT rfl rfl rfl rfl (by omega) (lit_at (.int .i64) plBits k3 0 hk3) rfl) ?_; refine zDn ?_)
      (refine zDgo ?_)
      (refine po_val rfl rfl (v_indexm hT rfl rfl rfl rfl rfl (by omega) (by simp; omega) (hcap0)) ?_; refine zDn ?_)
      (refine zDgo ?_)
      (refine po_step rfl rfl (op_storeE' (x0 := eEdge es[i]) (x1 := eEdge { es[i] with planned := true }) (xs' := (es.set i { es[i] with planned := true }).map eEdge) hT rfl rfl rfl rfl rfl (hcap0) (by simp [hlt]) rfl rfl rfl rfl (Nat.le_of_ble_eq_true rfl) rfl (by simp [List.map_set]) ⟨zLok, ?_⟩); refine zDn ?_)
      (refine zDgo ?_)
      (refine po_val rfl rfl (v_indexm hT rfl rfl rfl rfl rfl (by omega) (by simp; omega) (hcap0)) ?_; refine zDn ?_)
      (refine zDgo ?_)
      (refine po_step rfl rfl (op_storeE' (x0 := eEdge { es[i] with planned := true }) (x1 := eEdge { es[i] with planned := true, pfx := ⟨0, plBits.getD k3 0⟩ }) (xs' := (es.set i { es[i] with planned := true, pfx := ⟨0, plBits.getD k3 0⟩ }).map eEdge) hT rfl rfl rfl rfl rfl (hcap0) (by simp [hlt]) rfl rfl rfl rfl (Nat.le_of_ble_eq_true rfl) rfl (by simp [List.map_set]) ⟨zLok, ?_⟩); refine zDn ?_)
      (refine zDgo ?_)
      (refine zGo ?_)
      refine ⟨(i + 1, es.set i { es[i] with planned := true, pfx := ⟨0, plBits.getD k3 0⟩ }, j3), ⟨by simp; omega, by simpa using hlen, hj3, fun k e he => ?_⟩, by show _ - (i + 1) < _ - i; omega, by (exact zLe), ?_⟩
      · rw [List.getElem?_set] at he
        by_cases hik : i = k
        · subst hik
          rw [if_pos rfl, if_pos hlt] at he
          cases he
          exact ⟨hei.name, hei.d0, hei.dn, hei.zone, .inr ⟨rfl, _, getD_mem hk3, rfl⟩⟩
        · rw [if_neg hik] at he
          exact hes k e he
      · simp only [aTopo, mTopo, List.length_map, List.length_set]
        (exact zLes)
    · (refine zGo ?_)
      exact ⟨(i + 1, es, j2), ⟨hlt, hlen, hj2, hes⟩, by show _ - (i + 1) < _ - i; omega, by (exact zLe), by (exact zLes)⟩
  · simp only [decide_eq_false_iff_not] at h
    (refine zGo ?_)
    exact ⟨_, _, _, rfl, ⟨j, ⟨devs, links, es, pools2, tol⟩, (c.1, c.2.1, c.2.2.1, pc), ⟨m, hmn, ⟨hg.n1, hg.n6, hg.dl, hg.ll, by show es.length ≤ 5; omega, hg.devs, hg.links, hes, hp, hg.tol⟩⟩, hj, rfl, rfl⟩, .inr (.inl rfl), ⟨.inr (.inl rfl), .inl rfl, .inl rfl, .inl rfl, .inr (.inl rfl), .inr (.inl rfl), .inr (.inl rfl), .inr (.inl rfl), trivial⟩, rfl, rfl⟩
end Go.Proofs.YtdehdgbdcfkpbaaGreatDoor
