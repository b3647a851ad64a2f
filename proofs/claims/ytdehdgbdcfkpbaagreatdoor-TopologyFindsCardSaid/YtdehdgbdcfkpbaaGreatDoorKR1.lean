/-
  What the arguments of the laws on topologies read as.
-/
import Derived.Test.YtdehdgbdcfkpbaaGreatDoorJPwLoop
import Derived.Test.YtdehdgbdcfkpbaaGreatDoorKC4
namespace Go.Proofs.YtdehdgbdcfkpbaaGreatDoor
open Go Go.Pw
theorem wt_int {n : Nat} {t : TypeId} {ps : List PV} {k : IntKind} {a b : Nat} {z : Option (List PV)} (ht : tys[t]? = some ⟨.int k, a, b, z⟩) (h : WT tys (n + 1) t ps) : ∃ m, ps = [.int k m] ∧ k.min ≤ m ∧ m ≤ k.max := by
  unfold WT at h
  rw [ht] at h
  obtain ⟨m, hm, hw⟩ := h
  refine ⟨m, hm, ?_⟩
  simpa [Lit.wf] using hw
theorem wt_bool {n : Nat} {t : TypeId} {ps : List PV} {a b : Nat} {z : Option (List PV)} (ht : tys[t]? = some ⟨.bool, a, b, z⟩) (h : WT tys (n + 1) t ps) : ∃ m, ps = [.bool m] := by
  unfold WT at h
  rw [ht] at h
  exact h
theorem wt_str {n : Nat} {t : TypeId} {ps : List PV} {a b : Nat} {z : Option (List PV)} (ht : tys[t]? = some ⟨.str, a, b, z⟩) (h : WT tys (n + 1) t ps) : ∃ m, ps = [.str m] := by
  unfold WT at h
  rw [ht] at h
  obtain ⟨m, hm, _⟩ := h
  exact ⟨m, hm⟩
theorem wt_strct {n : Nat} {t : TypeId} {ps : List PV} {l : List (Nat × Nat × Bool × TypeId)} {a b : Nat} {z : Option (List PV)} (ht : tys[t]? = some ⟨.strct l, a, b, z⟩) (h : WT tys (n + 1) t ps) : ps.length = a ∧ ∀ (i : Nat) x, l[i]? = some x → WT tys n x.2.2.2 ((ps.drop x.1).take x.2.1) := by
  unfold WT at h
  rw [ht] at h
  exact ⟨h.1, fun i x hx => h.2 x (List.mem_of_getElem? hx)⟩
theorem map_of {α : Type} {Q : α → Prop} {e : α → PV} : ∀ {xs : List PV}, (∀ x ∈ xs, ∃ d, Q d ∧ x = e d) → ∃ l : List α, xs = l.map e ∧ ∀ d ∈ l, Q d
  | [], _ => ⟨[], rfl, by simp⟩
  | x :: xs, h => by
    obtain ⟨d, hd, rfl⟩ := h x (List.mem_cons_self ..)
    obtain ⟨l, rfl, hl⟩ := map_of (xs := xs) fun y hy => h y (List.mem_cons_of_mem _ hy)
    refine ⟨d :: l, rfl, fun z hz => ?_⟩
    rcases List.mem_cons.1 hz with rfl | hz
    · exact hd
    · exact hl z hz
theorem wt_sl {α : Type} {Q : α → Prop} {e : α → PV} {n : Nat} {t el s : TypeId} {ps : List PV} {a b c : Nat} {z : Option (List PV)} (ht : tys[t]? = some ⟨.sl el s c, a, b, z⟩) (h : WT tys (n + 1) t ps)
    (he : ∀ cells, WT tys n el cells → ∃ d, Q d ∧ mkE (((tys[el]?).map fun ti => ti.tk.agg).getD false) cells = e d) : ∃ l : List α, ps = [.sl (l.map e)] ∧ l.length ≤ maxLen ∧ ∀ d ∈ l, Q d := by
  unfold WT at h
  rw [ht] at h
  obtain ⟨xs, rfl, hl, hx⟩ := h
  obtain ⟨l, rfl, hq⟩ := map_of (e := e) (Q := Q) (xs := xs) fun x hxm => by
    obtain ⟨_, h2, h3⟩ := hx x hxm
    obtain ⟨d, hd, hde⟩ := he _ h2
    exact ⟨d, hd, h3.trans hde⟩
  exact ⟨l, rfl, by simpa only [List.length_map] using hl, hq⟩
def PfxIn' (p : TPfx) : Prop := 0 ≤ p.addr ∧ p.addr < 4294967296
theorem u32_bounds {m : Int} (h : IntKind.u32.min ≤ m ∧ m ≤ IntKind.u32.max) : 0 ≤ m ∧ m < 4294967296 := by
  have h1 : IntKind.u32.min = 0 := by decide
  have h2 : IntKind.u32.max = 4294967295 := by decide
  rw [h1, h2] at h
  omega
theorem wt_pfx {n : Nat} {cells : List PV} (h : WT tys (n + 2) 47 cells) : ∃ p, PfxIn' p ∧ cells = (ePfx p).cells := by
  obtain ⟨hl, hf⟩ := wt_strct (t := 47) rfl h
  match cells, hl with
  | [c0, c1], _ =>
    obtain ⟨a, ha, hb⟩ := wt_int (t := 41) rfl (hf 0 _ rfl)
    obtain ⟨b, hbb, _⟩ := wt_int (t := 3) rfl (hf 1 _ rfl)
    cases ha; cases hbb
    exact ⟨⟨a, b⟩, u32_bounds hb, rfl⟩
theorem wt_dev {n : Nat} {cells : List PV} (h : WT tys (n + 2) 72 cells) : ∃ d, True ∧ PV.agg cells = eDev d := by
  obtain ⟨hl, hf⟩ := wt_strct (t := 72) rfl h
  match cells, hl with
  | [c0, c1, c2, c3, c4], _ =>
    obtain ⟨x0, h0⟩ := wt_str (t := 9) rfl (hf 0 _ rfl)
    obtain ⟨x1, h1, _⟩ := wt_int (t := 3) rfl (hf 1 _ rfl)
    obtain ⟨x2, h2⟩ := wt_bool (t := 4) rfl (hf 2 _ rfl)
    obtain ⟨x3, h3⟩ := wt_bool (t := 4) rfl (hf 3 _ rfl)
    obtain ⟨x4, h4⟩ := wt_str (t := 9) rfl (hf 4 _ rfl)
    cases h0; cases h1; cases h2; cases h3; cases h4
    exact ⟨⟨x0, x1, x2, x3, x4⟩, trivial, rfl⟩
theorem wt_link {n : Nat} {cells : List PV} (h : WT tys (n + 2) 75 cells) : ∃ d, True ∧ PV.agg cells = eLink d := by
  obtain ⟨hl, hf⟩ := wt_strct (t := 75) rfl h
  match cells, hl with
  | [c0, c1, c2], _ =>
    obtain ⟨x0, h0, _⟩ := wt_int (t := 3) rfl (hf 0 _ rfl)
    obtain ⟨x1, h1, _⟩ := wt_int (t := 3) rfl (hf 1 _ rfl)
    obtain ⟨x2, h2, _⟩ := wt_int (t := 3) rfl (hf 2 _ rfl)
    cases h0; cases h1; cases h2
    exact ⟨⟨x0, x1, x2⟩, trivial, rfl⟩
theorem wt_edge {n : Nat} {cells : List PV} (h : WT tys (n + 3) 49 cells) : ∃ e, PfxIn' e.pfx ∧ PV.agg cells = eEdge e := by
  obtain ⟨hl, hf⟩ := wt_strct (t := 49) rfl h
  match cells, hl with
  | [c0, c1, c2, c3, c4, c5], _ =>
    obtain ⟨x0, h0⟩ := wt_str (t := 9) rfl (hf 0 _ rfl)
    obtain ⟨x1, h1, _⟩ := wt_int (t := 3) rfl (hf 1 _ rfl)
    obtain ⟨x2, h2⟩ := wt_str (t := 9) rfl (hf 2 _ rfl)
    obtain ⟨p, hp, h3⟩ := wt_pfx (hf 3 _ rfl)
    obtain ⟨x5, h5⟩ := wt_bool (t := 4) rfl (hf 4 _ rfl)
    cases h0; cases h1; cases h2; cases h3; cases h5
    exact ⟨⟨x0, x1, x2, p, x5⟩, hp, rfl⟩
structure TIn (t : Topo) : Prop where
  ein : ∀ e ∈ t.edges, PfxIn' e.pfx
  pin : ∀ p ∈ t.pools, PfxIn' p
theorem wt_topo {n : Nat} {cells : List PV} (h : WT tys (n + 5) 33 cells) : ∃ t, TIn t ∧ PV.agg cells = eTopo t := by
  obtain ⟨hl, hf⟩ := wt_strct (t := 33) rfl h
  match cells, hl with
  | [c0, c1, c2, c3, c4], _ =>
    obtain ⟨l0, h0, _, _⟩ := wt_sl (t := 28) (e := eDev) (Q := fun _ => True) rfl (hf 0 _ rfl) fun cells hc => wt_dev hc
    obtain ⟨l1, h1, _, _⟩ := wt_sl (t := 29) (e := eLink) (Q := fun _ => True) rfl (hf 1 _ rfl) fun cells hc => wt_link hc
    obtain ⟨l2, h2, _, q2⟩ := wt_sl (t := 30) (e := eEdge) (Q := fun e => PfxIn' e.pfx) rfl (hf 2 _ rfl) fun cells hc => wt_edge hc
    obtain ⟨l3, h3, _, q3⟩ := wt_sl (t := 31) (e := ePfx) (Q := PfxIn') rfl (hf 3 _ rfl) fun cells hc => by
      obtain ⟨p, hp, rfl⟩ := wt_pfx hc
      exact ⟨p, hp, rfl⟩
    obtain ⟨x4, h4, _⟩ := wt_int (t := 3) rfl (hf 4 _ rfl)
    cases h0; cases h1; cases h2; cases h3; cases h4
    exact ⟨⟨l0, l1, l2, l3, x4⟩, ⟨q2, q3⟩, rfl⟩
theorem wt_ints {n : Nat} {cells : List PV} (h : WT tys (n + 2) 22 cells) : ∃ l : List Int, cells = [.sl (l.map eInt)] ∧ l.length ≤ maxLen := by
  obtain ⟨l, h0, hl, _⟩ := wt_sl (t := 22) (e := eInt) (Q := fun _ => True) rfl h fun cells hc => by
    obtain ⟨m, rfl, _⟩ := wt_int (t := 3) rfl hc
    exact ⟨m, trivial, rfl⟩
  exact ⟨l, h0, hl⟩
end Go.Proofs.YtdehdgbdcfkpbaaGreatDoor
