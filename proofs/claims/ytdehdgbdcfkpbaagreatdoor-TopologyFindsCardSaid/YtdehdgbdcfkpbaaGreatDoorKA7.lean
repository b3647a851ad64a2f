/-
  Contracts of functions, walked over pure values.
-/
import Derived.Test.YtdehdgbdcfkpbaaGreatDoorKA6
namespace Go.Proofs.YtdehdgbdcfkpbaaGreatDoor
open Go Go.Pw
variable {Gl : Glob}
attribute [local irreducible] PW PWL OpP PCalls PWO

/-! ### the reference's lookups -/
theorem c50 (t : Topo) (name : Str) (hl : Small t.edges) : PFun Tryz.prog Gl 50 [eTopo t, .str name] fun r => r = .int .i64 (tEdge t name) := by
  refine PFun.of hT Tryz.func50 rfl fun B hD => ?_
  refine pw_norm rfl ?_
  (refine zGo ?_)
  refine pw_for hD (fun i : Nat => [(5, .int .i64 i)]) (fun _ => [.box (eTopo t).cells]) (fun i => i ≤ t.edges.length ∧ ∀ (j : Nat) d, j < i → t.edges[j]? = some d → (d.name == name) = false) (fun i => t.edges.length - i) 0 ⟨by omega, by intro j d h; omega⟩ 1 rfl (fun _ => rfl) (StLe.refl _) (fun _ => rfl) (fun _ => rfl) (by (exact zLe)) ?_
  rintro i ⟨hi, hno⟩
  unfold Small at hl
  (refine zGo ?_)
  refine pw_cond rfl (fun h => ?_) (fun h => ?_)
  · simp only [decide_eq_true_eq, List.length_map] at h
    have hlt : i < t.edges.length := by omega
    (refine zGo ?_)
    (refine pl_op rfl (op_of (v_index (p := eEdge t.edges[i]) hT rfl rfl rfl rfl (by omega) (by simp [hlt]) rfl) ?_); (refine zNp ?_))
    (refine zGo ?_)
    refine pw_cond rfl (fun h2 => ?_) (fun h2 => ?_)
    · (refine zGo ?_)
      refine ret1 _ rfl ?_ rfl
      rw [tEdge, firstAt_hit hlt h2 hno]
    · (refine zGo ?_)
      refine ⟨i + 1, ⟨by omega, fun j d hj hd => ?_⟩, by omega, by (exact zLe), StLe.refl _⟩
      rcases Nat.lt_succ_iff_lt_or_eq.1 hj with hj | rfl
      · exact hno j d hj hd
      · rw [List.getElem?_eq_getElem hlt] at hd; cases hd; exact h2
  · simp only [decide_eq_false_iff_not, List.length_map] at h
    (refine zGo ?_)
    refine ret1 _ rfl ?_ rfl
    rw [tEdge, firstAt_miss fun j x hj => hno j x (by have := (List.getElem?_eq_some_iff.1 hj).1; omega) hj]
def rAt (t : Topo) (a : Int) : Int := firstAt (fun d => !d.planned && rcont d.pfx a) t.edges
theorem c67 (t : Topo) (a : Int) (hl : Small t.edges) : PFun Tryz.prog Gl 67 [eTopo t, .int .u32 a] fun r => r = .int .i64 (rAt t a) := by
  refine PFun.of hT Tryz.func67 rfl fun B hD => ?_
  refine pw_norm rfl ?_
  (refine zGo ?_)
  refine pw_for hD (fun i : Nat => [(5, .int .i64 i)]) (fun _ => [.box (eTopo t).cells]) (fun i => i ≤ t.edges.length ∧ ∀ (j : Nat) d, j < i → t.edges[j]? = some d → (!d.planned && rcont d.pfx a) = false) (fun i => t.edges.length - i) 0 ⟨by omega, by intro j d h; omega⟩ 1 rfl (fun _ => rfl) (StLe.refl _) (fun _ => rfl) (fun _ => rfl) (by (exact zLe)) ?_
  rintro i ⟨hi, hno⟩
  unfold Small at hl
  (refine zGo ?_)
  refine pw_cond rfl (fun h => ?_) (fun h => ?_)
  · simp only [decide_eq_true_eq, List.length_map] at h
    have hlt : i < t.edges.length := by omega
    (refine zGo ?_)
    (refine pl_op rfl (op_of (v_index (p := eEdge t.edges[i]) hT rfl rfl rfl rfl (by omega) (by simp [hlt]) rfl) ?_); (refine zNp ?_))
    (refine zGo ?_)
    refine pl_and 9 20 29 (rcont t.edges[i].pfx a) rfl rfl rfl (fun h2 => ?_) (fun h2 => ?_) ?_
    · refine pl_norm rfl ?_
      (refine zGo ?_)
      (refine pl_on rfl rfl (op_of (v_index (p := eEdge t.edges[i]) hT rfl rfl rfl rfl (by omega) (by simp [hlt]) rfl) ?_); refine pl_norm rfl ?_)
      (refine zGo ?_)
      (refine pl_on rfl rfl (op_fun (c23 t.edges[i].pfx a) rfl rfl e23 zLe rfl (fun r hr => ?_)); subst hr; refine ⟨rfl, ?_⟩; (refine zNp ?_))
      (refine zGo ?_)
      exact ⟨by (exact zLe), StLe.refl _⟩
    · refine pl_norm rfl ?_
      (refine zGo ?_)
      exact ⟨by (exact zLe), StLe.refl _⟩
    refine pl_norm rfl ?_
    (refine zGo ?_)
    refine pw_cond rfl (fun h2 => ?_) (fun h2 => ?_)
    · (refine zGo ?_)
      refine ret1 _ rfl ?_ rfl
      rw [rAt, firstAt_hit hlt h2 hno]
    · (refine zGo ?_)
      refine ⟨i + 1, ⟨by omega, fun j d hj hd => ?_⟩, by omega, by (exact zLe), StLe.refl _⟩
      rcases Nat.lt_succ_iff_lt_or_eq.1 hj with hj | rfl
      · exact hno j d hj hd
      · rw [List.getElem?_eq_getElem hlt] at hd; cases hd; exact h2
  · simp only [decide_eq_false_iff_not, List.length_map] at h
    (refine zGo ?_)
    refine ret1 _ rfl ?_ rfl
    rw [rAt, firstAt_miss fun j x hj => hno j x (by have := (List.getElem?_eq_some_iff.1 hj).1; omega) hj]
theorem c70 (t : Topo) (v : Int) (hl : Small t.edges) : PFun Tryz.prog Gl 70 [eTopo t, .int .i64 v] fun r => r = .sl ((tEdges t v).map eInt) := by
  refine PFun.of hT Tryz.func70 rfl fun B hD => ?_
  refine pw_norm rfl ?_
  (refine zGo ?_)
  refine pw_ghost 1 ?_
  refine pw_norm rfl ?_
  let p : TEdge → Bool := fun e => e.dev == v
  refine pw_for hD (fun a : Nat × Nat => [(5, .msl 1 1 0 ((selTo p t.edges a.1).map eInt).length a.2), (6, .int .i64 a.1)]) (fun a => [.box (eTopo t).cells, .arr 1 ((selTo p t.edges a.1).map eInt) a.2]) (fun a => a.1 ≤ t.edges.length) (fun a => t.edges.length - a.1) (0, 0) (by simp) 2 rfl (fun _ => rfl) (StLe.refl _) (fun _ => rfl)
    (fun _ => rfl) (by (exact zLe)) ?_
  rintro ⟨i, cap⟩ hi
  unfold Small at hl
  (refine zGo ?_)
  refine pw_cond rfl (fun h => ?_) (fun h => ?_)
  · simp only [decide_eq_true_eq, List.length_map] at h
    have hlt : i < t.edges.length := by omega
    (refine zGo ?_)
    (refine pl_op rfl (op_of (v_index (p := eEdge t.edges[i]) hT rfl rfl rfl rfl (by omega) (by simp [hlt]) rfl) ?_); (refine zNp ?_))
    (refine zGo ?_)
    refine pw_cond rfl (fun h2 => ?_) (fun h2 => ?_)
    · (refine zGo ?_)
      have hn := selTo_len p t.edges i
      (refine pl_append (b := 8) hT hD rfl rfl rfl rfl rfl rfl rfl rfl (.inl (Nat.zero_lt_succ _)) rfl rfl (by simp; omega) (fun cap' _ hcap => ?_); (refine zNp ?_))
      (refine zGo ?_)
      have hs := selTo_yes (p := p) (l := t.edges) (List.getElem?_eq_getElem hlt) h2
      refine ⟨(i + 1, cap'), by show i + 1 ≤ _; omega, by show _ - (i + 1) < _ - i; omega, ?_, ?_⟩
      · simp only [hs, List.map_append, List.length_append]
        (exact zLe)
      · simp only [hs, List.map_append]
        (exact zLes)
    · (refine zGo ?_)
      have hs := selTo_no (p := p) (l := t.edges) (List.getElem?_eq_getElem hlt) h2
      refine ⟨(i + 1, cap), by show i + 1 ≤ _; omega, by show _ - (i + 1) < _ - i; omega, ?_, ?_⟩
      · simp only [hs]
        (exact zLe)
      · simp only [hs]
        (exact zLes)
  · simp only [decide_eq_false_iff_not, List.length_map] at h
    have hge : i = t.edges.length := by omega
    subst hge
    (refine zGo ?_)
    exact ret0 _ _ rfl rfl (.inr (.inr (.inr (.inl ⟨_, _, _, _, _, _, rfl, rfl, rfl, rfl, rfl⟩)))) rfl
theorem c72 (t : Topo) (v : Str) (hl : Small t.edges) : PFun Tryz.prog Gl 72 [eTopo t, .str v] fun r => r = .sl ((tZone t v).map eInt) := by
  refine PFun.of hT Tryz.func72 rfl fun B hD => ?_
  refine pw_norm rfl ?_
  (refine zGo ?_)
  refine pw_ghost 1 ?_
  refine pw_norm rfl ?_
  let p : TEdge → Bool := fun e => e.zone == v
  refine pw_for hD (fun a : Nat × Nat => [(5, .msl 1 1 0 ((selTo p t.edges a.1).map eInt).length a.2), (6, .int .i64 a.1)]) (fun a => [.box (eTopo t).cells, .arr 1 ((selTo p t.edges a.1).map eInt) a.2]) (fun a => a.1 ≤ t.edges.length) (fun a => t.edges.length - a.1) (0, 0) (by simp) 2 rfl (fun _ => rfl) (StLe.refl _) (fun _ => rfl)
    (fun _ => rfl) (by (exact zLe)) ?_
  rintro ⟨i, cap⟩ hi
  unfold Small at hl
  (refine zGo ?_)
  refine pw_cond rfl (fun h => ?_) (fun h => ?_)
  · simp only [decide_eq_true_eq, List.length_map] at h
    have hlt : i < t.edges.length := by omega
    (refine zGo ?_)
    (refine pl_op rfl (op_of (v_index (p := eEdge t.edges[i]) hT rfl rfl rfl rfl (by omega) (by simp [hlt]) rfl) ?_); (refine zNp ?_))
    (refine zGo ?_)
    refine pw_cond rfl (fun h2 => ?_) (fun h2 => ?_)
    · (refine zGo ?_)
      have hn := selTo_len p t.edges i
      (refine pl_append (b := 8) hT hD rfl rfl rfl rfl rfl rfl rfl rfl (.inl (Nat.zero_lt_succ _)) rfl rfl (by simp; omega) (fun cap' _ hcap => ?_); (refine zNp ?_))
      (refine zGo ?_)
      have hs := selTo_yes (p := p) (l := t.edges) (List.getElem?_eq_getElem hlt) h2
      refine ⟨(i + 1, cap'), by show i + 1 ≤ _; omega, by show _ - (i + 1) < _ - i; omega, ?_, ?_⟩
      · simp only [hs, List.map_append, List.length_append]
        (exact zLe)
      · simp only [hs, List.map_append]
        (exact zLes)
    · (refine zGo ?_)
      have hs := selTo_no (p := p) (l := t.edges) (List.getElem?_eq_getElem hlt) h2
      refine ⟨(i + 1, cap), by show i + 1 ≤ _; omega, by show _ - (i + 1) < _ - i; omega, ?_, ?_⟩
      · simp only [hs]
        (exact zLe)
      · simp only [hs]
        (exact zLes)
  · simp only [decide_eq_false_iff_not, List.length_map] at h
    have hge : i = t.edges.length := by omega
    subst hge
    (refine zGo ?_)
    exact ret0 _ _ rfl rfl (.inr (.inr (.inr (.inl ⟨_, _, _, _, _, _, rfl, rfl, rfl, rfl, rfl⟩)))) rfl
theorem c107 (a b : List Int) (hl : Small a) : PFun Tryz.prog Gl 107 [.sl (a.map eInt), .sl (b.map eInt)] fun r => r = .bool (decide (a = b)) := by
  refine PFun.of hT Tryz.func107 rfl fun B hD => ?_
  refine pw_norm rfl ?_
  unfold Small at hl
  (refine zGo ?_)
  refine pw_cond rfl (fun h => ?_) (fun h => ?_)
  · (refine zGo ?_)
    refine ret1 _ rfl ?_ rfl
    have : ¬ a = b := by rintro rfl; simp at h
    simp [this]
  · (refine zGo ?_)
    have hab : a.length = b.length := by have h' := h; simp [List.length_map] at h'; omega
    refine pw_for hD (fun i : Nat => [(5, .int .i64 i)]) (fun _ => []) (fun i => i ≤ a.length ∧ ∀ j : Nat, j < i → a[j]? = b[j]?) (fun i => a.length - i) 0 ⟨by omega, by intro j h; omega⟩ 0 rfl (fun _ => rfl) (StLe.refl _) (fun _ => rfl) (fun _ => rfl) (by (exact zLe)) ?_
    rintro i ⟨hi, hno⟩
    (refine zGo ?_)
    refine pw_cond rfl (fun h => ?_) (fun h => ?_)
    · rename_i h1
      simp only [decide_eq_true_eq, List.length_map] at h
      have hlt : i < a.length := by omega
      (refine zGo ?_)
      refine pw_draw [(0, true), (1, true), (2, true), (3, true), (4, true), (5, true), (6, true), (7, true), (8, true)] hmix (by decide +kernel) ?_
      (refine zDgo ?_)
      (refine po_val rfl rfl (v_index (p := eInt a[i]) hT rfl rfl rfl rfl (by omega) (by simp [hlt]) rfl) ?_; refine zDn ?_)
      (refine zDgo ?_)
      (refine po_val rfl rfl (v_index (p := eInt (b[i]'(by omega))) hT rfl rfl rfl rfl (by omega) (by simp [hab ▸ hlt]) rfl) ?_; refine zDn ?_)
      (refine zDgo ?_)
      (refine zGo ?_)
      refine pw_cond rfl (fun h2 => ?_) (fun h2 => ?_)
      · (refine zGo ?_)
        refine ret1 _ rfl ?_ rfl
        have : ¬ a = b := by rintro rfl; simp at h2
        simp [this]
      · (refine zGo ?_)
        refine ⟨i + 1, ⟨by omega, fun j hj => ?_⟩, by omega, by (exact zLe), StLe.refl _⟩
        rcases Nat.lt_succ_iff_lt_or_eq.1 hj with hj | rfl
        · exact hno j hj
        · rw [List.getElem?_eq_getElem hlt, List.getElem?_eq_getElem (by omega)]; simpa using h2
    · simp only [decide_eq_false_iff_not, List.length_map] at h
      (refine zGo ?_)
      refine ret1 _ rfl ?_ rfl
      have : a = b := by
        apply List.ext_getElem?
        intro j
        by_cases hj : j < i
        · exact hno j hj
        · rw [List.getElem?_eq_none (by omega), List.getElem?_eq_none (by omega)]
      simp [this]
theorem c68 (a b : List Int) (hl : Small a) : PFun Tryz.prog Gl 68 [.sl (a.map eInt), .sl (b.map eInt)] fun r => r = .bool (decide (a = b)) := by
  refine PFun.of hT Tryz.func68 rfl fun B hD => ?_
  refine pw_norm rfl ?_
  (refine zGo ?_)
  (refine pl_op rfl (op_fun (c107 a b hl) rfl rfl e107 zLe rfl (fun r hr => ?_)); subst hr; refine ⟨rfl, ?_⟩; (refine zNp ?_))
  (refine zGo ?_)
  refine ret1 _ rfl rfl rfl
end Go.Proofs.YtdehdgbdcfkpbaaGreatDoor
