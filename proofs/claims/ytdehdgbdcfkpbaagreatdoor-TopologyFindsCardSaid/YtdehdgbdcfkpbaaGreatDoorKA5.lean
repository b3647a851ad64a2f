/-
  Contracts of functions, walked over pure values.
-/
import Derived.Test.YtdehdgbdcfkpbaaGreatDoorKA4
namespace Go.Proofs.YtdehdgbdcfkpbaaGreatDoor
open Go Go.Pw
variable {Gl : Glob}
attribute [local irreducible] PW PWL OpP PCalls PWO

def tDevice (t : Topo) (name : Str) : Int := firstAt (fun d => d.name == name) t.devs
def tEdge (t : Topo) (name : Str) : Int := firstAt (fun d => d.name == name) t.edges
theorem c41 (t : Topo) (name : Str) (hl : Small t.devs) : PFun Tryz.prog Gl 41 [eTopo t, .str name] fun r => r = .int .i64 (tDevice t name) := by
  refine PFun.of hT Tryz.func41 rfl fun B hD => ?_
  refine pw_norm rfl ?_
  (refine zGo ?_)
  (refine pl_op rfl (op_call [1] rfl rfl e86 (by decide) rfl rfl rfl zLe zLes (c86 e87 (by rfl) hl fun x _ => c87 name x) (fun r s hq => ?_)); obtain ⟨rfl, rfl⟩ := hq; refine ⟨rfl, rfl, ?_⟩; (refine zNp ?_))
  (refine zGo ?_)
  refine ret1 _ rfl rfl rfl
theorem c43 (t : Topo) (name : Str) (hl : Small t.edges) : PFun Tryz.prog Gl 43 [eTopo t, .str name] fun r => r = .int .i64 (tEdge t name) := by
  refine PFun.of hT Tryz.func43 rfl fun B hD => ?_
  refine pw_norm rfl ?_
  (refine zGo ?_)
  (refine pl_op rfl (op_call [1] rfl rfl e55 (by decide) rfl rfl rfl zLe zLes (c55 e88 (by rfl) hl fun x _ => c88 name x) (fun r s hq => ?_)); obtain ⟨rfl, rfl⟩ := hq; refine ⟨rfl, rfl, ?_⟩; (refine zNp ?_))
  (refine zGo ?_)
  refine ret1 _ rfl rfl rfl
def tAt (t : Topo) (a : Int) : Int := firstAt (fun d => !d.planned && pcont d.pfx a) t.edges
theorem c24 (t : Topo) (a : Int) (hl : Small t.edges) : PFun Tryz.prog Gl 24 [eTopo t, .int .u32 a] fun r => r = .int .i64 (tAt t a) := by
  refine PFun.of hT Tryz.func24 rfl fun B hD => ?_
  refine pw_norm rfl ?_
  (refine zGo ?_)
  (refine pl_op rfl (op_call [1] rfl rfl e55 (by decide) rfl rfl rfl zLe zLes (c55 e56 (by rfl) hl fun x _ => c56 a x) (fun r s hq => ?_)); obtain ⟨rfl, rfl⟩ := hq; refine ⟨rfl, rfl, ?_⟩; (refine zNp ?_))
  (refine zGo ?_)
  refine ret1 _ rfl rfl rfl
/-- topology.indexes, at a function value that looks at a box of one cell. -/
theorem c108i {f : FuncId} (hf : Enters Tryz.prog f) {n : Int} (t : Topo) (hl : Small t.edges) {p : TEdge → Bool} (hp : ∀ x, PCalls Tryz.prog Gl f [eEdge x, .ptr 0 0] [.box [.int .i64 n]] fun r s => r = .bool (p x) ∧ s = [.box [.int .i64 n]]) :
    PCalls Tryz.prog Gl 108 [eTopo t, .fn f [.ptr 0 0]] [.box [.int .i64 n]] fun r s => r = .sl ((idxs p t.edges).map eInt) ∧ s = [.box [.int .i64 n]] := by
  refine PCalls.of hT Tryz.func108 rfl 1 (Nat.le_refl _) fun B hD => ?_
  refine pw_norm rfl ?_
  (refine zGo ?_)
  refine pw_ghost 1 ?_
  refine pw_norm rfl ?_
  refine pw_for hD (fun a : Nat × Nat => [(5, .msl 1 2 0 ((selTo p t.edges a.1).map eInt).length a.2), (11, .int .i64 a.1)]) (fun a => [.box [.int .i64 n], .box (eTopo t).cells, .arr 1 ((selTo p t.edges a.1).map eInt) a.2]) (fun a => a.1 ≤ t.edges.length) (fun a => t.edges.length - a.1) (0, 0) (by simp) 3 rfl (fun _ => rfl) (StLe.refl _) (fun _ => rfl)
    (fun _ => rfl) (by (exact zLe)) ?_
  rintro ⟨i, cap⟩ hi
  unfold Small at hl
  (refine zGo ?_)
  refine pw_cond rfl (fun h => ?_) (fun h => ?_)
  · simp only [decide_eq_true_eq, List.length_map] at h
    have hlt : i < t.edges.length := by omega
    (refine zGo ?_)
    (refine pl_op rfl (op_of (v_index (p := eEdge t.edges[i]) hT rfl rfl rfl rfl (by omega) (by simp [hlt]) rfl) ?_); (refine zNp ?_))
    (refine zGo ?_)
    refine pl_op rfl (op_pred (v := eEdge t.edges[i]) rfl (hp t.edges[i]) rfl rfl rfl rfl hf rfl ?_)
    refine pl_norm rfl ?_
    (refine zGo ?_)
    refine pw_cond rfl (fun h2 => ?_) (fun h2 => ?_)
    · (refine zGo ?_)
      have hn := selTo_len p t.edges i
      (refine pl_append (b := 8) hT hD rfl rfl rfl rfl rfl rfl rfl rfl (.inl (Nat.zero_lt_succ _)) rfl rfl (by simp; omega) (fun cap' _ hcap => ?_); (refine zNp ?_))
      (refine zGo ?_)
      have hs := selTo_yes (p := p) (l := t.edges) (List.getElem?_eq_getElem hlt) h2
      refine ⟨(i + 1, cap'), by show i + 1 ≤ _; omega, by show _ - (i + 1) < _ - i; omega, ?_, ?_⟩
      · simp only [hs, List.map_append, List.length_append]
        (exact zLe)
      · simp only [hs, List.map_append]
        (exact zLes)
    · (refine zGo ?_)
      have hs := selTo_no (p := p) (l := t.edges) (List.getElem?_eq_getElem hlt) h2
      refine ⟨(i + 1, cap), by show i + 1 ≤ _; omega, by show _ - (i + 1) < _ - i; omega, ?_, ?_⟩
      · simp only [hs]
        (exact zLe)
      · simp only [hs]
        (exact zLes)
  · simp only [decide_eq_false_iff_not, List.length_map] at h
    have hge : i = t.edges.length := by omega
    subst hge
    (refine zGo ?_)
    exact ⟨_, _, _, rfl, ⟨rfl, rfl⟩, .inr (.inr (.inr (.inl ⟨_, _, _, _, _, _, rfl, rfl, rfl, rfl, rfl⟩))), ⟨.inr (.inl rfl), trivial⟩, rfl, rfl⟩
/-- topology.indexes, at a function value that looks at a box of one cell. -/
theorem c108s {f : FuncId} (hf : Enters Tryz.prog f) {n : Str} (t : Topo) (hl : Small t.edges) {p : TEdge → Bool} (hp : ∀ x, PCalls Tryz.prog Gl f [eEdge x, .ptr 0 0] [.box [.str n]] fun r s => r = .bool (p x) ∧ s = [.box [.str n]]) :
    PCalls Tryz.prog Gl 108 [eTopo t, .fn f [.ptr 0 0]] [.box [.str n]] fun r s => r = .sl ((idxs p t.edges).map eInt) ∧ s = [.box [.str n]] := by
  refine PCalls.of hT Tryz.func108 rfl 1 (Nat.le_refl _) fun B hD => ?_
  refine pw_norm rfl ?_
  (refine zGo ?_)
  refine pw_ghost 1 ?_
  refine pw_norm rfl ?_
  refine pw_for hD (fun a : Nat × Nat => [(5, .msl 1 2 0 ((selTo p t.edges a.1).map eInt).length a.2), (11, .int .i64 a.1)]) (fun a => [.box [.str n], .box (eTopo t).cells, .arr 1 ((selTo p t.edges a.1).map eInt) a.2]) (fun a => a.1 ≤ t.edges.length) (fun a => t.edges.length - a.1) (0, 0) (by simp) 3 rfl (fun _ => rfl) (StLe.refl _) (fun _ => rfl)
    (fun _ => rfl) (by (exact zLe)) ?_
  rintro ⟨i, cap⟩ hi
  unfold Small at hl
  (refine zGo ?_)
  refine pw_cond rfl (fun h => ?_) (fun h => ?_)
  · simp only [decide_eq_true_eq, List.length_map] at h
    have hlt : i < t.edges.length := by omega
    (refine zGo ?_)
    (refine pl_op rfl (op_of (v_index (p := eEdge t.edges[i]) hT rfl rfl rfl rfl (by omega) (by simp [hlt]) rfl) ?_); (refine zNp ?_))
    (refine zGo ?_)
    refine pl_op rfl (op_pred (v := eEdge t.edges[i]) rfl (hp t.edges[i]) rfl rfl rfl rfl hf rfl ?_)
    refine pl_norm rfl ?_
    (refine zGo ?_)
    refine pw_cond rfl (fun h2 => ?_) (fun h2 => ?_)
    · (refine zGo ?_)
      have hn := selTo_len p t.edges i
      (refine pl_append (b := 8) hT hD rfl rfl rfl rfl rfl rfl rfl rfl (.inl (Nat.zero_lt_succ _)) rfl rfl (by simp; omega) (fun cap' _ hcap => ?_); (refine zNp ?_))
      (refine zGo ?_)
      have hs := selTo_yes (p := p) (l := t.edges) (List.getElem?_eq_getElem hlt) h2
      refine ⟨(i + 1, cap'), by show i + 1 ≤ _; omega, by show _ - (i + 1) < _ - i; omega, ?_, ?_⟩
      · simp only [hs, List.map_append, List.length_append]
        (exact zLe)
      · simp only [hs, List.map_append]
        (exact zLes)
    · (refine zGo ?_)
      have hs := selTo_no (p := p) (l := t.edges) (List.getElem?_eq_getElem hlt) h2
      refine ⟨(i + 1, cap), by show i + 1 ≤ _; omega, by show _ - (i + 1) < _ - i; omega, ?_, ?_⟩
      · simp only [hs]
        (exact zLe)
      · simp only [hs]
        (exact zLes)
  · simp only [decide_eq_false_iff_not, List.length_map] at h
    have hge : i = t.edges.length := by omega
    subst hge
    (refine zGo ?_)
    exact ⟨_, _, _, rfl, ⟨rfl, rfl⟩, .inr (.inr (.inr (.inl ⟨_, _, _, _, _, _, rfl, rfl, rfl, rfl, rfl⟩))), ⟨.inr (.inl rfl), trivial⟩, rfl, rfl⟩
def tEdges (t : Topo) (n : Int) : List Int := idxs (fun e => e.dev == n) t.edges
def tZone (t : Topo) (s : Str) : List Int := idxs (fun e => e.zone == s) t.edges
theorem c69 (t : Topo) (n : Int) (hl : Small t.edges) : PFun Tryz.prog Gl 69 [eTopo t, .int .i64 n] fun r => r = .sl ((tEdges t n).map eInt) := by
  refine PFun.of hT Tryz.func69 rfl fun B hD => ?_
  refine pw_norm rfl ?_
  (refine zGo ?_)
  (refine pl_op rfl (op_call [1] rfl rfl e108 (by decide) rfl rfl rfl zLe zLes (c108i e109 t hl (c109 n)) (fun r s hq => ?_)); obtain ⟨rfl, rfl⟩ := hq; refine ⟨rfl, rfl, ?_⟩; (refine zNp ?_))
  (refine zGo ?_)
  refine ret1 _ rfl rfl rfl
theorem c71 (t : Topo) (n : Str) (hl : Small t.edges) : PFun Tryz.prog Gl 71 [eTopo t, .str n] fun r => r = .sl ((tZone t n).map eInt) := by
  refine PFun.of hT Tryz.func71 rfl fun B hD => ?_
  refine pw_norm rfl ?_
  (refine zGo ?_)
  (refine pl_op rfl (op_call [1] rfl rfl e108 (by decide) rfl rfl rfl zLe zLes (c108s e110 t hl (c110 n)) (fun r s hq => ?_)); obtain ⟨rfl, rfl⟩ := hq; refine ⟨rfl, rfl, ?_⟩; (refine zNp ?_))
  (refine zGo ?_)
  refine ret1 _ rfl rfl rfl
end Go.Proofs.YtdehdgbdcfkpbaaGreatDoor
