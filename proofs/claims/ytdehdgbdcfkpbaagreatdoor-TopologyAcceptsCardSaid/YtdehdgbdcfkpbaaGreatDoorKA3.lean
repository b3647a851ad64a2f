/-
  slices.IndexFunc and slices.ContainsFunc; printed by a program of mine.
-/
import Derived.Test.YtdehdgbdcfkpbaaGreatDoorKEnts
import Derived.Test.YtdehdgbdcfkpbaaGreatDoorKC1
namespace Go.Proofs.YtdehdgbdcfkpbaaGreatDoor
open Go Go.Pw
variable {Gl : Glob}
attribute [local irreducible] PW PWL OpP PCalls PWO

theorem c86 {f : FuncId} (hf : Enters Tryz.prog f) {cs : List PV} (hcs : cs.all (PV.refs (fun _ => false) 5) = true) {xs : List TDev} (hl : Small xs) {p : TDev → Bool} (hp : ∀ x ∈ xs, PCalls Tryz.prog Gl f [eDev x, .ptr 0 0] [.box cs] fun r s => r = .bool (p x) ∧ s = [.box cs]) :
    PCalls Tryz.prog Gl 86 [.sl (xs.map eDev), .fn f [.ptr 0 0]] [.box cs] fun r s => r = .int .i64 (firstAt p xs) ∧ s = [.box cs] := by
  refine PCalls.of hT Tryz.func86 rfl 1 (Nat.le_refl _) fun B hD => ?_
  refine pw_normE rfl ?_
  (refine zGo ?_)
  refine pw_for hD (fun i : Nat => [(8, .int .i64 i)]) (fun _ => [.box cs]) (fun i => i ≤ xs.length ∧ ∀ (j : Nat) d, j < i → xs[j]? = some d → p d = false) (fun i => xs.length - i) 0 ⟨by omega, by intro j d h; omega⟩ 1 rfl (fun _ => rfl) (StLe.refl _) (fun _ => rfl) (fun _ => both rfl (box1 hcs _)) (by (exact zLe)) ?_
  rintro i ⟨hi, hno⟩
  unfold Small at hl
  (refine zGo ?_)
  refine pw_cond rfl (fun h => ?_) (fun h => ?_)
  · simp only [decide_eq_true_eq, List.length_map] at h
    have hlt : i < xs.length := by omega
    (refine zGo ?_)
    (refine pl_op rfl (op_of (v_index (p := eDev xs[i]) hT rfl rfl rfl rfl (by omega) (by simp [hlt]) rfl) ?_); refine pl_normE rfl ?_)
    (refine zGo ?_)
    refine pl_op rfl (op_pred (v := eDev xs[i]) hcs (hp xs[i] (List.getElem_mem hlt)) rfl rfl rfl rfl hf rfl ?_); refine pl_normE rfl ?_
    (refine zGo ?_)
    refine pw_cond rfl (fun h2 => ?_) (fun h2 => ?_)
    · (refine zGo ?_)
      exact ⟨_, _, _, rfl, ⟨by rw [firstAt_hit hlt h2 hno]; rfl, rfl⟩, .inr (.inl rfl), ⟨.inr (.inl rfl), trivial⟩, rfl, box1 hcs _⟩
    · (refine zGo ?_)
      refine ⟨i + 1, ⟨by omega, fun j d hj hd => ?_⟩, by omega, by (exact zLe), StLe.refl _⟩
      rcases Nat.lt_succ_iff_lt_or_eq.1 hj with hj | rfl
      · exact hno j d hj hd
      · rw [List.getElem?_eq_getElem hlt] at hd; cases hd; exact h2
  · simp only [decide_eq_false_iff_not, List.length_map] at h
    (refine zGo ?_)
    exact ⟨_, _, _, rfl, ⟨by rw [firstAt_miss fun j x hj => hno j x (by have := (List.getElem?_eq_some_iff.1 hj).1; omega) hj]; rfl, rfl⟩, .inr (.inl rfl), ⟨.inr (.inl rfl), trivial⟩, rfl, box1 hcs _⟩

theorem c55 {f : FuncId} (hf : Enters Tryz.prog f) {cs : List PV} (hcs : cs.all (PV.refs (fun _ => false) 5) = true) {xs : List TEdge} (hl : Small xs) {p : TEdge → Bool} (hp : ∀ x ∈ xs, PCalls Tryz.prog Gl f [eEdge x, .ptr 0 0] [.box cs] fun r s => r = .bool (p x) ∧ s = [.box cs]) :
    PCalls Tryz.prog Gl 55 [.sl (xs.map eEdge), .fn f [.ptr 0 0]] [.box cs] fun r s => r = .int .i64 (firstAt p xs) ∧ s = [.box cs] := by
  refine PCalls.of hT Tryz.func55 rfl 1 (Nat.le_refl _) fun B hD => ?_
  refine pw_normE rfl ?_
  (refine zGo ?_)
  refine pw_for hD (fun i : Nat => [(8, .int .i64 i)]) (fun _ => [.box cs]) (fun i => i ≤ xs.length ∧ ∀ (j : Nat) d, j < i → xs[j]? = some d → p d = false) (fun i => xs.length - i) 0 ⟨by omega, by intro j d h; omega⟩ 1 rfl (fun _ => rfl) (StLe.refl _) (fun _ => rfl) (fun _ => both rfl (box1 hcs _)) (by (exact zLe)) ?_
  rintro i ⟨hi, hno⟩
  unfold Small at hl
  (refine zGo ?_)
  refine pw_cond rfl (fun h => ?_) (fun h => ?_)
  · simp only [decide_eq_true_eq, List.length_map] at h
    have hlt : i < xs.length := by omega
    (refine zGo ?_)
    (refine pl_op rfl (op_of (v_index (p := eEdge xs[i]) hT rfl rfl rfl rfl (by omega) (by simp [hlt]) rfl) ?_); refine pl_normE rfl ?_)
    (refine zGo ?_)
    refine pl_op rfl (op_pred (v := eEdge xs[i]) hcs (hp xs[i] (List.getElem_mem hlt)) rfl rfl rfl rfl hf rfl ?_); refine pl_normE rfl ?_
    (refine zGo ?_)
    refine pw_cond rfl (fun h2 => ?_) (fun h2 => ?_)
    · (refine zGo ?_)
      exact ⟨_, _, _, rfl, ⟨by rw [firstAt_hit hlt h2 hno]; rfl, rfl⟩, .inr (.inl rfl), ⟨.inr (.inl rfl), trivial⟩, rfl, box1 hcs _⟩
    · (refine zGo ?_)
      refine ⟨i + 1, ⟨by omega, fun j d hj hd => ?_⟩, by omega, by (exact zLe), StLe.refl _⟩
      rcases Nat.lt_succ_iff_lt_or_eq.1 hj with hj | rfl
      · exact hno j d hj hd
      · rw [List.getElem?_eq_getElem hlt] at hd; cases hd; exact h2
  · simp only [decide_eq_false_iff_not, List.length_map] at h
    (refine zGo ?_)
    exact ⟨_, _, _, rfl, ⟨by rw [firstAt_miss fun j x hj => hno j x (by have := (List.getElem?_eq_some_iff.1 hj).1; omega) hj]; rfl, rfl⟩, .inr (.inl rfl), ⟨.inr (.inl rfl), trivial⟩, rfl, box1 hcs _⟩

theorem c55n {f : FuncId} (hf : Enters Tryz.prog f) {xs : List TEdge} (hl : Small xs) {p : TEdge → Bool} (hp : ∀ x ∈ xs, PFun Tryz.prog Gl f [eEdge x] fun r => r = .bool (p x)) :
    PFun Tryz.prog Gl 55 [.sl (xs.map eEdge), .fn f []] fun r => r = .int .i64 (firstAt p xs) := by
  refine PFun.of hT Tryz.func55 rfl fun B hD => ?_
  refine pw_normE rfl ?_
  (refine zGo ?_)
  refine pw_for hD (fun i : Nat => [(8, .int .i64 i)]) (fun _ => []) (fun i => i ≤ xs.length ∧ ∀ (j : Nat) d, j < i → xs[j]? = some d → p d = false) (fun i => xs.length - i) 0 ⟨by omega, by intro j d h; omega⟩ 0 rfl (fun _ => rfl) (StLe.refl _) (fun _ => rfl) (fun _ => rfl) (by (exact zLe)) ?_
  rintro i ⟨hi, hno⟩
  unfold Small at hl
  (refine zGo ?_)
  refine pw_cond rfl (fun h => ?_) (fun h => ?_)
  · simp only [decide_eq_true_eq, List.length_map] at h
    have hlt : i < xs.length := by omega
    (refine zGo ?_)
    (refine pl_op rfl (op_of (v_index (p := eEdge xs[i]) hT rfl rfl rfl rfl (by omega) (by simp [hlt]) rfl) ?_); refine pl_normE rfl ?_)
    (refine zGo ?_)
    refine pl_op rfl (op_fun (hp xs[i] (List.getElem_mem hlt)) rfl rfl hf (by (exact zLe)) rfl (fun r hr => ?_)); subst hr; refine ⟨rfl, ?_⟩; refine pl_normE rfl ?_
    (refine zGo ?_)
    refine pw_cond rfl (fun h2 => ?_) (fun h2 => ?_)
    · (refine zGo ?_)
      exact ret1 _ rfl (by rw [firstAt_hit hlt h2 hno]) rfl
    · (refine zGo ?_)
      refine ⟨i + 1, ⟨by omega, fun j d hj hd => ?_⟩, by omega, by (exact zLe), StLe.refl _⟩
      rcases Nat.lt_succ_iff_lt_or_eq.1 hj with hj | rfl
      · exact hno j d hj hd
      · rw [List.getElem?_eq_getElem hlt] at hd; cases hd; exact h2
  · simp only [decide_eq_false_iff_not, List.length_map] at h
    (refine zGo ?_)
    exact ret1 _ rfl (by rw [firstAt_miss fun j x hj => hno j x (by have := (List.getElem?_eq_some_iff.1 hj).1; omega) hj]) rfl

theorem c91 {f : FuncId} (hf : Enters Tryz.prog f) {cs : List PV} (hcs : cs.all (PV.refs (fun _ => false) 5) = true) {xs : List TPfx} (hl : Small xs) {p : TPfx → Bool} (hp : ∀ x ∈ xs, PCalls Tryz.prog Gl f [ePfx x, .ptr 0 0] [.box cs] fun r s => r = .bool (p x) ∧ s = [.box cs]) :
    PCalls Tryz.prog Gl 91 [.sl (xs.map ePfx), .fn f [.ptr 0 0]] [.box cs] fun r s => r = .int .i64 (firstAt p xs) ∧ s = [.box cs] := by
  refine PCalls.of hT Tryz.func91 rfl 1 (Nat.le_refl _) fun B hD => ?_
  refine pw_normE rfl ?_
  (refine zGo ?_)
  refine pw_for hD (fun i : Nat => [(8, .int .i64 i)]) (fun _ => [.box cs]) (fun i => i ≤ xs.length ∧ ∀ (j : Nat) d, j < i → xs[j]? = some d → p d = false) (fun i => xs.length - i) 0 ⟨by omega, by intro j d h; omega⟩ 1 rfl (fun _ => rfl) (StLe.refl _) (fun _ => rfl) (fun _ => both rfl (box1 hcs _)) (by (exact zLe)) ?_
  rintro i ⟨hi, hno⟩
  unfold Small at hl
  (refine zGo ?_)
  refine pw_cond rfl (fun h => ?_) (fun h => ?_)
  · simp only [decide_eq_true_eq, List.length_map] at h
    have hlt : i < xs.length := by omega
    (refine zGo ?_)
    (refine pl_op rfl (op_of (v_index (p := ePfx xs[i]) hT rfl rfl rfl rfl (by omega) (by simp [hlt]) rfl) ?_); refine pl_normE rfl ?_)
    (refine zGo ?_)
    refine pl_op rfl (op_pred (v := ePfx xs[i]) hcs (hp xs[i] (List.getElem_mem hlt)) rfl rfl rfl rfl hf rfl ?_); refine pl_normE rfl ?_
    (refine zGo ?_)
    refine pw_cond rfl (fun h2 => ?_) (fun h2 => ?_)
    · (refine zGo ?_)
      exact ⟨_, _, _, rfl, ⟨by rw [firstAt_hit hlt h2 hno]; rfl, rfl⟩, .inr (.inl rfl), ⟨.inr (.inl rfl), trivial⟩, rfl, box1 hcs _⟩
    · (refine zGo ?_)
      refine ⟨i + 1, ⟨by omega, fun j d hj hd => ?_⟩, by omega, by (exact zLe), StLe.refl _⟩
      rcases Nat.lt_succ_iff_lt_or_eq.1 hj with hj | rfl
      · exact hno j d hj hd
      · rw [List.getElem?_eq_getElem hlt] at hd; cases hd; exact h2
  · simp only [decide_eq_false_iff_not, List.length_map] at h
    (refine zGo ?_)
    exact ⟨_, _, _, rfl, ⟨by rw [firstAt_miss fun j x hj => hno j x (by have := (List.getElem?_eq_some_iff.1 hj).1; omega) hj]; rfl, rfl⟩, .inr (.inl rfl), ⟨.inr (.inl rfl), trivial⟩, rfl, box1 hcs _⟩

theorem c83 {f : FuncId} (hf : Enters Tryz.prog f) {cs : List PV} (hcs : cs.all (PV.refs (fun _ => false) 5) = true) {xs : List TEdge} (hl : Small xs) {p : TEdge → Bool} (hp : ∀ x ∈ xs, PCalls Tryz.prog Gl f [eEdge x, .ptr 0 0] [.box cs] fun r s => r = .bool (p x) ∧ s = [.box cs]) :
    PCalls Tryz.prog Gl 83 [.sl (xs.map eEdge), .fn f [.ptr 0 0]] [.box cs] fun r s => r = .bool (xs.any p) ∧ s = [.box cs] := by
  refine PCalls.of hT Tryz.func83 rfl 1 (Nat.le_refl _) fun B hD => ?_
  refine pw_normE rfl ?_
  (refine zGo ?_)
  refine pl_op rfl (op_call [0] rfl rfl e55 (by simp) rfl rfl (by simp only [List.all_cons, List.all_nil, Bool.and_true, List.getD_cons_zero]; exact (by simpa using box1 hcs [0].contains)) (cargs := [.sl (xs.map eEdge), .fn f [.ptr 0 0]]) (cst := [.box cs]) (by (exact zLe)) (by simp only [selSt, List.map_cons, List.map_nil, List.getD_cons_zero, PObj.ren_none hcs]; exact StLe.refl _) (c55 hf hcs hl hp) ?_)
  rintro r s ⟨rfl, rfl⟩
  refine ⟨rfl, box1 hcs _, ?_⟩
  simp only [List.map_cons, List.map_nil, PObj.ren_none hcs]
  refine pl_normE rfl ?_
  (refine zGo ?_)
  exact ⟨_, _, _, rfl, ⟨by rw [firstAt_any]; rfl, rfl⟩, .inr (.inl rfl), ⟨.inr (.inl rfl), trivial⟩, rfl, box1 hcs _⟩

theorem c83n {f : FuncId} (hf : Enters Tryz.prog f) {xs : List TEdge} (hl : Small xs) {p : TEdge → Bool} (hp : ∀ x ∈ xs, PFun Tryz.prog Gl f [eEdge x] fun r => r = .bool (p x)) :
    PFun Tryz.prog Gl 83 [.sl (xs.map eEdge), .fn f []] fun r => r = .bool (xs.any p) := by
  refine PFun.of hT Tryz.func83 rfl fun B hD => ?_
  refine pw_normE rfl ?_
  (refine zGo ?_)
  refine pl_op rfl (op_fun (c55n hf hl hp) rfl rfl e55 (by (exact zLe)) rfl (fun r hr => ?_)); subst hr; refine ⟨rfl, ?_⟩; refine pl_normE rfl ?_
  (refine zGo ?_)
  exact ret1 _ rfl (by rw [firstAt_any]) rfl

theorem c46 {f : FuncId} (hf : Enters Tryz.prog f) {cs : List PV} (hcs : cs.all (PV.refs (fun _ => false) 5) = true) {xs : List TPfx} (hl : Small xs) {p : TPfx → Bool} (hp : ∀ x ∈ xs, PCalls Tryz.prog Gl f [ePfx x, .ptr 0 0] [.box cs] fun r s => r = .bool (p x) ∧ s = [.box cs]) :
    PCalls Tryz.prog Gl 46 [.sl (xs.map ePfx), .fn f [.ptr 0 0]] [.box cs] fun r s => r = .bool (xs.any p) ∧ s = [.box cs] := by
  refine PCalls.of hT Tryz.func46 rfl 1 (Nat.le_refl _) fun B hD => ?_
  refine pw_normE rfl ?_
  (refine zGo ?_)
  refine pl_op rfl (op_call [0] rfl rfl e91 (by simp) rfl rfl (by simp only [List.all_cons, List.all_nil, Bool.and_true, List.getD_cons_zero]; exact (by simpa using box1 hcs [0].contains)) (cargs := [.sl (xs.map ePfx), .fn f [.ptr 0 0]]) (cst := [.box cs]) (by (exact zLe)) (by simp only [selSt, List.map_cons, List.map_nil, List.getD_cons_zero, PObj.ren_none hcs]; exact StLe.refl _) (c91 hf hcs hl hp) ?_)
  rintro r s ⟨rfl, rfl⟩
  refine ⟨rfl, box1 hcs _, ?_⟩
  simp only [List.map_cons, List.map_nil, PObj.ren_none hcs]
  refine pl_normE rfl ?_
  (refine zGo ?_)
  exact ⟨_, _, _, rfl, ⟨by rw [firstAt_any]; rfl, rfl⟩, .inr (.inl rfl), ⟨.inr (.inl rfl), trivial⟩, rfl, box1 hcs _⟩
end Go.Proofs.YtdehdgbdcfkpbaaGreatDoor
namespace Go.Proofs.YtdehdgbdcfkpbaaGreatDoor
open Go Go.Pw
variable {Gl : Glob}
attribute [local irreducible] PW PWL OpP PCalls PWO

theorem c87 (name : Str) (d : TDev) : PCalls Tryz.prog Gl 87 [eDev d, .ptr 0 0] [.box [.str name]] fun r st => r = .bool (d.name == name) ∧ st = [.box [.str name]] := by
  refine PCalls.of hT Tryz.func87 rfl 1 (Nat.le_refl _) fun B hD => ?_
  refine pw_norm rfl ?_
  (refine zGo ?_)
  exact ⟨_, _, _, rfl, ⟨rfl, rfl⟩, .inr (.inl rfl), ⟨.inr (.inl rfl), trivial⟩, rfl, rfl⟩
theorem c88 (name : Str) (d : TEdge) : PCalls Tryz.prog Gl 88 [eEdge d, .ptr 0 0] [.box [.str name]] fun r st => r = .bool (d.name == name) ∧ st = [.box [.str name]] := by
  refine PCalls.of hT Tryz.func88 rfl 1 (Nat.le_refl _) fun B hD => ?_
  refine pw_norm rfl ?_
  (refine zGo ?_)
  exact ⟨_, _, _, rfl, ⟨rfl, rfl⟩, .inr (.inl rfl), ⟨.inr (.inl rfl), trivial⟩, rfl, rfl⟩
theorem c109 (n : Int) (d : TEdge) : PCalls Tryz.prog Gl 109 [eEdge d, .ptr 0 0] [.box [.int .i64 n]] fun r st => r = .bool (d.dev == n) ∧ st = [.box [.int .i64 n]] := by
  refine PCalls.of hT Tryz.func109 rfl 1 (Nat.le_refl _) fun B hD => ?_
  refine pw_norm rfl ?_
  (refine zGo ?_)
  exact ⟨_, _, _, rfl, ⟨rfl, rfl⟩, .inr (.inl rfl), ⟨.inr (.inl rfl), trivial⟩, rfl, rfl⟩
theorem c110 (name : Str) (d : TEdge) : PCalls Tryz.prog Gl 110 [eEdge d, .ptr 0 0] [.box [.str name]] fun r st => r = .bool (d.zone == name) ∧ st = [.box [.str name]] := by
  refine PCalls.of hT Tryz.func110 rfl 1 (Nat.le_refl _) fun B hD => ?_
  refine pw_norm rfl ?_
  (refine zGo ?_)
  exact ⟨_, _, _, rfl, ⟨rfl, rfl⟩, .inr (.inl rfl), ⟨.inr (.inl rfl), trivial⟩, rfl, rfl⟩
theorem c84 (d : TEdge) : PFun Tryz.prog Gl 84 [eEdge d] fun r => r = .bool d.planned := by
  refine PFun.of hT Tryz.func84 rfl fun B hD => ?_
  refine pw_norm rfl ?_
  (refine zGo ?_)
  refine ret1 _ rfl rfl rfl
theorem c56 (a : Int) (d : TEdge) : PCalls Tryz.prog Gl 56 [eEdge d, .ptr 0 0] [.box [.int .u32 a]] fun r st => r = .bool (!d.planned && pcont d.pfx a) ∧ st = [.box [.int .u32 a]] := by
  refine PCalls.of hT Tryz.func56 rfl 1 (Nat.le_refl _) fun B hD => ?_
  refine pw_norm rfl ?_
  (refine zGo ?_)
  refine pl_split 7 rfl (fun h => ?_) (fun h => ?_)
  · (refine zGo ?_)
    (refine pl_on rfl rfl (op_fun (c57 d.pfx a) rfl rfl e57 zLe rfl (fun r hr => ?_)); subst hr; refine ⟨rfl, ?_⟩; (refine zNp ?_))
    (refine zGo ?_)
    exact ⟨_, _, _, rfl, ⟨by rw [h, Bool.true_and]; rfl, rfl⟩, .inr (.inl rfl), ⟨.inr (.inl rfl), trivial⟩, rfl, rfl⟩
  · (refine zGo ?_)
    exact ⟨_, _, _, rfl, ⟨by rw [h, Bool.false_and]; rfl, rfl⟩, .inr (.inl rfl), ⟨.inr (.inl rfl), trivial⟩, rfl, rfl⟩
theorem c47 (p q : TPfx) : PCalls Tryz.prog Gl 47 [ePfx q, .ptr 0 0] [.box [.int .u32 p.addr, .int .i64 p.bits]] fun r st => r = .bool (pover p q) ∧ st = [.box [.int .u32 p.addr, .int .i64 p.bits]] := by
  refine PCalls.of hT Tryz.func47 rfl 1 (Nat.le_refl _) fun B hD => ?_
  refine pw_norm rfl ?_
  (refine zGo ?_)
  (refine pl_op rfl (op_fun (c44 p q) rfl rfl e44 zLe rfl (fun r hr => ?_)); subst hr; refine ⟨rfl, ?_⟩; (refine zNp ?_))
  (refine zGo ?_)
  exact ⟨_, _, _, rfl, ⟨rfl, rfl⟩, .inr (.inl rfl), ⟨.inr (.inl rfl), trivial⟩, rfl, rfl⟩
theorem c106 (p q : TPfx) : PCalls Tryz.prog Gl 106 [ePfx q, .ptr 0 0] [.box [.int .u32 p.addr, .int .i64 p.bits]] fun r st => r = .bool (pover q p) ∧ st = [.box [.int .u32 p.addr, .int .i64 p.bits]] := by
  refine PCalls.of hT Tryz.func106 rfl 1 (Nat.le_refl _) fun B hD => ?_
  refine pw_norm rfl ?_
  (refine zGo ?_)
  (refine pl_op rfl (op_fun (c44 q p) rfl rfl e44 zLe rfl (fun r hr => ?_)); subst hr; refine ⟨rfl, ?_⟩; (refine zNp ?_))
  (refine zGo ?_)
  exact ⟨_, _, _, rfl, ⟨rfl, rfl⟩, .inr (.inl rfl), ⟨.inr (.inl rfl), trivial⟩, rfl, rfl⟩
theorem c105 (e d : TEdge) : PCalls Tryz.prog Gl 105 [eEdge d, .ptr 0 0] [.box (eEdge e).cells] fun r st => r = .bool (!d.planned && pover d.pfx e.pfx) ∧ st = [.box (eEdge e).cells] := by
  refine PCalls.of hT Tryz.func105 rfl 1 (Nat.le_refl _) fun B hD => ?_
  refine pw_norm rfl ?_
  (refine zGo ?_)
  refine pl_split 7 rfl (fun h => ?_) (fun h => ?_)
  · (refine zGo ?_)
    (refine pl_on rfl rfl (op_fun (c44 d.pfx e.pfx) rfl rfl e44 zLe rfl (fun r hr => ?_)); subst hr; refine ⟨rfl, ?_⟩; (refine zNp ?_))
    (refine zGo ?_)
    exact ⟨_, _, _, rfl, ⟨by rw [h, Bool.true_and]; rfl, rfl⟩, .inr (.inl rfl), ⟨.inr (.inl rfl), trivial⟩, rfl, rfl⟩
  · (refine zGo ?_)
    exact ⟨_, _, _, rfl, ⟨by rw [h, Bool.false_and]; rfl, rfl⟩, .inr (.inl rfl), ⟨.inr (.inl rfl), trivial⟩, rfl, rfl⟩
end Go.Proofs.YtdehdgbdcfkpbaaGreatDoor
